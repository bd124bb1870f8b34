/- Texts joined: Sha8, Sha9, Pd0, Pd4, Pd5, Nam1, Nam2, Nam3, Nam4, Nam5, Nam6, Nam7, Nam8, Nam9, NamP, NmT, TabR, Tabs, Rl1, Iter, StrS, RoF, StoL, Sto1, Sto2, Keys, Key2, RHx, Rl2, B6L, RnP, Rn1, SxTri, Rn2, Rn3, Rn4, B6V, B6G, B6D, B6W, B6E, B6U, Kr1, Bk2, Box1, Box2, Join, Bk3, Bk4, Bk5, Srt, Bk6, Bk7, Bk8, Bk9, Xor, Trn, Turn, Ak5, Ak6, Han, Kr2, Kr3, SxIter, KyJ, CoJ, StepG, SumJ, HmL, Rep, Rep2, Hm1, Hm2, Hm3, Hsh, Hsh2, Hsh3, Mac, Pie, Pie2, Str, BxP, Rf5, Rt1, Rt2, Rt3, Rt4, Rt5, Tl2, Tl3, Kr4, Kr5, Kr6, Rl3, Bl2, Rl4, KyI, ColI, SrU, SrU2, FmU, Dec, Rl5, Sto3, Sto4, Ten, Sto5, Sto6, Sto7, BsG, InsG, DelG, StoG, SxAs, SxTriL, SxGo, Rl6, Rl7, Rl8, Rl9, Rla, Hnd, SxArg, Laid, Laid2. -/
import Derived.Test.YtloeaiafphkjnaaGreatDoorMRollLines2
import Derived.Shelf.SlGeneric
import Derived.Shelf.SlIter.Nil
import Derived.Shelf.SortM.Plain
import Derived.Shelf.SortM.SortNone
import Derived.Ground.GgzProg
import Derived.Ground.SlgmProg
import Derived.Test.YtloeaiafphkjnaaGreatDoorProg
import Derived.Maps.Keyed
import Derived.Below
import Derived.Lib.Join
import Derived.Lib.SlParts
import Derived.Lib.SlFresh
import Derived.Sort.OwnSortedInts
import Derived.Maps.RangeRun
import Derived.Lib.MakeNoZero
import Derived.Laws.Externs
import Derived.Sort.Walk0
import Derived.Lib.Builder
import Derived.Shelf.Spec.SlicesInsert
import Derived.Shelf.Spec.SlicesInsertGrow
import Derived.Handed
import Derived.Shelf.Vars
import Derived.OpenShut
import Derived.ChangeArms
import Derived.LaidMore
set_option linter.unusedVariables false
set_option linter.unusedSimpArgs false
namespace Go.Proofs.YtloeaiafphkjnaaGreatDoor.Sx
open Go Sha
attribute [local irreducible] Calls
theorem take4 (l : List UInt8) (k : Nat) (h : k + 4 ≤ l.length) : (l.drop k).take 4 = [l.getD k 0, l.getD (k + 1) 0, l.getD (k + 2) 0, l.getD (k + 3) 0] := by
  refine List.ext_getElem? fun j => ?_
  rw [List.getElem?_take]
  have g : ∀ j, j < 4 → (l.drop k)[j]? = some (l.getD (k + j) 0) := fun j hj => getD_drop l k j (by omega)
  match j with
  | 0 => simpa using g 0 (by omega)
  | 1 => simpa using g 1 (by omega)
  | 2 => simpa using g 2 (by omega)
  | 3 => simpa using g 3 (by omega)
  | n + 4 => simp; omega
theorem numB4 (a b c d : UInt8) : IntKind.u32.wrap (numB [a, b, c, d] : Int) = ((word a b c d).toNat : Int) := by
  have h1 := a.toNat_lt
  have h2 := b.toNat_lt
  have h3 := c.toNat_lt
  have h4 := d.toNat_lt
  have : numB [a, b, c, d] = a.toNat * 16777216 + b.toNat * 65536 + c.toNat * 256 + d.toNat := by
    simp only [numB, List.foldl_cons, List.foldl_nil]
    omega
  rw [this, wrap32_nat]
  rfl
theorem nxt_ac (a b c d : UInt32) : ((d + c) + b) + a = a + b + c + d := by ac_rfl
theorem odd_cell3 {g : Nat} {w : World} (h : (oddF g).p w) {i : Nat} (hi : i < 64) : w.cell? ((⟨g, 0, none⟩ : Addr).add (i * 1)) = some (u32 (K.getD i 0)) := odd_cell h hi
theorem rstep_c (w : World) (s : S8) (A : Option Addr) (l : List UInt8) (c : Nat) (hr : Bs w A l) (hk : (oddF 1).p w) (hc : l.length ≤ c) (hl : 64 ≤ l.length) (hm : c ≤ maxLen) :
    Pu Tryz.prog n_ostiaryref01_Step #[stV s, .slice A l.length c] w (stV (Sha.step s l)) := by
  have g := good_ostiaryref01_Step w (Un [])
  obtain ⟨ws, hws⟩ : ∃ ws, W l = ws := ⟨_, rfl⟩
  have hwl : ws.length = 64 := by rw [← hws]; exact W_len l
  have hst0 : Sha.step s l = s.add (rounds s ws 64) := by rw [Sha.step, hws]
  rw [hst0]
  have hs0 : Sat (cx_ostiaryref01_Step w (Un [])) Va.z 0 [] [oldF w] w := old_sat rfl
  have hs1 : Sat (cx_ostiaryref01_Step w (Un [])) Va.z 0 [] [bsF A l, oddF 1, oldF w] w := (hs0.sub 0 rfl rfl (oddF 1) rfl hk (rd_lt hk)).sub 1 rfl rfl (bsF A l) rfl hr (rd_lt hr)
  rw [maxLen_eq] at hm
  refine con_of_sx (cx := cx_ostiaryref01_Step w (Un [])) g b_ostiaryref01_Step rfl rfl (β := Va.z) [.agg (s.l.map sl32), .c (.v (.slice A l.length c))] 0 [] [bsF A l, oddF 1, oldF w] rfl rfl hs1 ?_
  have e0 : arr 64 [] = ti212.zero.map SL.v := by simp only [arr, List.nil_append, List.length_nil, List.map_replicate]; rfl
  refine loop_rule (ι := Nat) 3 (fun i => [(1, .c (.v (.slice A l.length c))), (2, .c (.p 0 0)), (4, .c (.p 1 0)), (5, .c (.p 2 0)), (6, .c (.v (.int .i64 i)))]) (fun i => [⟨2, 212, arr 64 (sched l i)⟩, ⟨1, 118, ti118.zero.map SL.v⟩, ⟨0, 118, s.l.map sl32⟩]) (fun _ => [bsF A l, oddF 1, oldF w])
    (fun i => i ≤ 64) (fun i => 64 - i) 0 (Nat.zero_le _) (Ent.mk' ⟨rfl, rfl, rfl, rfl, rfl, trivial⟩ rfl (fun β w' hs => by rw [show sched l 0 = [] from rfl, e0]; exact hs)) g ?_
  intro i hi
  refine BIf.dec (fun hlt => ?_) (fun hge => ?_)
  · have hlt : i < 64 := by omega
    have hsl : (sched l i).length = i := sched_len l i
    have ld : ∀ {k : Nat}, k < i → nth (arr 64 (sched l i)) (0 + k * 1) = some (sl32 ((sched l i).getD k 0)) := fun {k} hk => by
      rw [nth_eq, Nat.zero_add, Nat.mul_one]; exact arr_get (by omega)
    have fin : ∀ (x : UInt32), (if i < 16 then wordAt l i else nxt (sched l i) i) = x → putAll (arr 64 (sched l i)) (0 + i * 1) [sl32 x] = arr 64 (sched l (i + 1)) := fun x hx => by
      rw [putAll, putAll, putAt_eq, Nat.zero_add, Nat.mul_one]
      have := arr_set (n := 64) (ws := sched l i) (by omega) x
      rw [hsl] at this
      rw [this, sched, hx]
    have ble : Nat.ble (0 + i * 1 + 1) (arr 64 (sched l i)).length = true := by rw [arr_len (by omega), Nat.ble_eq]; omega
    refine BIf.dec (fun h16 => ?_) (fun h16 => ?_)
    · have h16 : i < 16 := by omega
      refine ⟨((4 * i : Nat) : Int), by rw [wrap_i64 (by omega) (by omega)]; omega, ((4 * i : Nat) : Int), by rw [wrap_i64 (by omega) (by omega)]; omega, ((4 * i + 4 : Nat) : Int), by rw [wrap_i64 (by omega) (by omega)]; omega, ?_⟩
      refine ⟨c, 4 * i + 4, 4 * i, 4, c - 4 * i, _, rfl, rfl, rfl, Nat.le_refl _, by omega, by omega, by omega, rfl, rfl, ?_⟩
      refine call_pu (fun β w' hs => pu_of (num_c w' (cutA A c (4 * i) 1) [l.getD (4 * i) 0, l.getD (4 * i + 1) 0, l.getD (4 * i + 2) 0, l.getD (4 * i + 3) 0] (c - 4 * i) ?_ (by show 4 ≤ lim; decide))) ?_
      · have h7 := Bs.cut (hs.get 0 rfl : Bs w' A l) (c := c) (m := c) (i := 4 * i) (j := 4 * i + 4) hc (.inl rfl) (by omega) (by omega) (Nat.le_refl _)
        rw [show 4 * i + 4 - 4 * i = 4 by omega, take4 l (4 * i) (by omega)] at h7
        exact h7
      refine ⟨_, numB4 _ _ _ _, i, rfl, by omega, ?_⟩
      conv => whnf
      generalize h1 : Nat.ble _ _ = b1
      obtain rfl : b1 = true := h1.symm.trans ble
      clear h1
      refine ⟨((i + 1 : Nat) : Int), by rw [wrap_i64 (by omega) (by omega)]; rfl, ?_⟩
      refine ⟨i + 1, by omega, by omega, Ent.mk' ⟨rfl, rfl, rfl, rfl, rfl, trivial⟩ rfl (fun β w' hs => ?_)⟩
      rw [← fin _ (if_pos h16)]
      exact hs
    · have h16 : ¬ i < 16 := by omega
      obtain ⟨xa, hxa⟩ : ∃ xa, (sched l i).getD (i - 15) 0 = xa := ⟨_, rfl⟩
      obtain ⟨xb, hxb⟩ : ∃ xb, (sched l i).getD (i - 2) 0 = xb := ⟨_, rfl⟩
      refine draw_rule g p_ostiaryref01_Step_7 (by kernel_rfl) _ _ Sub.refl ?_
      refine ⟨((i - 15 : Nat) : Int), by rw [wrap_i64 (by omega) (by omega)]; omega, i - 15, rfl, by omega, ?_⟩
      conv => whnf
      generalize hn : nth _ _ = o
      obtain rfl : o = some (sl32 xa) := hn.symm.trans (by rw [← hxa]; exact ld (by omega))
      clear hn
      refine ⟨((i - 15 : Nat) : Int), by rw [wrap_i64 (by omega) (by omega)]; omega, i - 15, rfl, by omega, ?_⟩
      conv => whnf
      generalize hn : nth _ _ = o
      obtain rfl : o = some (sl32 xa) := hn.symm.trans (by rw [← hxa]; exact ld (by omega))
      clear hn
      refine ⟨((i - 15 : Nat) : Int), by rw [wrap_i64 (by omega) (by omega)]; omega, i - 15, rfl, by omega, ?_⟩
      conv => whnf
      generalize hn : nth _ _ = o
      obtain rfl : o = some (sl32 xa) := hn.symm.trans (by rw [← hxa]; exact ld (by omega))
      clear hn
      refine ⟨by omega, _, shr32 xa 3 (by omega), ?_⟩
      refine call_pu (fun β w' hs => turn_c w' xa 7 (by omega) (by omega)) ?_
      refine ⟨Sub.refl, ?_⟩
      refine call_pu (fun β w' hs => turn_c w' xa 18 (by omega) (by omega)) ?_
      refine ⟨Sub.refl, _, xor32 _ _, _, xor32 _ _, ?_⟩
      refine draw_rule g p_ostiaryref01_Step_8 (by kernel_rfl) _ _ Sub.refl ?_
      refine ⟨((i - 2 : Nat) : Int), by rw [wrap_i64 (by omega) (by omega)]; omega, i - 2, rfl, by omega, ?_⟩
      conv => whnf
      generalize hn : nth _ _ = o
      obtain rfl : o = some (sl32 xb) := hn.symm.trans (by rw [← hxb]; exact ld (by omega))
      clear hn
      refine ⟨((i - 2 : Nat) : Int), by rw [wrap_i64 (by omega) (by omega)]; omega, i - 2, rfl, by omega, ?_⟩
      conv => whnf
      generalize hn : nth _ _ = o
      obtain rfl : o = some (sl32 xb) := hn.symm.trans (by rw [← hxb]; exact ld (by omega))
      clear hn
      refine ⟨((i - 2 : Nat) : Int), by rw [wrap_i64 (by omega) (by omega)]; omega, i - 2, rfl, by omega, ?_⟩
      conv => whnf
      generalize hn : nth _ _ = o
      obtain rfl : o = some (sl32 xb) := hn.symm.trans (by rw [← hxb]; exact ld (by omega))
      clear hn
      refine ⟨by omega, _, shr32 xb 10 (by omega), ?_⟩
      refine call_pu (fun β w' hs => turn_c w' xb 17 (by omega) (by omega)) ?_
      refine ⟨Sub.refl, ?_⟩
      refine call_pu (fun β w' hs => turn_c w' xb 19 (by omega) (by omega)) ?_
      refine ⟨Sub.refl, _, xor32 _ _, _, xor32 _ _, ?_⟩
      refine draw_rule g p_ostiaryref01_Step_9 (by kernel_rfl) _ _ Sub.refl ?_
      refine ⟨((i - 7 : Nat) : Int), by rw [wrap_i64 (by omega) (by omega)]; omega, i - 7, rfl, by omega, ?_⟩
      conv => whnf
      generalize hn : nth _ _ = o
      obtain rfl : o = some (sl32 ((sched l i).getD (i - 7) 0)) := hn.symm.trans (ld (by omega))
      clear hn
      refine ⟨_, add32 _ _, _, add32 _ _, ?_⟩
      refine ⟨((i - 16 : Nat) : Int), by rw [wrap_i64 (by omega) (by omega)]; omega, i - 16, rfl, by omega, ?_⟩
      conv => whnf
      generalize hn : nth _ _ = o
      obtain rfl : o = some (sl32 ((sched l i).getD (i - 16) 0)) := hn.symm.trans (ld (by omega))
      clear hn
      refine ⟨_, add32 _ _, i, rfl, by omega, ?_⟩
      conv => whnf
      generalize h1 : Nat.ble _ _ = b1
      obtain rfl : b1 = true := h1.symm.trans ble
      clear h1
      refine ⟨((i + 1 : Nat) : Int), by rw [wrap_i64 (by omega) (by omega)]; rfl, ?_⟩
      refine ⟨i + 1, by omega, by omega, Ent.mk' ⟨rfl, rfl, rfl, rfl, rfl, trivial⟩ rfl (fun β w' hs => ?_)⟩
      rw [← fin (((s1 xb + (sched l i).getD (i - 7) 0) + s0 xa) + (sched l i).getD (i - 16) 0) (by rw [if_neg h16, nxt, hxa, hxb, nxt_ac])]
      exact hs
  · have e2 : arr 64 (sched l i) = ws.map sl32 := by
      have hi64 : i = 64 := by omega
      rw [← hws, hi64]
      exact arr_full (sched_len l 64)
    clear hge hi
    rw [e2]
    clear e2
    have ldw : ∀ {k : Nat}, k < 64 → nth (ws.map sl32) (0 + k * 1) = some (sl32 (ws.getD k 0)) := fun {k} hk => by
      rw [nth_eq, Nat.zero_add, Nat.mul_one, List.getElem?_map, List.getElem?_eq_getElem (by omega)]
      simp [List.getD, List.getElem?_eq_getElem (show k < ws.length by omega)]
    refine loop_rule (ι := Nat) 4 (fun i => [(2, .c (.p 0 0)), (4, .c (.p 1 0)), (5, .c (.p 2 0)), (9, .c (.p 3 0)), (10, .c (.v (.int .i64 i)))]) (fun i => [⟨3, 118, (rounds s ws i).l.map sl32⟩, ⟨2, 212, ws.map sl32⟩, ⟨1, 118, ti118.zero.map SL.v⟩, ⟨0, 118, s.l.map sl32⟩]) (fun _ => [bsF A l, oddF 1, oldF w])
      (fun i => i ≤ 64) (fun i => 64 - i) 0 (Nat.zero_le _) (Ent.same ⟨rfl, rfl, rfl, rfl, rfl, trivial⟩ rfl) g ?_
    intro j hj
    obtain ⟨r, hr⟩ : ∃ r, rounds s ws j = r := ⟨_, rfl⟩
    rw [hr]
    obtain ⟨xa, xb, xc, xd, xe, xf, xg, xh⟩ := r
    refine BIf.dec (fun hlt => ?_) (fun hge => ?_)
    · have hlt : j < 64 := by omega
      refine ⟨4, rfl, by decide, ?_⟩
      refine draw_rule g p_ostiaryref01_Step_15 (by kernel_rfl) _ _ Sub.refl ?_
      refine ⟨7, rfl, by decide, 5, rfl, by decide, _, and32 _ _, _, not32 _, 6, rfl, by decide, _, and32 _ _, _, xor32 _ _, ?_⟩
      refine ⟨j, rfl, hlt, u32 (K.getD j 0), fun β w' hs => odd_cell3 (hs.get 1 rfl) hlt, j, rfl, hlt, ?_⟩
      conv => whnf
      generalize hn : nth _ _ = o
      obtain rfl : o = some (sl32 (ws.getD j 0)) := hn.symm.trans (ldw hlt)
      clear hn
      refine call_pu (fun β w' hs => turn_c w' xe 6 (by omega) (by omega)) ?_
      refine ⟨Sub.refl, ?_⟩
      refine call_pu (fun β w' hs => turn_c w' xe 11 (by omega) (by omega)) ?_
      refine ⟨Sub.refl, _, xor32 _ _, ?_⟩
      refine call_pu (fun β w' hs => turn_c w' xe 25 (by omega) (by omega)) ?_
      refine ⟨Sub.refl, _, xor32 _ _, _, add32 _ _, _, add32 _ _, _, add32 _ _, _, add32 _ _, ?_⟩
      refine ⟨0, rfl, by decide, ?_⟩
      refine draw_rule g p_ostiaryref01_Step_17 (by kernel_rfl) _ _ Sub.refl ?_
      refine ⟨1, rfl, by decide, _, and32 _ _, 2, rfl, by decide, _, and32 _ _, _, xor32 _ _, 1, rfl, by decide, 2, rfl, by decide, _, and32 _ _, _, xor32 _ _, ?_⟩
      refine call_pu (fun β w' hs => turn_c w' xa 2 (by omega) (by omega)) ?_
      refine ⟨Sub.refl, ?_⟩
      refine call_pu (fun β w' hs => turn_c w' xa 13 (by omega) (by omega)) ?_
      refine ⟨Sub.refl, _, xor32 _ _, ?_⟩
      refine call_pu (fun β w' hs => turn_c w' xa 22 (by omega) (by omega)) ?_
      refine ⟨Sub.refl, _, xor32 _ _, _, add32 _ _, ?_⟩
      refine ⟨_, add32 _ _, 0, rfl, by decide, 1, rfl, by decide, 2, rfl, by decide, 3, rfl, by decide, _, add32 _ _, 4, rfl, by decide, 5, rfl, by decide, 6, rfl, by decide, ?_⟩
      refine ⟨((j + 1 : Nat) : Int), by rw [wrap_i64 (by omega) (by omega)]; rfl, ?_⟩
      refine ⟨j + 1, by omega, by omega, Ent.mk' ⟨rfl, rfl, rfl, rfl, rfl, trivial⟩ rfl (fun β w' hs => ?_)⟩
      have e1 : (rounds s ws (j + 1)).l.map sl32 = (⟨(⟨xa, xb, xc, xd, xe, xf, xg, xh⟩ : S8).x (K.getD j 0) (ws.getD j 0) + ((⟨xa, xb, xc, xd, xe, xf, xg, xh⟩ : S8).y + (⟨xa, xb, xc, xd, xe, xf, xg, xh⟩ : S8).z), xa, xb, xc, xd + (⟨xa, xb, xc, xd, xe, xf, xg, xh⟩ : S8).x (K.getD j 0) (ws.getD j 0), xe, xf, xg⟩ : S8).l.map sl32 := by
        rw [rounds_succ, hr, S8.round, UInt32.add_assoc]
      rw [e1]
      exact hs
    · obtain ⟨t, ht⟩ : ∃ t, (⟨xa, xb, xc, xd, xe, xf, xg, xh⟩ : S8) = t := ⟨_, rfl⟩
      have hst : rounds s ws 64 = t := by
        have : j = 64 := by omega
        rw [← ht, ← hr, this]
      rw [hst, ht]
      clear hst ht hr hge hj
      refine loop_rule (ι := Nat) 4 (fun i => [(2, .c (.p 0 0)), (4, .c (.p 1 0)), (9, .c (.p 3 0)), (165, .c (.v (.int .i64 i)))]) (fun i => [⟨3, 118, t.l.map sl32⟩, ⟨2, 212, ws.map sl32⟩, ⟨1, 118, ti118.zero.map SL.v⟩, ⟨0, 118, mix s t i⟩]) (fun _ => [bsF A l, oddF 1, oldF w])
        (fun i => i ≤ 8) (fun i => 8 - i) 0 (Nat.zero_le _) (Ent.same ⟨rfl, rfl, rfl, rfl, trivial⟩ rfl) g ?_
      intro j hj
      refine BIf.dec (fun hlt => ?_) (fun hge => ?_)
      · have hlt : j < 8 := by omega
        refine draw_rule g p_ostiaryref01_Step_22 (by kernel_rfl) _ _ Sub.refl ?_
        refine ⟨j, rfl, hlt, ?_⟩
        conv => whnf
        generalize hn : nth _ _ = o
        obtain rfl : o = some (sl32 (s.l.getD j 0)) := hn.symm.trans (by
          show nth (mix s t j) (0 + j * 1) = _
          rw [Nat.zero_add, Nat.mul_one]
          exact mix_get s t j hlt)
        clear hn
        refine ⟨j, rfl, hlt, ?_⟩
        conv => whnf
        generalize hn : nth _ _ = o
        obtain rfl : o = some (sl32 (t.l.getD j 0)) := hn.symm.trans (by
          show nth (t.l.map sl32) (0 + j * 1) = _
          rw [Nat.zero_add, Nat.mul_one, nth_eq]
          exact l_get t j hlt)
        clear hn
        refine ⟨_, add32 _ _, j, rfl, hlt, ?_⟩
        conv => whnf
        generalize h1 : Nat.ble _ _ = b1
        obtain rfl : b1 = true := h1.symm.trans (by
          show Nat.ble (0 + j * 1 + 1) (mix s t j).length = true
          rw [mix_len s t j (by omega), Nat.ble_eq]; omega)
        clear h1
        refine ⟨((j + 1 : Nat) : Int), by rw [wrap_i64 (by omega) (by omega)]; rfl, ?_⟩
        refine ⟨j + 1, by omega, by omega, Ent.mk' ⟨rfl, rfl, rfl, rfl, trivial⟩ rfl (fun β w' hs => ?_)⟩
        have e3 : 0 + j * 1 = j := by omega
        rw [← mix_set s t j hlt]
        have hs2 : Sat (cx_ostiaryref01_Step w (Un [])) β 4 [⟨3, 118, t.l.map sl32⟩, ⟨2, 212, ws.map sl32⟩, ⟨1, 118, ti118.zero.map SL.v⟩, ⟨0, 118, putAll (mix s t j) (0 + j * 1) [sl32 (s.l.getD j 0 + t.l.getD j 0)]⟩] [bsF A l, oddF 1, oldF w] w' := hs
        rw [e3] at hs2
        exact hs2
      · obtain rfl : j = 8 := by omega
        intro β w' hs
        exact hs.fin [] ⟨rfl, rfl⟩
theorem rstep64_c (w : World) (s : S8) (A : Option Addr) (x : List UInt8) (c : Nat) (hx : x.length = 64) (hr : Bs w A x) (hk : (oddF 1).p w) (hc : 64 ≤ c) (hm : c ≤ maxLen) :
    Pu Tryz.prog n_ostiaryref01_Step #[stV s, .slice A 64 c] w (stV (Sha.step s x)) := by
  have := rstep_c w s A x c hr hk (by omega) (by omega) hm
  rw [hx] at this
  exact this
theorem rgo_c (w : World) (s : S8) (A : Option Addr) (l : List UInt8) (c : Nat) (hr : Bs w A l) (hk : (oddF 1).p w) (hc : l.length ≤ c) (hm : c ≤ maxLen) :
    Con Tryz.prog n_ostiaryref01_Go #[stV s, .slice A l.length c] w [] fun v Fs => ∃ A' n' c', v = .tuple #[stV (go (l.length / 64) s l), .slice A' n' c'] ∧ Fs = [] := by
  have g := good_ostiaryref01_Go w (Un [])
  rw [go_eq]
  have hs0 : Sat (cx_ostiaryref01_Go w (Un [])) Va.z 0 [] [oldF w] w := old_sat rfl
  have hs1 : Sat (cx_ostiaryref01_Go w (Un [])) Va.z 0 [] [bsF A l, oddF 1, oldF w] w := (hs0.sub 0 rfl rfl (oddF 1) rfl hk (rd_lt hk)).sub 1 rfl rfl (bsF A l) rfl hr (rd_lt hr)
  have hm' := hm
  rw [maxLen_eq] at hm'
  refine con_of_sx (cx := cx_ostiaryref01_Go w (Un [])) g b_ostiaryref01_Go rfl rfl (β := Va.z) [.agg (s.l.map sl32), .c (.v (.slice A l.length c))] 0 [] [bsF A l, oddF 1, oldF w] rfl rfl hs1 ?_
  refine loop_rule (ι := Nat × Option Addr × Nat) 2 (fun i => [(1, .c (.v (.slice i.2.1 (l.length - 64 * i.1) i.2.2))), (2, .c (.p 0 0)), (4, .c (.p 1 0))]) (fun i => [⟨1, 118, ti118.zero.map SL.v⟩, ⟨0, 118, ((blks l i.1).foldl Sha.step s).l.map sl32⟩]) (fun _ => [bsF A l, oddF 1, oldF w])
    (fun i => 64 * i.1 ≤ l.length ∧ l.length - 64 * i.1 ≤ i.2.2 ∧ i.2.2 ≤ 9223372036854775807 ∧ (∀ w, Bs w A l → Bs w i.2.1 (l.drop (64 * i.1)))) (fun i => l.length - 64 * i.1) (0, A, c)
    ⟨Nat.zero_le _, hc, hm', fun w h => h⟩ (Ent.same ⟨rfl, rfl, rfl, trivial⟩ rfl) g ?_
  rintro ⟨i, B, cap⟩ ⟨hi, hcap, hcm, hB⟩
  simp only at hi hcap hcm hB
  obtain ⟨m, hm2⟩ : ∃ m, l.length - 64 * i = m := ⟨_, rfl⟩
  have hmc : m ≤ cap := by omega
  rw [hm2]
  have hdl : (l.drop (64 * i)).length = m := by rw [List.length_drop]; omega
  obtain ⟨st, hst⟩ : ∃ st, (blks l i).foldl Sha.step s = st := ⟨_, rfl⟩
  rw [hst]
  refine BIf.dec (fun h0 => ?_) (fun h0 => ?_)
  · have hm64 : 64 ≤ m := by omega
    have hbl : (blk l i).length = 64 := by unfold blk; rw [List.length_take, hdl]; omega
    have hS : ∀ {H : List Bk} {n : Nat}, Sub (cx_ostiaryref01_Go w (Un [])) n H [bsF A l, oddF 1, oldF w] [] [bsF A l, oddF 1, oldF w] := fun {H n} => Sub.of (List.nil_sublist _) (List.Sublist.refl _)
    refine draw_rule g p_ostiaryref01_Go_2 (by kernel_rfl) [] [bsF A l, oddF 1, oldF w] hS ?_
    refine ⟨cap, 64, 0, 64, cap, _, rfl, rfl, rfl, Nat.le_refl _, by show 64 ≤ cap; omega, by omega, rfl, rfl, rfl, ?_⟩
    refine ⟨cap, m, 64, m - 64, cap - 64, _, rfl, rfl, rfl, Nat.le_refl _, hmc, hm64, rfl, rfl, rfl, ?_⟩
    refine ⟨hS, ?_⟩
    refine call_pu (fun β w' hs => rstep64_c w' st (cutA B cap 0 1) (blk l i) cap hbl ?_ (hs.get 1 rfl) (by omega) (by rw [maxLen_eq]; exact hcm)) ?_
    · have h7 := Bs.cut (hB w' (hs.get 0 rfl)) (c := cap) (m := cap) (i := 0) (j := 64) (by omega) (.inl rfl) (by omega) (by omega) (by omega)
      have h8 : Rd 1 (cutA B cap 0 1) (blk l i).length ((blk l i).map byte) w' := by rw [hbl]; exact h7
      exact h8
    refine ⟨hS, ?_⟩
    refine ⟨hS, ?_⟩
    refine ⟨(i + 1, cutA B cap 64 1, cap - 64), ⟨by show 64 * (i + 1) ≤ _; omega, by show l.length - 64 * (i + 1) ≤ cap - 64; omega, by show cap - 64 ≤ _; omega, fun w' h => ?_⟩, by show l.length - 64 * (i + 1) < m; omega, Ent.mk' ⟨?_, rfl, rfl, trivial⟩ rfl (fun β w' hs => ?_)⟩
    · have h7 := Bs.cutB (hB w' h) (c := cap) (i := 64) (j := m) (m := l.drop (64 * (i + 1))) (by omega) hm64 (by omega) (by
        rw [List.drop_drop, show 64 * i + 64 = 64 * (i + 1) by omega, List.take_of_length_le]
        rw [List.length_drop]; omega)
      exact h7
    · show _ = some (SV.c (.v (.slice _ (l.length - 64 * (i + 1)) _)))
      rw [show l.length - 64 * (i + 1) = m - 64 by omega]
      rfl
    · rw [blks_succ, List.foldl_append, hst]
      exact hs
  · have hi2 : i = l.length / 64 := by omega
    intro β w' hs
    rw [← hi2, hst]
    exact hs.fin [] ⟨B, m, cap, rfl, rfl⟩
theorem rsum_c (w : World) (A : Option Addr) (l : List UInt8) (c : Nat) (hr : Bs w A l) (hk : (oddF 1).p w) (hn : l.length ≤ 70368744177664) :
    Con Tryz.prog n_ostiaryref01_Sum #[.slice A l.length c] w [] fun v Fs => ∃ A' c', v = .slice A' 32 c' ∧ 32 ≤ c' ∧ c' ≤ maxLen ∧ Fs = [browF ty_uint8 A' (Sha.sum l) c'] := by
  have g := good_ostiaryref01_Sum w (Un [])
  have hs0 : Sat (cx_ostiaryref01_Sum w (Un [])) Va.z 0 [] [oldF w] w := old_sat rfl
  have hs1 : Sat (cx_ostiaryref01_Sum w (Un [])) Va.z 0 [] [bsF A l, oddF 1, oldF w] w := (hs0.sub 0 rfl rfl (oddF 1) rfl hk (rd_lt hk)).sub 1 rfl rfl (bsF A l) rfl hr (rd_lt hr)
  refine con_of_sx (cx := cx_ostiaryref01_Sum w (Un [])) g b_ostiaryref01_Sum rfl rfl (β := Va.z) [.c (.v (.slice A l.length c))] 0 [] [bsF A l, oddF 1, oldF w] rfl rfl hs1 ?_
  obtain ⟨q, hq⟩ : ∃ q, l ++ ends l.length = q := ⟨_, rfl⟩
  have hql : q.length = l.length + (ends l.length).length := by rw [← hq, List.length_append]
  have hel : (ends l.length).length < 73 := by rw [Sha.ends_len]; unfold zeros; omega
  have hsum : Sha.sum l = out (go (q.length / 64) Sha.first q) := by rw [← hq]; rfl
  rw [hsum]
  refine call_pu (fun β w' hs => first_c w') ?_
  intro b
  refine ⟨0, 0, l.length, [], l.map byte, _, rfl, fun β w' hs => hs.get 1 rfl, bytes_one l, Nat.zero_add _, rfl, by rw [maxLen_eq]; omega, by show l.length * 1 ≤ _; omega, ?_⟩
  intro A1 c1 h1 h2 _
  refine ⟨(l.length : Int), by rw [wrap_u64']; omega, ?_⟩
  refine call_con [] (fun β w' hs => tail_c w' l.length (by omega)) ?_
  rintro v Fs ⟨A2, c2, rfl, h3, h4, rfl⟩
  refine ⟨1, l.length, q.length, _, (ends l.length).map byte, q.map byte, rfl, fun β w hs => row_rd (hs.get 0 rfl), bytes_one _, hql.symm, by rw [← hq, List.map_append]; rfl, by rw [maxLen_eq]; omega, by show q.length * 1 ≤ _; omega, ?_⟩
  intro A3 c3 h5 h6 _
  refine call_con [] (fun β w' hs => rgo_c w' Sha.first A3 q c3 (row_rd (hs.get 1 rfl)) (hs.get 3 rfl) h5 h6) ?_
  rintro v Fs ⟨A4, n4, c4, rfl, rfl⟩
  generalize go (q.length / 64) Sha.first q = st
  refine call_con [] (fun β w' hs => out_c w' st) ?_
  rintro v Fs ⟨A5, c5, rfl, h7, h8, rfl⟩
  intro β w' hs
  exact (hs.keepB (List.nil_sublist _)).fin [0] ⟨A5, c5, rfl, h7, h8, rfl⟩
structure SecA where
  A0 : Option Addr
  A1 : Option Addr
  A2 : Option Addr
  A3 : Option Addr
  c0 : Nat
  c1 : Nat
  c2 : Nat
  c3 : Nat
  s0 : List UInt8
  s1 : List UInt8
  s2 : List UInt8
  s3 : List UInt8
  it : Int
def SecA.val (x : SecA) : Value := .agg #[.slice x.A0 x.s0.length x.c0, .int .i64 x.it, .slice x.A1 x.s1.length x.c1, .slice x.A2 x.s2.length x.c2, .slice x.A3 x.s3.length x.c3]
def SecA.cells (x : SecA) : List SL := [.v (.slice x.A0 x.s0.length x.c0), .v (.int .i64 x.it), .v (.slice x.A1 x.s1.length x.c1), .v (.slice x.A2 x.s2.length x.c2), .v (.slice x.A3 x.s3.length x.c3)]
structure SecA.Rd (x : SecA) (w : World) : Prop where
  h0 : Bs w x.A0 x.s0
  h1 : Bs w x.A1 x.s1
  h2 : Bs w x.A2 x.s2
  h3 : Bs w x.A3 x.s3
end Go.Proofs.YtloeaiafphkjnaaGreatDoor.Sx

namespace Go.Proofs.YtloeaiafphkjnaaGreatDoor.Sx
open Go
attribute [local irreducible] Calls
def formV (f : Nam.Fm) : List Value := [.int .i64 (f.size : Int), byte f.mask, byte f.lead, .int .i32 (f.least : Int)]
def formCells : List Value := Nam.fms.flatMap formV
def Forms (g : Nat) (w : World) : Prop := Rd 16 (some ⟨g, 0, none⟩) 1 formCells w
theorem Forms.old {g : Nat} {W w : World} (h : Forms g W) (ho : (oldF W).p w) : Forms g w := Rd.old h ho
abbrev Sp := Int × Int
def spanV (x : Sp) : List Value := [.int .i32 x.1, .int .i32 x.2]
def blanksL : List Sp := [(0xa0, 0xa0), (0x1680, 0x1680), (0x2000, 0x200a), (0x202f, 0x202f), (0x205f, 0x205f), (0x3000, 0x3000)]
def nothingL : List Sp := [(0xad, 0xad), (0x200b, 0x200d), (0x2060, 0x2060), (0xfe00, 0xfe0f), (0xfeff, 0xfeff)]
def barredL : List Sp := [(0, 0x1f), (0x7f, 0x9f), (0x2028, 0x2029), (0x202a, 0x202e), (0x2066, 0x2069), (0xe000, 0xf8ff), (0xf0000, 0x10ffff), (0xfff9, 0xfffd), (0xfdd0, 0xfdef)]
def spansF (g : Nat) (l : List Sp) : Fact := rdF 2 (some ⟨g, 0, none⟩) l.length (l.flatMap spanV)
end Go.Proofs.YtloeaiafphkjnaaGreatDoor.Sx

namespace Go.Proofs.YtloeaiafphkjnaaGreatDoor.Sx
open Go
end Go.Proofs.YtloeaiafphkjnaaGreatDoor.Sx

namespace Go.Proofs.YtloeaiafphkjnaaGreatDoor.Sx
open Go
attribute [local irreducible] Calls
def mkS (l : List UInt8) : ByteArray := ⟨l.toArray⟩
structure NamT (w : World) : Prop where
  f : Forms 10 w
  s5 : (spansF 8 blanksL).p w
  s6 : (spansF 9 nothingL).p w
  s4 : (spansF 4 barredL).p w
theorem NamT.old {W w : World} (h : NamT W) (ho : (oldF W).p w) : NamT w := ⟨Forms.old h.f ho, Rd.old h.s5 ho, Rd.old h.s6 ho, Rd.old h.s4 ho⟩
theorem NamT.sat {cx : Cx} {β : Va} {n : Nat} {H : List Bk} {F : List Fact} {w : World} (hs : Sat cx β n H F w) (j : Nat) {W : World} (hj : nth F j = some (oldF W)) (h : NamT W) : NamT w := h.old (hs.get j hj)
def saltedN (n : Nat) (it : Int) : Bool := decide (1 ≤ n) && (decide (n ≤ 32) && (decide (1 ≤ it) && decide (it ≤ 64)))
end Go.Proofs.YtloeaiafphkjnaaGreatDoor.Sx

namespace Go.Proofs.YtloeaiafphkjnaaGreatDoor.Sx
open Go
def RoOk (w : World) (f : Fact) : Prop := f.own = false ∧ f.p w ∧ ∀ k, f.D k → k < w.heap.size
theorem mem_ro {w : World} {Fs : List Fact} (h : ∀ f ∈ Fs, RoOk w f) : Mem w Fs := by
  refine ⟨fun f hf => (h f hf).2.1, fun f hf k hk => (h f hf).2.2 k hk, ?_⟩
  induction Fs with
  | nil => exact List.Pairwise.nil
  | cons f r ih =>
    refine List.pairwise_cons.2 ⟨fun g hg q => ?_, ih (fun g hg => h g (List.mem_cons_of_mem _ hg))⟩
    rcases q with q | q
    · rw [(h f List.mem_cons_self).1] at q; cases q
    · rw [(h g (List.mem_cons_of_mem _ hg)).1] at q; cases q
theorem rd_ok {w : World} {size : Nat} {A : Option Addr} {k : Nat} {xs : List Value} (h : Rd size A k xs w) : RoOk w (rdF size A k xs) := ⟨rfl, h, rd_lt h⟩
theorem ro_nil {w : World} : ∀ f ∈ ([] : List Fact), RoOk w f := fun f h => by cases h
theorem ro_cons {w : World} {f : Fact} {r : List Fact} (h1 : RoOk w f) (h2 : ∀ g ∈ r, RoOk w g) : ∀ g ∈ f :: r, RoOk w g := fun g hg => by
  rcases List.mem_cons.1 hg with rfl | hg
  · exact h1
  · exact h2 g hg
end Go.Proofs.YtloeaiafphkjnaaGreatDoor.Sx

namespace Go.Proofs.YtloeaiafphkjnaaGreatDoor.Sx
open Go
attribute [local irreducible] Calls
theorem mkSo (l : List UInt8) : (mkS l).data.toList = l := by simp [mkS]
theorem mkS1 {a b : List UInt8} (h : mkS a = mkS b) : a = b := by
  have := congrArg (fun s : ByteArray => s.data.toList) h
  simpa only [mkSo] using this
def att (p : List UInt8) : List (List UInt8) → List (List UInt8)
  | [] => [p]
  | h :: t => (p ++ h) :: t
def splL (d : UInt8) : List UInt8 → List (List UInt8)
  | [] => [[]]
  | c :: r => if c = d then [] :: splL d r else att [c] (splL d r)
theorem splL_cons (d c : UInt8) (r : List UInt8) : splL d (c :: r) = if c = d then [] :: splL d r else att [c] (splL d r) := rfl
theorem att_ne (p : List UInt8) (L : List (List UInt8)) : att p L ≠ [] := by cases L <;> simp [att]
theorem splL_ne (d : UInt8) (s : List UInt8) : splL d s ≠ [] := by
  cases s with
  | nil => simp [splL]
  | cons c r =>
    unfold splL
    split
    · simp
    · exact att_ne _ _
theorem att_app (p q : List UInt8) (L : List (List UInt8)) : att p (att q L) = att (p ++ q) L := by cases L <;> simp [att]
theorem att_nil {L : List (List UInt8)} (h : L ≠ []) : att [] L = L := by cases L with
  | nil => exact absurd rfl h
  | cons a t => rfl
theorem splL_free {d : UInt8} : ∀ {l : List UInt8}, d ∉ l → splL d l = [l]
  | [], _ => rfl
  | c :: r, h => by
    have ih := splL_free (l := r) (fun q => h (List.mem_cons_of_mem _ q))
    rw [splL_cons, if_neg (fun e => h (by rw [e]; exact List.mem_cons_self)), ih]
    rfl
theorem splL_at {d : UInt8} (r : List UInt8) : ∀ {l : List UInt8}, d ∉ l → splL d (l ++ d :: r) = l :: splL d r
  | [], _ => by show splL d (d :: r) = _; rw [splL_cons, if_pos rfl]
  | c :: t, h => by
    have ih := splL_at r (l := t) (fun q => h (List.mem_cons_of_mem _ q))
    show splL d (c :: (t ++ d :: r)) = _
    rw [splL_cons, if_neg (fun e => h (by rw [e]; exact List.mem_cons_self)), ih]
    rfl
def lnL (s : List UInt8) : List (List UInt8) := if (splL 10 s).getLast? = some [] then (splL 10 s).dropLast else splL 10 s
theorem lnL_nil : lnL [] = [] := rfl
theorem lnL_free {l : List UInt8} (h : (10 : UInt8) ∉ l) (h0 : l ≠ []) : lnL l = [l] := by
  unfold lnL
  rw [splL_free h, if_neg (fun e => h0 (by simpa using e))]
theorem lnL_at {l : List UInt8} (r : List UInt8) (h : (10 : UInt8) ∉ l) : lnL (l ++ 10 :: r) = l :: lnL r := by
  unfold lnL
  rw [splL_at r h]
  obtain ⟨a, t, e⟩ : ∃ a t, splL 10 r = a :: t := by
    cases q : splL 10 r with
    | nil => exact absurd q (splL_ne _ _)
    | cons a t => exact ⟨a, t, rfl⟩
  rw [e]
  rw [show (l :: a :: t).getLast? = (a :: t).getLast? from rfl]
  split
  · rfl
  · rfl
def hdA (d : UInt8) : List UInt8 → List UInt8
  | [] => []
  | c :: r => if c = d then [] else c :: hdA d r
def hdB (d : UInt8) : List UInt8 → List UInt8
  | [] => []
  | c :: r => if c = d then r else hdB d r
theorem hdA_cons (d c : UInt8) (r : List UInt8) : hdA d (c :: r) = if c = d then [] else c :: hdA d r := rfl
theorem hdB_cons (d c : UInt8) (r : List UInt8) : hdB d (c :: r) = if c = d then r else hdB d r := rfl
theorem hdA_free (d : UInt8) : ∀ s : List UInt8, d ∉ hdA d s
  | [] => by simp [hdA]
  | c :: r => by
    rw [hdA_cons]
    by_cases h : c = d
    · rw [if_pos h]; exact fun q => by cases q
    · rw [if_neg h]
      intro q
      rcases List.mem_cons.1 q with q | q
      · exact h q.symm
      · exact hdA_free d r q
theorem hd_split {d : UInt8} : ∀ {s : List UInt8}, d ∈ s → s = hdA d s ++ d :: hdB d s
  | [], h => by cases h
  | c :: r, h => by
    rw [hdA_cons, hdB_cons]
    by_cases e : c = d
    · rw [if_pos e, if_pos e, e]; rfl
    · rw [if_neg e, if_neg e]
      have hr : d ∈ r := (List.mem_cons.1 h).elim (fun q => absurd q.symm e) id
      exact congrArg (c :: ·) (hd_split hr)
theorem hd_none {d : UInt8} : ∀ {s : List UInt8}, d ∉ s → hdA d s = s ∧ hdB d s = []
  | [], _ => ⟨rfl, rfl⟩
  | c :: r, h => by
    have hc : ¬ c = d := fun e => h (by rw [e]; exact List.mem_cons_self)
    obtain ⟨e1, e2⟩ := hd_none (s := r) fun q => h (List.mem_cons_of_mem _ q)
    rw [hdA_cons, hdB_cons, if_neg hc, if_neg hc, e1, e2]
    exact ⟨rfl, rfl⟩
theorem lnL_step {s : List UInt8} (h0 : s ≠ []) : lnL s = hdA 10 s :: lnL (hdB 10 s) := by
  by_cases h : (10 : UInt8) ∈ s
  · conv => lhs; rw [hd_split h]
    rw [lnL_at _ (hdA_free _ _)]
  · obtain ⟨e1, e2⟩ := hd_none h
    rw [lnL_free h h0, e1, e2]
    rfl
theorem idx_one (d : UInt8) : ∀ s : List UInt8, _root_.Go.Lib.index s [d] = if d ∈ s then ((hdA d s).length : Int) else -1
  | [] => by rw [if_neg (fun h => by cases h)]; rfl
  | c :: r => by
    have ih := idx_one d r
    unfold _root_.Go.Lib.index
    rw [hdA_cons]
    by_cases hc : c = d
    · rw [if_pos (by simp [hc]), if_pos (by rw [hc]; exact List.mem_cons_self), if_pos hc]
      rfl
    · rw [if_neg (by simpa using fun h => hc h.symm), if_neg hc, ih]
      by_cases hr : d ∈ r
      · rw [if_pos hr, if_pos (List.mem_cons_of_mem _ hr), if_neg (by simp)]
        simp
      · rw [if_neg hr, if_neg (fun q => (List.mem_cons.1 q).elim (fun q => hc q.symm) hr)]
        rfl
theorem cut_one (d : UInt8) (s : List UInt8) : _root_.Go.Lib.cut s [d] = (hdA d s, hdB d s, decide (d ∈ s)) := by
  unfold _root_.Go.Lib.cut
  rw [idx_one]
  by_cases h : d ∈ s
  · have e := hd_split h
    rw [if_pos h, if_pos (Int.natCast_nonneg _), Int.toNat_natCast]
    rw [show decide (d ∈ s) = true from by simpa using h]
    have hl : ∀ a b : List UInt8, s = a ++ d :: b → (s.take a.length, s.drop (a.length + [d].length), true) = (a, b, true) := by
      intro a b e
      subst e
      rw [List.take_left, ← List.drop_drop, List.drop_left]
      rfl
    exact hl _ _ e
  · obtain ⟨e1, e2⟩ := hd_none h
    rw [if_neg h, if_neg (by decide), e1, e2, show decide (d ∈ s) = false from by simpa using h]
end Go.Proofs.YtloeaiafphkjnaaGreatDoor.Sx

namespace Go.Proofs
open Go.Shelf
def Tryz.keys126_ren : Go.Shelf.Ren := ⟨fun | 7 => 126 | 10 => 174 | n => n, fun | 23 => 113 | 26 => 9 | 3 => 144 | 28 => 71 | 0 => 0 | 27 => 70 | 33 => 135 | 4 => 4 | n => n, fun | n => n⟩
theorem Tryz.keys126 : Go.Proofs.SlLaysZ.n7 Tryz.prog Tryz.keys126_ren := {
  mixed := by kernel_rfl
  f7 := ⟨Tryz.f126.name, by decide, Tryz.func126.trans (congrArg some (by kernel_rfl))⟩
  f10 := ⟨Tryz.f174.name, by decide, Tryz.func174.trans (congrArg some (by kernel_rfl))⟩
  t0 := Tryz.underlying0
  a0 := Tryz.isAgg0
  z0 := Tryz.sizeOf0
  v0 := Tryz.zeroValue0
  t4 := Tryz.underlying4
  a4 := Tryz.isAgg4
  z4 := Tryz.sizeOf4
  v4 := Tryz.zeroValue4
  t23 := Tryz.underlying113
  a23 := Tryz.isAgg113
  z23 := Tryz.sizeOf113
  v23 := Tryz.zeroValue113
  t26 := Tryz.underlying9
  a26 := Tryz.isAgg9
  z26 := Tryz.sizeOf9
  v26 := Tryz.zeroValue9
  t27 := Tryz.underlying70
  a27 := Tryz.isAgg70
  z27 := Tryz.sizeOf70
  v27 := Tryz.zeroValue70
  t28 := Tryz.underlying71
  a28 := Tryz.isAgg71
  z28 := Tryz.sizeOf71
  v28 := Tryz.zeroValue71
  t33 := Tryz.underlying135
  a33 := Tryz.isAgg135
  z33 := Tryz.sizeOf135
  v33 := Tryz.zeroValue135 }
def Tryz.sorted125_ren : Go.Shelf.Ren := ⟨fun | 6 => 125 | 8 => 173 | 9 => 54 | 11 => 212 | 13 => 107 | 12 => 106 | 23 => 156 | 24 => 157 | 14 => 148 | 15 => 149 | 16 => 150 | 17 => 151 | 18 => 152 | 19 => 153 | 20 => 136 | 21 => 154 | 22 => 155 | 25 => 191 | 26 => 192 | 27 => 193 | 28 => 194 | 29 => 195 | 30 => 182 | 31 => 226 | n => n, fun | 26 => 9 | 28 => 71 | 24 => 32 | 0 => 0 | 3 => 3 | 37 => 127 | 48 => 116 | 50 => 50 | 4 => 4 | 40 => 204 | 39 => 203 | 45 => 150 | 5 => 5 | 9 => 9 | 51 => 231 | 55 => 234 | 57 => 265 | 58 => 263 | 33 => 135 | n => n, fun | n => n⟩
theorem Tryz.sorted125 : Go.Proofs.SlLaysZ.n6 Tryz.prog Tryz.sorted125_ren := {
  mixed := by kernel_rfl
  f6 := ⟨Tryz.f125.name, by decide, Tryz.func125.trans (congrArg some (by kernel_rfl))⟩
  f8 := ⟨Tryz.f173.name, by decide, Tryz.func173.trans (congrArg some (by kernel_rfl))⟩
  f11 := ⟨Tryz.f212.name, by decide, Tryz.func212.trans (congrArg some (by kernel_rfl))⟩
  t0 := Tryz.underlying0
  a0 := Tryz.isAgg0
  z0 := Tryz.sizeOf0
  v0 := Tryz.zeroValue0
  t24 := Tryz.underlying32
  a24 := Tryz.isAgg32
  z24 := Tryz.sizeOf32
  v24 := Tryz.zeroValue32
  t26 := Tryz.underlying9
  a26 := Tryz.isAgg9
  z26 := Tryz.sizeOf9
  v26 := Tryz.zeroValue9
  t28 := Tryz.underlying71
  a28 := Tryz.isAgg71
  z28 := Tryz.sizeOf71
  v28 := Tryz.zeroValue71
  i26 := by kernel_rfl }
def Tryz.sort54_ren : Go.Shelf.Ren := ⟨fun | 6 => 54 | 8 => 107 | 9 => 106 | 19 => 156 | 20 => 157 | 21 => 148 | 22 => 149 | 23 => 150 | 24 => 151 | 25 => 152 | 26 => 153 | 27 => 136 | 28 => 154 | 29 => 155 | 36 => 191 | 31 => 192 | 32 => 193 | 37 => 194 | 38 => 195 | 39 => 182 | 41 => 226 | n => n, fun | 27 => 32 | 29 => 9 | 3 => 3 | 32 => 127 | 26 => 32 | 0 => 0 | 44 => 116 | 46 => 50 | 4 => 4 | 36 => 204 | 35 => 203 | 41 => 150 | 5 => 5 | 9 => 9 | 53 => 231 | 57 => 234 | 63 => 265 | 64 => 263 | n => n, fun | n => n⟩
theorem Tryz.sort54 : Go.Proofs.SlLaysM.n6 Tryz.prog Tryz.sort54_ren := {
  mixed := by kernel_rfl
  f6 := ⟨Tryz.f54.name, by decide, Tryz.func54.trans (congrArg some (by kernel_rfl))⟩
  f8 := Tryz.func107.trans (congrArg some (by kernel_rfl))
  f9 := ⟨Tryz.f106.name, by decide, Tryz.func106.trans (congrArg some (by kernel_rfl))⟩
  f19 := Tryz.func156.trans (congrArg some (by kernel_rfl))
  f20 := Tryz.func157.trans (congrArg some (by kernel_rfl))
  f21 := ⟨Tryz.f148.name, by decide, Tryz.func148.trans (congrArg some (by kernel_rfl))⟩
  f22 := ⟨Tryz.f149.name, by decide, Tryz.func149.trans (congrArg some (by kernel_rfl))⟩
  f23 := ⟨Tryz.f150.name, by decide, Tryz.func150.trans (congrArg some (by kernel_rfl))⟩
  f24 := ⟨Tryz.f151.name, by decide, Tryz.func151.trans (congrArg some (by kernel_rfl))⟩
  f25 := ⟨Tryz.f152.name, by decide, Tryz.func152.trans (congrArg some (by kernel_rfl))⟩
  f26 := ⟨Tryz.f153.name, by decide, Tryz.func153.trans (congrArg some (by kernel_rfl))⟩
  f27 := ⟨Tryz.f136.name, by decide, Tryz.func136.trans (congrArg some (by kernel_rfl))⟩
  f28 := ⟨Tryz.f154.name, by decide, Tryz.func154.trans (congrArg some (by kernel_rfl))⟩
  f29 := ⟨Tryz.f155.name, by decide, Tryz.func155.trans (congrArg some (by kernel_rfl))⟩
  f31 := Tryz.func192.trans (congrArg some (by kernel_rfl))
  f32 := Tryz.func193.trans (congrArg some (by kernel_rfl))
  f36 := ⟨Tryz.f191.name, by decide, Tryz.func191.trans (congrArg some (by kernel_rfl))⟩
  f37 := ⟨Tryz.f194.name, by decide, Tryz.func194.trans (congrArg some (by kernel_rfl))⟩
  f38 := ⟨Tryz.f195.name, by decide, Tryz.func195.trans (congrArg some (by kernel_rfl))⟩
  f39 := ⟨Tryz.f182.name, by decide, Tryz.func182.trans (congrArg some (by kernel_rfl))⟩
  f41 := ⟨Tryz.f226.name, by decide, Tryz.func226.trans (congrArg some (by kernel_rfl))⟩
  t0 := Tryz.underlying0
  a0 := Tryz.isAgg0
  z0 := Tryz.sizeOf0
  v0 := Tryz.zeroValue0
  t3 := Tryz.underlying3
  a3 := Tryz.isAgg3
  z3 := Tryz.sizeOf3
  v3 := Tryz.zeroValue3
  t4 := Tryz.underlying4
  a4 := Tryz.isAgg4
  z4 := Tryz.sizeOf4
  v4 := Tryz.zeroValue4
  t5 := Tryz.underlying5
  a5 := Tryz.isAgg5
  z5 := Tryz.sizeOf5
  v5 := Tryz.zeroValue5
  t9 := Tryz.underlying9
  a9 := Tryz.isAgg9
  z9 := Tryz.sizeOf9
  v9 := Tryz.zeroValue9
  t26 := Tryz.underlying32
  a26 := Tryz.isAgg32
  z26 := Tryz.sizeOf32
  v26 := Tryz.zeroValue32
  t27 := Tryz.underlying32
  a27 := Tryz.isAgg32
  z27 := Tryz.sizeOf32
  v27 := Tryz.zeroValue32
  t29 := Tryz.underlying9
  a29 := Tryz.isAgg9
  z29 := Tryz.sizeOf9
  v29 := Tryz.zeroValue9
  t32 := Tryz.underlying127
  a32 := Tryz.isAgg127
  z32 := Tryz.sizeOf127
  v32 := Tryz.zeroValue127
  t35 := Tryz.underlying203
  a35 := Tryz.isAgg203
  z35 := Tryz.sizeOf203
  v35 := Tryz.zeroValue203
  t36 := Tryz.underlying204
  a36 := Tryz.isAgg204
  z36 := Tryz.sizeOf204
  v36 := Tryz.zeroValue204
  t41 := Tryz.underlying150
  a41 := Tryz.isAgg150
  z41 := Tryz.sizeOf150
  v41 := Tryz.zeroValue150
  t44 := Tryz.underlying116
  a44 := Tryz.isAgg116
  z44 := Tryz.sizeOf116
  v44 := Tryz.zeroValue116
  t46 := Tryz.underlying50
  a46 := Tryz.isAgg50
  z46 := Tryz.sizeOf50
  v46 := Tryz.zeroValue50
  t53 := Tryz.underlying231
  a53 := Tryz.isAgg231
  z53 := Tryz.sizeOf231
  v53 := Tryz.zeroValue231
  t57 := Tryz.underlying234
  a57 := Tryz.isAgg234
  z57 := Tryz.sizeOf234
  v57 := Tryz.zeroValue234
  t63 := Tryz.underlying265
  a63 := Tryz.isAgg265
  z63 := Tryz.sizeOf265
  v63 := Tryz.zeroValue265
  t64 := Tryz.underlying263
  a64 := Tryz.isAgg263
  z64 := Tryz.sizeOf263
  v64 := Tryz.zeroValue263 }
end Go.Proofs

namespace Go.Proofs.YtloeaiafphkjnaaGreatDoor.Sx
open Go
attribute [local irreducible] Calls
end Go.Proofs.YtloeaiafphkjnaaGreatDoor.Sx

namespace Go.Proofs.YtloeaiafphkjnaaGreatDoor.Sx
open Go
attribute [local irreducible] Calls
structure Ro where
  A : Option Addr
  c : Nat
  l : List UInt8
def Ro.v (r : Ro) : Value := .slice r.A r.l.length r.c
def Ro.f (r : Ro) : Fact := rdoF 1 r.A r.l.length (r.l.map byte)
inductive Recs (w' : World) : List Fact → List Fact → Prop
  | nil : Recs w' [] []
  | cons {f g : Fact} {Fs Gs : List Fact} (h : g.own = true ∧ (f.p w' → g.p w') ∧ ∀ k, g.D k → f.D k) (r : Recs w' Fs Gs) : Recs w' (f :: Fs) (g :: Gs)
theorem Fin.recast {w : World} {Gs : List Fact} {R R' : Value → List Fact → Prop} {v : Value} {w' : World} (h : Fin w Gs R v w')
    (hr : ∀ Fs, R v Fs → (∀ f ∈ Fs, f.p w') → ∃ Fs', R' v Fs' ∧ Recs w' Fs Fs') : Fin w Gs R' v w' := by
  obtain ⟨Fs, h1, h2, h3, h4, h5⟩ := h
  obtain ⟨Fs', q1, q2⟩ := hr Fs h1 h3.fact
  have key : ∀ {Fs Fs' : List Fact}, Recs w' Fs Fs' → Mem w' Fs → Owns Fs → Mem w' Fs' ∧ Owns Fs' ∧ ∀ g ∈ Fs', ∃ f ∈ Fs, ∀ k, g.D k → f.D k := by
    intro Fs Fs' hf
    induction hf with
    | nil => intro _ _; exact ⟨⟨fun _ q => (by cases q), fun _ q => (by cases q), List.Pairwise.nil⟩, trivial, fun _ q => (by cases q)⟩
    | @cons f g Fs Fs' hfg hrest ih =>
      intro hm ho
      obtain ⟨i1, i2, i3⟩ := ih ⟨fun x hx => hm.fact x (List.mem_cons_of_mem _ hx), fun x hx => hm.flt x (List.mem_cons_of_mem _ hx), (List.pairwise_cons.1 hm.sepf).2⟩ ho.2
      refine ⟨⟨fun x hx => ?_, fun x hx k hk => ?_, List.pairwise_cons.2 ⟨fun x hx _ k hk hk' => ?_, i1.sepf⟩⟩, ⟨hfg.1, i2⟩, fun x hx => ?_⟩
      · rcases List.mem_cons.1 hx with rfl | hx
        · exact hfg.2.1 (hm.fact f List.mem_cons_self)
        · exact i1.fact x hx
      · rcases List.mem_cons.1 hx with rfl | hx
        · exact hm.flt f List.mem_cons_self k (hfg.2.2 k hk)
        · exact i1.flt x hx k hk
      · obtain ⟨y, hy, hyd⟩ := i3 x hx
        exact (List.pairwise_cons.1 hm.sepf).1 y hy (.inl ho.1) k (hfg.2.2 k hk) (hyd k hk')
      · rcases List.mem_cons.1 hx with rfl | hx
        · exact ⟨f, List.mem_cons_self, hfg.2.2⟩
        · obtain ⟨y, hy, hyd⟩ := i3 x hx
          exact ⟨y, List.mem_cons_of_mem _ hy, hyd⟩
  obtain ⟨k1, k2, k3⟩ := key q2 h3 h4
  exact ⟨Fs', q1, h2, k1, k2, fun g hg k hk => by obtain ⟨f, hf, hfd⟩ := k3 g hg; exact h5 f hf k (hfd k hk)⟩
theorem Un.cons {x : Fact} {B : List Fact} {k : Nat} : Un (x :: B) k ↔ x.D k ∨ Un B k := by
  unfold Un
  constructor
  · rintro ⟨g, hg, hk⟩
    rcases List.mem_cons.1 hg with rfl | h
    · exact .inl hk
    · exact .inr ⟨g, h, hk⟩
  · rintro (hk | ⟨g, hg, hk⟩)
    · exact ⟨x, List.mem_cons_self, hk⟩
    · exact ⟨g, List.mem_cons_of_mem _ hg, hk⟩
section
variable {cx : Cx} {β : Va} {n : Nat} {H : List Bk} {F : List Fact} {w : World}
end
end Go.Proofs.YtloeaiafphkjnaaGreatDoor.Sx

namespace Go.Proofs.YtloeaiafphkjnaaGreatDoor.Sx
open Go
structure ASec where
  salt : List UInt8
  iter : Int
  stored : List UInt8
  server : List UInt8
  ha1 : List UInt8
structure ACrd where
  tenant : ByteArray
  user : ByteArray
  sec : ASec
  gen : Nat
  roles : List ByteArray
  revoked : Bool
abbrev ATs := List (ByteArray × List ACrd)
structure ASto where
  ts : ATs
  last : Nat
  reads : Int
def saltedA (l : List UInt8) (iter : Int) : Bool := decide (1 ≤ l.length) && (decide (l.length ≤ 32) && (decide (1 ≤ iter) && decide (iter ≤ 64)))
def rightA (x : ASec) : Bool := saltedA x.salt x.iter && (decide (x.stored.length = 32) && (decide (x.server.length = 32) && decide (x.ha1.length = 32)))
def greatN : Nat := 9007199254740992
structure Sec where
  salt : Ro
  iter : Int
  stored : Ro
  server : Ro
  ha1 : Ro
def Sec.vs (x : Sec) : List Value := [x.salt.v, .int .i64 x.iter, x.stored.v, x.server.v, x.ha1.v]
def Sec.fs (x : Sec) : List Fact := [x.salt.f, x.stored.f, x.server.f, x.ha1.f]
def Sec.a (x : Sec) : ASec := ⟨x.salt.l, x.iter, x.stored.l, x.server.l, x.ha1.l⟩
def strsF (A : Option Addr) (l : List ByteArray) : Fact := rdoF 1 A l.length (l.map Value.string)
structure Crd where
  b : Nat
  tenant : ByteArray
  user : ByteArray
  sec : Sec
  gen : Nat
  rA : Option Addr
  rc : Nat
  roles : List ByteArray
  revoked : Bool
def Crd.vs (c : Crd) : List Value := .string c.tenant :: .string c.user :: (c.sec.vs ++ [.int .u64 c.gen, .slice c.rA c.roles.length c.rc, .bool c.revoked])
def Crd.parts (c : Crd) : List Fact := strsF c.rA c.roles :: c.sec.fs
def Crd.fs (c : Crd) : List Fact := bkF c.b ty_cred_Cred c.vs :: c.parts
def Crd.a (c : Crd) : ACrd := ⟨c.tenant, c.user, c.sec.a, c.gen, c.roles, c.revoked⟩
def crdF (c : Crd) : Fact := sepF c.fs
def ptr (b : Nat) : Value := .pointer (some ⟨b, 0, none⟩)
structure Ten where
  b : Nat
  name : ByteArray
  us : List Crd
def Ten.m (T : Ten) : ML := T.us.map fun c => (c.user, ptr c.b)
def tenF (T : Ten) : Fact := sepF [mapF T.b T.m, sepF (T.us.map crdF)]
def Ten.a (T : Ten) : ByteArray × List ACrd := (T.name, T.us.map Crd.a)
structure Sto where
  b : Nat
  m : Nat
  ts : List Ten
  last : Nat
  reads : Int
def Sto.vs (S : Sto) : List Value := [.map (some S.m), .int .u64 (S.last : Int), .int .u64 S.reads]
def Sto.ml (S : Sto) : ML := S.ts.map fun T => (T.name, .map (some T.b))
def stoF (S : Sto) : Fact := sepF [bkF S.b ty_cred_Store S.vs, mapF S.m S.ml, sepF (S.ts.map tenF)]
def Sto.a (S : Sto) : ASto := ⟨S.ts.map Ten.a, S.last, S.reads⟩
end Go.Proofs.YtloeaiafphkjnaaGreatDoor.Sx

namespace Go.Proofs.YtloeaiafphkjnaaGreatDoor.Sx
open Go
attribute [local irreducible] Calls
theorem fact_old' {f : Fact} {W w : World} (h : f.p W) (hD : ∀ k, f.D k → k < W.heap.size) (ho : (oldF W).p w) : f.p w := f.st W w (fun k hk => ho k (hD k hk)) h
theorem sto_bk {S : Sto} {w : World} (h : (stoF S).p w) : (bkF S.b ty_cred_Store S.vs).p w := h.1 _ (by simp)
theorem sto_map {S : Sto} {w : World} (h : (stoF S).p w) : mapP S.m S.ml w := h.1 (mapF S.m S.ml) (by simp)
theorem bkc {b ty : Nat} {cs : List Value} {w : World} (h : (bkF b ty cs).p w) {o : Nat} {v : Value} (ho : cs[o]? = some v) : w.cell? ⟨b, o, none⟩ = some v := by
  have h' : w.heap[b]? = some (.cells cs.toArray ty (0, 0)) := h
  rw [cell_of_row w b o _ _ _ h']
  simpa using ho
theorem last_c (w : World) (S : Sto) (h : (stoF S).p w) (hl : ∀ k, (stoF S).D k → k < w.heap.size) : Pu Tryz.prog n_cred_Store_Last #[ptr S.b] w (.int .u64 (S.last : Int)) := by
  have g := good_cred_Store_Last w (Un [])
  refine con_of_sx (cx := cx_cred_Store_Last w (Un [])) g b_cred_Store_Last rfl rfl (β := Va.z) [.c (.v (ptr S.b))] 0 [] [oldF w] rfl rfl (old_sat rfl) ?_
  refine ⟨.int .u64 (S.last : Int), fun β w' hs => bkc (sto_bk (fact_old' h hl (hs.get 0 rfl))) rfl, ?_⟩
  intro β w' hs
  exact hs.fin [] ⟨rfl, rfl⟩
structure SecV where
  A1 : Option Addr
  n1 : Nat
  c1 : Nat
  it : Int
  A2 : Option Addr
  n2 : Nat
  c2 : Nat
  A3 : Option Addr
  n3 : Nat
  c3 : Nat
  A4 : Option Addr
  n4 : Nat
  c4 : Nat
def SecV.vs (x : SecV) : List Value := [.slice x.A1 x.n1 x.c1, .int .i64 x.it, .slice x.A2 x.n2 x.c2, .slice x.A3 x.n3 x.c3, .slice x.A4 x.n4 x.c4]
def SecV.ss (x : SecV) : List SL := [.v (.slice x.A1 x.n1 x.c1), .v (.int .i64 x.it), .v (.slice x.A2 x.n2 x.c2), .v (.slice x.A3 x.n3 x.c3), .v (.slice x.A4 x.n4 x.c4)]
def rightN (x : SecV) : Bool := saltedN x.n1 x.it && (decide (x.n2 = 32) && (decide (x.n3 = 32) && decide (x.n4 = 32)))
structure SRd (x : SecV) (a : ASec) (w : World) : Prop where
  n1 : x.n1 = a.salt.length
  it : x.it = a.iter
  n2 : x.n2 = a.stored.length
  n3 : x.n3 = a.server.length
  n4 : x.n4 = a.ha1.length
  r1 : Bs w x.A1 a.salt
  r2 : Bs w x.A2 a.stored
  r3 : Bs w x.A3 a.server
  r4 : Bs w x.A4 a.ha1
theorem SRd.old {x : SecV} {a : ASec} {W w : World} (h : SRd x a W) (ho : (oldF W).p w) : SRd x a w := ⟨h.n1, h.it, h.n2, h.n3, h.n4, Rd.old h.r1 ho, Rd.old h.r2 ho, Rd.old h.r3 ho, Rd.old h.r4 ho⟩
theorem SRd.right {x : SecV} {a : ASec} {w : World} (h : SRd x a w) : rightN x = rightA a := by
  unfold rightN rightA saltedN saltedA
  rw [h.n1, h.it, h.n2, h.n3, h.n4]
def Sec.x (y : Sec) : SecV := ⟨y.salt.A, y.salt.l.length, y.salt.c, y.iter, y.stored.A, y.stored.l.length, y.stored.c, y.server.A, y.server.l.length, y.server.c, y.ha1.A, y.ha1.l.length, y.ha1.c⟩
theorem Sec.rd {y : Sec} {w : World} (h : ∀ f ∈ y.fs, f.p w) : SRd y.x y.a w :=
  ⟨rfl, rfl, rfl, rfl, rfl, h y.salt.f (by simp [Sec.fs]), h y.stored.f (by simp [Sec.fs]), h y.server.f (by simp [Sec.fs]), h y.ha1.f (by simp [Sec.fs])⟩
def noRd : Value → Option (DataW Unit × List MemPlace) := fun _ => some (.nil, [])
def sortK (l : List ByteArray) : List ByteArray := ((l.map fun s => s.data.toList).mergeSort leB).map mkS
theorem sortK_len (l : List ByteArray) : (sortK l).length = l.length := by simp [sortK]
theorem rd_ent {P : Program} {k : TypeId} (hk : P.underlying k = some .string) {e : ME} (hs : e.1.size ≤ maxLen) : WideElems.rd P k noRd e.ent = some (.string e.1.data.toList, .nil) := by
  unfold WideElems.rd
  have h : keyOf P k e.ent.key = some (.string e.1.data.toList) := by
    simp [ME.ent, keyOf, hk, mapKey, hs]
  rw [h]
  rfl
structure KeysOk (l : ML) : Prop where
  nodup : (l.map (·.1)).Nodup
  size : ∀ p ∈ l, p.1.size ≤ maxLen
theorem owns_map {P : Program} {k : TypeId} (hk : P.underlying k = some .string) {w : World} {b : Nat} {l : ML} (h : mapP b l w) (ho : KeysOk l) (hl : l.length ≤ 1000000) :
    ∃ D : DataW Unit, w.ownsMap P k noRd b l.length D ∧ (strKeys D).Perm (l.map fun p => p.1.data.toList) ∧ Maps.size D ≤ 1000000 := by
  obtain ⟨es, c, hb, hm⟩ := h
  have hcut := hm.cut
  have hlen : es.length = l.length := by rw [← hcut, List.length_map]
  have hrg : ∀ e ∈ es, WideElems.rg P k noRd e.ent = (.string e.1.data.toList, .nil) := fun e he => by
    unfold WideElems.rg
    rw [rd_ent hk (ho.size (e.1, e.2.1) (by rw [← hcut]; exact List.mem_map.2 ⟨e, he, rfl⟩))]
    rfl
  have hmap : ((es.map ME.ent).toArray.toList.map (WideElems.rg P k noRd)) = es.map fun e => ((.string e.1.data.toList, .nil) : Lit × DataW Unit) := by
    rw [List.toList_toArray, List.map_map]
    exact List.map_congr_left fun e he => hrg e he
  refine ⟨_, ⟨_, c, hb, ⟨?_, ?_, ?_⟩, ?_, rfl⟩, ?_, ?_⟩
  · have := maxLen_eq
    simp only [List.size_toArray, List.length_map]
    omega
  · refine (MapKept.stamped_iff _ _).2 ⟨?_, ?_, ?_⟩
    · intro x hx
      rw [List.toList_toArray] at hx
      obtain ⟨e, he, rfl⟩ := List.mem_map.1 hx
      exact hm.lt e he
    · rw [List.toList_toArray, List.map_map]
      have h2 := hm.inc
      refine List.Pairwise.imp (fun {a b} q => Nat.ne_of_lt q) ?_
      have e3 : es.map ((·.born) ∘ ME.ent) = es.map (·.2.2) := rfl
      rw [e3]
      exact h2
    · rw [List.toList_toArray]
      have h2 := ho.nodup
      rw [← hcut, List.map_map] at h2
      refine List.pairwise_map.2 ?_
      have h3 := List.pairwise_map.1 h2
      refine h3.imp fun {a b} q r => q ?_
      have r' : Value.string a.1 = Value.string b.1 := r
      injection r'
  · intro x hx
    rw [List.toList_toArray] at hx
    obtain ⟨e, he, rfl⟩ := List.mem_map.1 hx
    exact ⟨_, rd_ent hk (ho.size (e.1, e.2.1) (by rw [← hcut]; exact List.mem_map.2 ⟨e, he, rfl⟩))⟩
  · simp only [List.size_toArray, List.length_map]
    omega
  · rw [hmap]
    show ((es.map fun e => ((.string e.1.data.toList, .nil) : Lit × DataW Unit)).foldr DataW.insert []).map (fun p => strOf p.1) |>.Perm _
    refine ((WideShapes.sorted_perm _).map _).trans ?_
    rw [List.map_map, ← hcut, List.map_map]
    exact List.Perm.refl _
  · rw [hmap]
    show ((es.map fun e => ((.string e.1.data.toList, .nil) : Lit × DataW Unit)).foldr DataW.insert []).length ≤ _
    rw [(WideShapes.sorted_perm _).length_eq, List.length_map]
    omega
end Go.Proofs.YtloeaiafphkjnaaGreatDoor.Sx

namespace Go.Proofs.YtloeaiafphkjnaaGreatDoor.Sx
open Go Go.Maps Go.Shelf Go.RowKit
attribute [local irreducible] Calls
theorem bk_cell0 {b ty : Nat} {v : Value} {w : World} (h : (bkF b ty [v]).p w) : w.cell? ⟨b, 0, none⟩ = some v := by
  have hb : w.heap[b]? = some (.cells [v].toArray ty (0, 0)) := h
  rw [cell_of_row w b 0 _ _ _ hb]
  rfl
theorem chg_below {w w' : World} (h : Below w.heap.size w w') : Chg None_ w w' := ⟨h.os, h.tape, h.output, h.size, fun k hk _ => h.block k hk⟩
theorem sortsS (m : Nat) : AnyZ.SortsIn Tryz.prog Tryz.sorted125_ren Fence.wide m :=
  ⟨fun blk off cap ss W hH hblk hsz => callsIn_wide.2 (AnyM.slices_Sort_string Tryz.sort54 blk off cap ss W hH hblk hsz),
   fun p cap W => callsIn_wide.2 (AnyM.slices_Sort_string_none Tryz.sort54 p cap W)⟩
abbrev trowF (A : Option Addr) (l : List ByteArray) (c : Nat) : Fact := rowF ty_string 1 (.slice A l.length c) l.length (l.map Value.string)
theorem con_trow {P : Program} {k : FuncId} {args : Array Value} {w : World} {l : List ByteArray} (h : Calls P k args w fun en w' => ∃ v, en = .returned v ∧ w'.ownsRow w.heap.size ty_string 1 v l.length (l.map Value.string) ∧ Below w.heap.size w w') :
    Con P k args w [] fun v Fs => ∃ A c, v = .slice A l.length c ∧ (0 < l.length → ∃ ad, A = some ad) ∧ Fs = [trowF A l c] := by
  refine Calls.mono h ?_
  rintro en w' ⟨v, rfl, ho, hb⟩
  obtain ⟨A, c, rfl, hA⟩ : ∃ A c, v = .slice A l.length c ∧ (0 < l.length → ∃ ad, A = some ad) := by
    rcases ho.2 with ⟨rfl, h0⟩ | ⟨g, cap, cur, rfl, _⟩
    · exact ⟨none, 0, by rw [h0], fun h => absurd h0 (by omega)⟩
    · exact ⟨_, _, rfl, fun _ => ⟨_, rfl⟩⟩
  refine ⟨_, rfl, [trowF A l c], ⟨A, c, rfl, hA, rfl⟩, by rw [Un.nil]; exact chg_below hb, ⟨fun g hg => ?_, fun g hg k hk => ?_, List.pairwise_singleton _ _⟩, ⟨rfl, trivial⟩, fun g hg k hk => ?_⟩
  · obtain rfl := List.mem_singleton.1 hg; exact ownsRow_base_a ho (Nat.zero_le _)
  · obtain rfl := List.mem_singleton.1 hg; exact (ho.lt k hk).2
  · obtain rfl := List.mem_singleton.1 hg; exact .inr (ho.lt k hk).1
theorem sorted_row {ss : List (List UInt8)} {l : List ByteArray} (h : ss.Perm (l.map fun s => s.data.toList)) : (ss.mergeSort (fun x y => decide (x ≤ y))).map Proofs.encStr = (sortK l).map Value.string := by
  unfold sortK
  rw [List.map_map]
  have e : ss.mergeSort leB = (l.map fun s => s.data.toList).mergeSort leB := mergeSort_of_perm h
  show (ss.mergeSort leB).map _ = _
  rw [e]
  exact List.map_congr_left fun a _ => rfl
theorem keysT_c (w : World) (mb : Option Nat) : Con Tryz.prog 126 #[.map mb] w [] fun v Fs => ∃ B, v = .func (.func 174) #[] #[.pointer (some ⟨B, 0, none⟩)] ∧ Fs = [bkF B 113 [.map mb]] := by
  have h := AnyZ.keys_in Tryz.keys126 Fence.wide 5 trivial rfl mb w
  refine Calls.mono (callsIn_wide.1 h) ?_
  rintro e w' ⟨rfl, rfl⟩
  refine ⟨_, rfl, [bkF w.heap.size 113 [.map mb]], ⟨_, rfl, rfl⟩, by rw [Un.nil]; exact Chg.alloc w _, ⟨fun g hg => ?_, fun g hg k hk => ?_, List.pairwise_singleton _ _⟩, ⟨rfl, trivial⟩, fun g hg k hk => ?_⟩
  · obtain rfl := List.mem_singleton.1 hg; exact heap_alloc_new w _
  · obtain rfl := List.mem_singleton.1 hg
    obtain rfl : k = w.heap.size := hk
    simp
  · obtain rfl := List.mem_singleton.1 hg
    obtain rfl : k = w.heap.size := hk
    exact .inr (Nat.le_refl _)
theorem sortedT_c (w : World) (B b : Nat) (l : ML) (ho : KeysOk l) (hl : l.length ≤ 1000000) (hm : Mem w [bkF B 113 [.map (some b)], mapF b l]) :
    Con Tryz.prog 125 #[.func (.func 174) #[] #[.pointer (some ⟨B, 0, none⟩)]] w [] fun v Fs => ∃ A c, v = .slice A (sortK (l.map (·.1))).length c ∧ (0 < (sortK (l.map (·.1))).length → ∃ ad, A = some ad) ∧ Fs = [trowF A (sortK (l.map (·.1))) c] := by
  have hml := maxLen_eq
  have hB := hm.fact _ List.mem_cons_self
  have hbm : mapP b l w := hm.fact (mapF b l) (by simp)
  have hBl : B < w.heap.size := hm.flt _ List.mem_cons_self B rfl
  obtain ⟨D, hown, hperm, hsz⟩ := owns_map (P := Tryz.prog) (k := ty_string) Tryz.underlying9 hbm ho hl
  have hseq : SeqGives Fence.wide 2 Tryz.prog 174 #[.pointer (some ⟨B, 0, none⟩)] Proofs.encStr (fun ss => ss.Perm (strKeys D)) (Maps.size D) w :=
    AnyZ.keys_gives (ρ := Tryz.keys126_ren) { Tryz.keys126 with } Fence.wide _ trivial rfl (by omega) B b l.length D w hBl (bk_cell0 hB) hown
  have cS := AnyZ.sorted_in Tryz.sorted125 Fence.wide 5 trivial trivial trivial trivial rfl (by omega) (sortsS _) (enters_of Tryz.func54 (by kernel_rfl) rfl) 174 #[.pointer (some ⟨B, 0, none⟩)] trivial (enters_of Tryz.func174 (by kernel_rfl) rfl) _ _ (by omega) (by omega) w hseq
  have hlen : (sortK (l.map (·.1))).length = l.length := by rw [sortK_len, List.length_map]
  refine con_trow (Calls.mono (callsIn_wide.1 cS) ?_)
  rintro e w' ⟨v, ss, rfl, hS, hrow, _, hb⟩
  have hp2 : ss.Perm ((l.map (·.1)).map fun s => s.data.toList) := by
    rw [List.map_map]
    exact hS.trans hperm
  have hsl : ss.length = (sortK (l.map (·.1))).length := by rw [hlen, hp2.length_eq]; simp
  rw [sorted_row hp2, hsl] at hrow
  exact ⟨v, rfl, hrow, hb⟩
end Go.Proofs.YtloeaiafphkjnaaGreatDoor.Sx

namespace Go.Proofs.YtloeaiafphkjnaaGreatDoor.Sx
open Go
attribute [local irreducible] Calls
def digS : ByteArray := ⟨#[48, 49, 50, 51, 52, 53, 54, 55, 56, 57, 97, 98, 99, 100, 101, 102]⟩
theorem dig_at {k : Nat} (h : k < 16) : digS.extract k (k + 1) = mkS [dgs.getD k 0] := by
  have key : ∀ k : _root_.Fin 16, (digS.extract k.1 (k.1 + 1)).data.toList = [dgs.getD k.1 0] := by decide +kernel
  have := key ⟨k, h⟩
  simp only at this
  have e : digS.extract k (k + 1) = ⟨(digS.extract k (k + 1)).data.toList.toArray⟩ := by cases digS.extract k (k + 1); simp
  rw [e, this]
  rfl
theorem mkS_app (a b : List UInt8) : mkS a ++ mkS b = mkS (a ++ b) := by
  have h : (mkS a ++ mkS b).data.toList = (mkS (a ++ b)).data.toList := by simp [mkS]
  have e : ∀ s : ByteArray, s = ⟨s.data.toList.toArray⟩ := fun s => by cases s; simp
  rw [e (mkS a ++ mkS b), h, ← e]
theorem hexB_snoc2 (l : List UInt8) (x : UInt8) : hexB (l ++ [x]) = hexB l ++ ([dgs.getD (x.toNat / 16) 0] ++ [dgs.getD (x.toNat % 16) 0]) := by rw [hexB_snoc]; simp
theorem rhex_c (w : World) (A : Option Addr) (l : List UInt8) (c : Nat) (hr : Bs w A l) (hn : l.length ≤ 1000000) : Pu Tryz.prog n_ostiaryref01_Hex #[.slice A l.length c] w (.string (mkS (hexB l))) := by
  have g := good_ostiaryref01_Hex w (Un [])
  have hml := maxLen_eq
  refine con_of_sx (cx := cx_ostiaryref01_Hex w (Un [])) g b_ostiaryref01_Hex rfl rfl (β := Va.z) [.c (.v (.slice A l.length c))] 0 [] [oldF w] rfl rfl (old_sat rfl) ?_
  refine loop_rule 0 (fun k : Nat => [(3, .c (.v (.string (mkS (hexB (l.take k)))))), (6, .c (.v (.slice A l.length c))), (7, .c (.v (.int .i64 l.length))), (8, .c (.v (.int .i64 (k : Int))))]) (fun _ => []) (fun _ => [oldF w])
    (fun k => k ≤ l.length) (fun k => l.length - k) 0 (Nat.zero_le _) (Ent.same ⟨rfl, rfl, rfl, rfl, trivial⟩ rfl) g ?_
  intro k hk
  refine BIf.dec (fun hlt => ?_) (fun hge => ?_)
  · have hlt0 : (k : Int) < l.length := hlt
    have hkl : k < l.length := by omega
    obtain ⟨x, hx, hxm⟩ := at_lt hkl
    obtain ⟨ad, hA, _⟩ := hr.2 (by omega)
    have hsn : l.take (k + 1) = l.take k ++ [x] := by rw [List.take_add_one, hx]; rfl
    obtain ⟨m, hm⟩ : ∃ m, x.toNat = m := ⟨_, rfl⟩
    have hm256 : m < 256 := by rw [← hm]; exact x.toNat_lt
    have hhl : (hexB (l.take k)).length = 2 * k := by rw [hexB_len, List.length_take]; omega
    refine ⟨ad, k, hA, rfl, hkl, .int .u8 (m : Int), fun β w' hs => ?_, ?_⟩
    · have h := Rd.old hr (hs.get 0 rfl)
      rw [hA] at h
      rw [← hm]
      exact Rd.cell1 (u := byte x) h (by rw [List.getElem?_map, hx]; rfl)
    refine draw_rule g p_ostiaryref01_Hex_5 (by kernel_rfl) [] [oldF w] Sub.refl ?_
    have e1 : IntKind.u8.wrap ((m : Int).tdiv 16) = ((m / 16 : Nat) : Int) := by
      show IntKind.u8.wrap ((m : Int).tdiv ((16 : Nat) : Int)) = _
      rw [← Int.ofNat_tdiv, wrap_u8]
      omega
    have e2 : (m : Int).tmod 16 = ((m % 16 : Nat) : Int) := (Int.ofNat_tmod m 16).symm
    refine ⟨by decide, _, e1, by decide, _, e1, ((m / 16 + 1 : Nat) : Int), by rw [wrap_u8]; omega, ?_⟩
    refine ⟨m / 16 + 1, m / 16, rfl, rfl, by show m / 16 + 1 ≤ 16; omega, by omega, ?_⟩
    refine ⟨by decide, _, e2, by decide, _, e2, ((m % 16 + 1 : Nat) : Int), by rw [wrap_u8]; omega, ?_⟩
    refine ⟨m % 16 + 1, m % 16, rfl, rfl, by show m % 16 + 1 ≤ 16; omega, by omega, ?_⟩
    have z1 : (digS.extract (m / 16) (m / 16 + 1)).size ≤ 1 := by rw [ByteArray.size_extract]; omega
    have z2 : (digS.extract (m % 16) (m % 16 + 1)).size ≤ 1 := by rw [ByteArray.size_extract]; omega
    have z3 : (mkS (hexB (l.take k))).size ≤ 2000000 := by show (hexB (l.take k)).toArray.size ≤ _; rw [List.size_toArray]; omega
    have hf : mkS (hexB (l.take k)) ++ (digS.extract (m / 16) (m / 16 + 1) ++ digS.extract (m % 16) (m % 16 + 1)) = mkS (hexB (l.take (k + 1))) := by
      rw [dig_at (by omega), dig_at (by omega), mkS_app, mkS_app, hsn, hexB_snoc2, hm]
    refine ⟨by show (digS.extract (m / 16) (m / 16 + 1)).size + (digS.extract (m % 16) (m % 16 + 1)).size ≤ maxLen; omega, by show (mkS (hexB (l.take k))).size + (digS.extract (m / 16) (m / 16 + 1) ++ digS.extract (m % 16) (m % 16 + 1)).size ≤ maxLen; rw [ByteArray.size_append]; omega, ?_⟩
    refine ⟨((k + 1 : Nat) : Int), by rw [wrap_i64 (by omega) (by omega)]; rfl, ?_⟩
    refine ⟨k + 1, by omega, by omega, ?_⟩
    rw [← hf]
    exact Ent.same ⟨rfl, rfl, rfl, rfl, trivial⟩ rfl
  · have hge0 : ¬ (k : Int) < l.length := hge
    obtain rfl : k = l.length := by omega
    rw [List.take_length]
    intro β w' hs
    exact hs.fin [] ⟨rfl, rfl⟩
abbrev prowF (A : Option Addr) (L : List (List UInt8)) (c : Nat) : Fact := rowF ty_string 1 (.slice A L.length c) L.length (L.map fun x => Value.string (mkS x))
theorem mkS_ext (l : List UInt8) (i j : Nat) (_hj : j ≤ l.length) : (mkS l).extract i j = mkS ((l.take j).drop i) := by
  apply ByteArray.ext
  simp [mkS, List.extract_eq_take_drop]
  rw [List.drop_take]
theorem rSplit_c (w : World) (s : List UInt8) (d : UInt8) (hs : s.length ≤ 1000000) : Con Tryz.prog n_ostiaryref15_Split #[.string (mkS s), byte d] w [] fun v Fs => ∃ ad c, v = .slice (some ad) (splL d s).length c ∧ (splL d s).length ≤ c ∧ Fs = [prowF (some ad) (splL d s) c] := by
  have g := good_ostiaryref15_Split w (Un [])
  refine con_of_sx (cx := cx_ostiaryref15_Split w (Un [])) g b_ostiaryref15_Split rfl rfl (β := Va.z) [.c (.v (.string (mkS s))), .c (.v (byte d))] 0 [] [] rfl rfl (Sat.start rfl) ?_
  refine loop_rule (ι := Nat × Nat × List (List UInt8) × Option Addr × Nat) 0 (fun i => [(0, .c (.v (.string (mkS s)))), (1, .c (.v (byte d))), (4, .c (.v (.slice none 0 0))), (5, .c (.v (.slice i.2.2.2.1 i.2.2.1.length i.2.2.2.2))), (6, .c (.v (.int .i64 (i.2.1 : Int)))), (7, .c (.v (.int .i64 (i.1 : Int))))]) (fun _ => []) (fun i => [prowF i.2.2.2.1 i.2.2.1 i.2.2.2.2])
    (fun i => i.2.1 ≤ i.1 ∧ i.1 ≤ s.length + 1 ∧ i.2.2.1.length ≤ i.1 ∧ ((i.1 ≤ s.length ∧ i.2.2.1 ++ att ((s.take i.1).drop i.2.1) (splL d (s.drop i.1)) = splL d s) ∨ (i.1 = s.length + 1 ∧ i.2.2.1 = splL d s))) (fun i => s.length + 1 - i.1) (0, 0, [], none, 0) ⟨Nat.le_refl _, by omega, Nat.le_refl _, .inl ⟨by omega, by simpa using att_nil (splL_ne d s)⟩⟩ (Ent.mk' ⟨rfl, rfl, rfl, rfl, rfl, rfl, trivial⟩ rfl (fun β w' hs => by exact (hs.nilRow ty_string 1))) g ?_
  rintro ⟨k, fr, L, A, c⟩ ⟨h1, h2, h3, h4⟩
  simp only at h1 h2 h3 h4
  simp only
  have hsz : (mkS s).size = s.length := by simp [mkS, ByteArray.size]
  refine BIf.dec (fun hk => ?_) (fun hk => ?_)
  · have hk0 : (k : Int) ≤ (s.length : Int) := hk
    have hkn : k ≤ s.length := by omega
    obtain ⟨_, h4⟩ | ⟨h4, _⟩ := h4
    case inr => omega
    refine BIf.dec (fun hq => ?_) (fun hq => ?_)
    · have hq0 : (k : Int) = (s.length : Int) := hq
      have hks : k = s.length := by omega
      have hfin : L ++ [(s.take k).drop fr] = splL d s := by
        rw [← h4, List.drop_of_length_le (by omega : s.length ≤ k)]
        simp [splL, att]
      refine ⟨k, fr, rfl, rfl, by omega, h1, ?_⟩
      rw [mkS_ext s fr k hkn]
      intro b1
      refine ⟨1, L.length, L.length + 1, _, [.string (mkS ((s.take k).drop fr))], _, rfl, fun β w hs => row_rd (hs.get 0 rfl), (fun u hu => by obtain rfl := List.mem_singleton.1 hu; rfl), rfl, rfl, by rw [maxLen_eq]; omega, by show (L.length + 1) * 16 ≤ _; omega, ?_⟩
      intro A' c' q1 q2 q3
      refine ⟨((k + 1 : Nat) : Int), by rw [wrap_i64 (by omega) (by omega)]; rfl, ?_⟩
      refine ⟨((k + 1 : Nat) : Int), by rw [wrap_i64 (by omega) (by omega)]; rfl, ?_⟩
      have hle : (L ++ [(s.take k).drop fr]).length = L.length + 1 := by simp
      refine ⟨(k + 1, k + 1, L ++ [(s.take k).drop fr], A', c'), ⟨Nat.le_refl _, by show k + 1 ≤ _; omega, by show (L ++ [(s.take k).drop fr]).length ≤ k + 1; omega, .inr ⟨by show k + 1 = _; omega, hfin⟩⟩, by show s.length + 1 - (k + 1) < s.length + 1 - k; omega, ?_⟩
      simp only [hle]
      refine Ent.mk' ⟨rfl, rfl, rfl, rfl, rfl, rfl, trivial⟩ rfl (fun β w' hs => ?_)
      have e : prowF A' (L ++ [(s.take k).drop fr]) c' = rowF ty_string 1 (.slice A' (L.length + 1) c') (L.length + 1) (L.map (fun x => Value.string (mkS x)) ++ [.string (mkS ((s.take k).drop fr))]) := by
        simp only [prowF, hle, List.map_append, List.map_cons, List.map_nil]
      rw [e]
      exact (hs.keepB (List.nil_sublist _)).perm [1]
    · have hq0 : ¬ (k : Int) = (s.length : Int) := hq
      have hkl : k < s.length := by omega
      obtain ⟨b, hb⟩ : ∃ b, s[k]? = some b := ⟨_, List.getElem?_eq_getElem hkl⟩
      refine ⟨k, b, rfl, by rw [mkSo]; exact hb, ?_⟩
      have hdr : s.drop k = b :: s.drop (k + 1) := by
        rw [List.drop_eq_getElem_cons hkl, List.getElem?_eq_getElem hkl] at *
        rw [Option.some.inj hb]
      rw [hdr, splL_cons] at h4
      refine BIf.dec (fun hbd => ?_) (fun hbd => ?_)
      · have hbd0 : (b.toNat : Int) = (d.toNat : Int) := hbd
        have hbe : b = d := UInt8.toNat_inj.1 (by omega)
        rw [if_pos hbe] at h4
        refine ⟨k, fr, rfl, rfl, by omega, h1, ?_⟩
        rw [mkS_ext s fr k hkn]
        intro b1
        refine ⟨1, L.length, L.length + 1, _, [.string (mkS ((s.take k).drop fr))], _, rfl, fun β w hs => row_rd (hs.get 0 rfl), (fun u hu => by obtain rfl := List.mem_singleton.1 hu; rfl), rfl, rfl, by rw [maxLen_eq]; omega, by show (L.length + 1) * 16 ≤ _; omega, ?_⟩
        intro A' c' q1 q2 q3
        refine ⟨((k + 1 : Nat) : Int), by rw [wrap_i64 (by omega) (by omega)]; rfl, ?_⟩
        refine ⟨((k + 1 : Nat) : Int), by rw [wrap_i64 (by omega) (by omega)]; rfl, ?_⟩
        have hle : (L ++ [(s.take k).drop fr]).length = L.length + 1 := by simp
        refine ⟨(k + 1, k + 1, L ++ [(s.take k).drop fr], A', c'), ⟨Nat.le_refl _, by show k + 1 ≤ _; omega, by show (L ++ [(s.take k).drop fr]).length ≤ k + 1; omega, .inl ⟨by show k + 1 ≤ _; omega, by rw [show ((s.take (k + 1)).drop (k + 1)) = [] from List.drop_of_length_le (by rw [List.length_take]; omega), att_nil (splL_ne _ _), List.append_assoc]; simpa [att] using h4⟩⟩, by show s.length + 1 - (k + 1) < s.length + 1 - k; omega, ?_⟩
        simp only [hle]
        refine Ent.mk' ⟨rfl, rfl, rfl, rfl, rfl, rfl, trivial⟩ rfl (fun β w' hs => ?_)
        have e : prowF A' (L ++ [(s.take k).drop fr]) c' = rowF ty_string 1 (.slice A' (L.length + 1) c') (L.length + 1) (L.map (fun x => Value.string (mkS x)) ++ [.string (mkS ((s.take k).drop fr))]) := by
          simp only [prowF, hle, List.map_append, List.map_cons, List.map_nil]
        rw [e]
        exact (hs.keepB (List.nil_sublist _)).perm [1]
      · have hbd0 : ¬ (b.toNat : Int) = (d.toNat : Int) := hbd
        have hbe : ¬ b = d := fun e => hbd0 (by rw [e])
        rw [if_neg hbe, att_app] at h4
        have htk : (s.take (k + 1)).drop fr = (s.take k).drop fr ++ [b] := by
          rw [List.take_add_one, hb, List.drop_append_of_le_length (by rw [List.length_take]; omega)]
          rfl
        refine ⟨((k + 1 : Nat) : Int), by rw [wrap_i64 (by omega) (by omega)]; rfl, ?_⟩
        refine ⟨(k + 1, fr, L, A, c), ⟨by show fr ≤ k + 1; omega, by show k + 1 ≤ _; omega, by show L.length ≤ k + 1; omega, .inl ⟨by show k + 1 ≤ _; omega, by show L ++ att ((s.take (k + 1)).drop fr) _ = _; rw [htk]; exact h4⟩⟩, by show s.length + 1 - (k + 1) < s.length + 1 - k; omega, ?_⟩
        exact Ent.mk' ⟨rfl, rfl, rfl, rfl, rfl, rfl, trivial⟩ rfl (fun β w' hs => hs)
  · have hk0 : ¬ (k : Int) ≤ (s.length : Int) := hk
    obtain ⟨h4, _⟩ | ⟨_, h4⟩ := h4
    · omega
    · subst h4
      intro β w' hs
      have h0 : 0 < (splL d s).length := List.length_pos_iff.2 (splL_ne d s)
      obtain ⟨ad, rfl, _⟩ := (row_rd (hs.get 0 rfl)).2 (by simpa using h0)
      have hc : (splL d s).length ≤ c := by
        have hr : w'.ownsRow 0 ty_string 1 (.slice (some ad) (splL d s).length c) (splL d s).length ((splL d s).map fun x => Value.string (mkS x)) := hs.get 0 rfl
        rcases hr.2 with ⟨q, _⟩ | ⟨gb, cap, cur, hv, _, _, q, _⟩
        · cases q
        · injection hv with _ _ q3
          omega
      exact hs.fin [0] ⟨ad, c, rfl, hc, rfl⟩
theorem splL_len (d : UInt8) : ∀ s : List UInt8, (splL d s).length ≤ s.length + 1
  | [] => Nat.le_refl _
  | c :: r => by
    have ih := splL_len d r
    rw [splL_cons]
    split
    · simp only [List.length_cons]; omega
    · cases h : splL d r with
      | nil => exact absurd h (splL_ne d r)
      | cons a t => rw [h] at ih; simp only [att, List.length_cons] at ih ⊢; omega
theorem Rd.pre1 {w : World} {ad : Addr} {n : Nat} {xs : List Value} (h : Rd 1 (some ad) n xs w) (k : Nat) (hk : k ≤ n) : Rd 1 (some ad) k (xs.take k) w := by
  have hl := h.1
  refine ⟨by rw [List.length_take]; omega, fun h0 => ?_⟩
  obtain ⟨ad', q, hc⟩ := h.2 (by omega)
  refine ⟨ad', q, fun j u hu => hc j u ?_⟩
  have := (List.getElem?_eq_some_iff.1 hu).1
  rw [List.length_take] at this
  rw [List.getElem?_take, if_pos (by omega)] at hu
  exact hu
theorem rLines_c (w : World) (s : List UInt8) (hs : s.length ≤ 1000000) : Con Tryz.prog n_ostiaryref15_Lines #[.string (mkS s)] w [] fun v Fs => ∃ ad c X, v = .slice (some ad) (lnL s).length c ∧ X.own = true ∧ (∀ w, X.p w → Rd 1 (some ad) (lnL s).length ((lnL s).map fun x => Value.string (mkS x)) w) ∧ Fs = [X] := by
  have g := good_ostiaryref15_Lines w (Un [])
  refine con_of_sx (cx := cx_ostiaryref15_Lines w (Un [])) g b_ostiaryref15_Lines rfl rfl (β := Va.z) [.c (.v (.string (mkS s)))] 0 [] [] rfl rfl (Sat.start rfl) ?_
  refine call_con [] (fun β w' hs' => rSplit_c w' s 10 hs) ?_
  rintro v Fs ⟨ad, c, rfl, hc, rfl⟩
  have hn := splL_ne 10 s
  have hl := splL_len 10 s
  have hln : lnL s = if (splL 10 s).getLast? = some [] then (splL 10 s).dropLast else splL 10 s := rfl
  generalize splL 10 s = M at hn hl hln hc ⊢
  have h0 : 0 < M.length := List.length_pos_iff.2 hn
  obtain ⟨x, hx⟩ : ∃ x, M[M.length - 1]? = some x := ⟨_, List.getElem?_eq_getElem (by omega)⟩
  have hx' : M.getLast? = some x := by rw [List.getLast?_eq_getElem?]; exact hx
  refine ⟨((M.length - 1 : Nat) : Int), by rw [wrap_i64 (by omega) (by omega)]; omega, ?_⟩
  refine ⟨ad, M.length - 1, rfl, rfl, by omega, ?_⟩
  refine ⟨.string (mkS x), fun β w' hs => ?_, ?_⟩
  · exact Rd.cell1 (row_rd (hs.get 0 rfl)) (by simp [hx])
  refine BIf.dec (fun hq => ?_) (fun hq => ?_)
  · refine ⟨(((M.length - 1) : Nat) : Int), by rw [wrap_i64 (by omega) (by omega)]; omega, ?_⟩
    refine ⟨c, M.length - 1, 0, M.length - 1, c, _, rfl, rfl, rfl, Nat.le_refl _, ?_, Nat.zero_le _, rfl, rfl, rfl, ?_⟩
    · omega
    have hx0 : x = [] := mkS1 hq
    rw [hx', hx0, if_pos rfl] at hln
    have hll : (lnL s).length = M.length - 1 := by rw [hln, List.length_dropLast]
    intro β w' hs
    refine hs.fin [0] ⟨ad, c, prowF (some ad) M c, ?_, rfl, fun w h => ?_, rfl⟩
    · rw [hll, show cutA (some ad) c 0 ti9.size = some ad from by simp [cutA, Addr.add]]
      rfl
    · have h1 := Rd.pre1 (row_rd h) (M.length - 1) (by omega)
      rw [hll, hln, List.dropLast_eq_take, List.map_take]
      exact h1
  · have hx0 : ¬ x = [] := fun e => hq (by rw [e]; rfl)
    rw [hx', if_neg (fun e => hx0 (Option.some.inj e))] at hln
    rw [hln]
    intro β w' hs
    exact hs.fin [0] ⟨ad, c, prowF (some ad) M c, rfl, rfl, fun w h => row_rd h, rfl⟩
end Go.Proofs.YtloeaiafphkjnaaGreatDoor.Sx

namespace Go.Proofs.YtloeaiafphkjnaaGreatDoor.Sx
open Go
def u8n (n : Nat) : UInt8 := UInt8.ofNat n
def digA (c : UInt8) : Option Nat := if 48 ≤ c.toNat ∧ c.toNat ≤ 57 then some (c.toNat - 48) else if 97 ≤ c.toNat ∧ c.toNat ≤ 102 then some (c.toNat - 97 + 10) else none
def unhexA : List UInt8 → Option (List UInt8)
  | a :: b :: r => match digA a, digA b, unhexA r with
    | some x, some y, some l => some (u8n (x * 16 + y) :: l)
    | _, _, _ => none
  | [_] => none
  | [] => some []
theorem hi2 {y : Nat} (h : y < 32) : 192 ||| UInt8.ofNat y = UInt8.ofNat (192 + y) := by
  have key : ∀ n : _root_.Fin 32, 192 ||| UInt8.ofNat n.1 = UInt8.ofNat (192 + n.1) := by decide +kernel
  exact key ⟨y, h⟩
theorem hi3 {y : Nat} (h : y < 16) : 224 ||| UInt8.ofNat y = UInt8.ofNat (224 + y) := by
  have key : ∀ n : _root_.Fin 16, 224 ||| UInt8.ofNat n.1 = UInt8.ofNat (224 + n.1) := by decide +kernel
  exact key ⟨y, h⟩
theorem hi4 {y : Nat} (h : y < 8) : 240 ||| UInt8.ofNat y = UInt8.ofNat (240 + y) := by
  have key : ∀ n : _root_.Fin 8, 240 ||| UInt8.ofNat n.1 = UInt8.ofNat (240 + n.1) := by decide +kernel
  exact key ⟨y, h⟩
end Go.Proofs.YtloeaiafphkjnaaGreatDoor.Sx

namespace Go.Proofs.YtloeaiafphkjnaaGreatDoor.Sx
open Go
attribute [local irreducible] Calls
def lead (b : UInt8) : Option (Nat × Nat) :=
  if 194 ≤ b.toNat ∧ b.toNat ≤ 223 then some (2, b.toNat - 192)
  else if 224 ≤ b.toNat ∧ b.toNat ≤ 239 then some (3, b.toNat - 224)
  else if 240 ≤ b.toNat ∧ b.toNat ≤ 244 then some (4, b.toNat - 240)
  else none
end Go.Proofs.YtloeaiafphkjnaaGreatDoor.Sx

namespace Go.Proofs.YtloeaiafphkjnaaGreatDoor.Sx
open Go
section
variable {cx : Cx} {n : Nat} {H : List Bk} {F : List Fact} {w : World}
end
end Go.Proofs.YtloeaiafphkjnaaGreatDoor.Sx

namespace Go.Proofs.YtloeaiafphkjnaaGreatDoor.Sx
open Go
attribute [local irreducible] Calls
def piecesA (k : Nat) : List UInt8 → List (List UInt8)
  | [] => []
  | c :: r => (c :: r).take (k + 1) :: piecesA k ((c :: r).drop (k + 1))
termination_by l => l.length
decreasing_by simp only [List.length_drop, List.length_cons]; omega
theorem pieces_nil (k : Nat) : piecesA k [] = [] := by rw [piecesA]
theorem pieces_ne (k : Nat) {l : List UInt8} (h : l ≠ []) : piecesA k l = l.take (k + 1) :: piecesA k (l.drop (k + 1)) := by
  cases l with
  | nil => exact absurd rfl h
  | cons c r => rw [piecesA]
theorem pieces_len (k : Nat) : ∀ (m : Nat) (l : List UInt8), l.length ≤ m → (piecesA k l).length ≤ l.length
  | 0, l, h => by
    obtain rfl : l = [] := List.length_eq_zero_iff.1 (by omega)
    rw [pieces_nil]; exact Nat.zero_le _
  | m + 1, l, h => by
    by_cases hl : l = []
    · rw [hl, pieces_nil]; exact Nat.zero_le _
    · have h0 : 0 < l.length := List.length_pos_iff.2 hl
      rw [pieces_ne k hl, List.length_cons]
      have := pieces_len k m (l.drop (k + 1)) (by rw [List.length_drop]; omega)
      rw [List.length_drop] at this
      omega
theorem mkS_take (l : List UInt8) (n : Nat) : (mkS l).extract 0 n = mkS (l.take n) := by
  apply ByteArray.ext
  simp [mkS]
theorem mkS_drop (l : List UInt8) (n : Nat) : (mkS l).extract n (mkS l).size = mkS (l.drop n) := by
  apply ByteArray.ext
  simp [mkS, ByteArray.size]
  rw [List.take_of_length_le (by rw [List.length_drop]; omega)]
theorem mkS_sz (l : List UInt8) : (mkS l).size = l.length := by simp [mkS, ByteArray.size]
theorem mkS_of (s : ByteArray) : mkS s.data.toList = s := by simp [mkS]
def insS (L : List ByteArray) (pre : List ByteArray) (x : ByteArray) (args : Array Value) (X : Fact) : Prop := args = #[.string x] ∧ X = noF ∧ L[pre.length]? = some x
def grpEnd (L : List ByteArray) (J Jx : List ByteArray → Fact → Prop) (Fs : List Fact) : Prop :=
  ∃ f Fs', Fs = f :: Fs' ∧ ((∃ xs, J xs f ∧ xs = L ∧ Fs' = []) ∨ (∃ pre, Jx pre f ∧ Fs' = []))
theorem grp_it (l : Nat) (w : World) (bs bk k : Nat) (s0 : List UInt8) (f0 R : Fact) (J Jx : List ByteArray → Fact → Prop) (kk : Int) (hkk : ((k + 1 : Nat) : Int) = kk) (hk : k ≤ 1000) (hL : s0.length ≤ 1000000) (hJ0 : J [] f0) (hJo : ∀ pre f, J pre f → f.own = true) (hRo : R.own = false) (hY : Yc Tryz.prog l J Jx R (insS ((piecesA k s0).map mkS)))
    (hm : Mem w (f0 :: R :: [bkF bs ty_string [.string (mkS s0)], bkF bk ty_int [.int .i64 kk]])) :
    Con Tryz.prog n_b64_Groups_1 #[.func (.yield l) #[] #[], .pointer (some ⟨bs, 0, none⟩), .pointer (some ⟨bk, 0, none⟩)] w [f0, bkF bs ty_string [.string (mkS s0)], bkF bk ty_int [.int .i64 kk]] (fun _ Fs => grpEnd ((piecesA k s0).map mkS) J Jx Fs) := by
  have g := good_b64_Groups_1 w (Un [f0, bkF bs ty_string [.string (mkS s0)], bkF bk ty_int [.int .i64 kk]]) [bs, bk]
  have hs0 : Sat (cx_b64_Groups_1 w (Un [f0, bkF bs ty_string [.string (mkS s0)], bkF bk ty_int [.int .i64 kk]]) [bs, bk]) (Va.of fun i => [bs, bk].getD i 0) 2 [] (f0 :: R :: [bkF bs ty_string [.string (mkS s0)], bkF bk ty_int [.int .i64 kk]]) w := by
    refine hm.sat rfl (fun f hf ho k hk => ?_) ⟨Nat.le_refl 2, fun i _ => rfl⟩
    simp only [List.mem_cons, List.not_mem_nil, or_false] at hf
    rcases hf with rfl | rfl | rfl | rfl
    · exact ⟨_, by simp, hk⟩
    · rw [hRo] at ho; cases ho
    · exact ⟨bkF bs ty_string [.string (mkS s0)], by simp, hk⟩
    · exact ⟨_, by simp, hk⟩
  have hs1 := (hs0.toBk 3 rfl 1 (by decide) rfl).toBk 2 rfl 0 (by decide) rfl
  refine con_of_sx (cx := cx_b64_Groups_1 w (Un [f0, bkF bs ty_string [.string (mkS s0)], bkF bk ty_int [.int .i64 kk]]) [bs, bk]) g b_b64_Groups_1 rfl rfl (β := Va.of fun i => [bs, bk].getD i 0) [.c (.v (.func (.yield l) #[] #[])), .c (.p 0 0), .c (.p 1 0)] 2 _ _ rfl rfl hs1 ?_
  obtain ⟨L, hLd⟩ : ∃ L, (piecesA k s0).map mkS = L := ⟨_, rfl⟩
  rw [hLd] at hY ⊢
  refine loop_rule (ι := List UInt8 × List ByteArray × Fact) 2 (fun i => [(0, .c (.v (.func (.yield l) #[] #[]))), (1, .c (.p 0 0)), (2, .c (.p 1 0))]) (fun i => [⟨0, ty_string, [.v (.string (mkS i.1))]⟩, ⟨1, ty_int, [.v (.int .i64 kk)]⟩]) (fun i => [i.2.2, R])
    (fun i => J i.2.1 i.2.2 ∧ L = i.2.1 ++ (piecesA k i.1).map mkS ∧ i.1.length ≤ 1000000) (fun i => i.1.length) (s0, [], f0) ⟨hJ0, hLd.symm, hL⟩ (Ent.mk' ⟨rfl, rfl, rfl, trivial⟩ rfl (fun β w' hs => hs)) g ?_
  rintro ⟨r, pre, f⟩ ⟨hJ, hpre, hrl⟩
  simp only at hJ hpre hrl
  have hfo := hJo _ _ hJ
  simp only
  have hsz := mkS_sz r
  obtain ⟨z, hz⟩ : ∃ z : Int, ((mkS r).size : Int) = z := ⟨_, rfl⟩
  by_cases hr : r = []
  · subst hr
    rw [pieces_nil, List.map_nil, List.append_nil] at hpre
    intro β w' hs
    exact (hs.keepB (List.nil_sublist _)).fin [0] ⟨f, _, rfl, .inl ⟨pre, hJ, hpre.symm, rfl⟩⟩ rfl rfl rfl ⟨hfo, trivial⟩
  have hr0 : 0 < r.length := List.length_pos_iff.2 hr
  refine BIf.dec (fun _ => ?_) (fun h => absurd (show (0 : Int) < ((mkS r).size : Int) by omega) h)
  refine BIf.dec (fun _ => ?_) (fun h => absurd (show (0 : Int) < kk by omega) h)
  obtain ⟨m, hm⟩ : ∃ m : Nat, m = min r.length (k + 1) := ⟨_, rfl⟩
  have hmt : r.take m = r.take (k + 1) := by
    rcases Nat.le_total r.length (k + 1) with h | h
    · rw [hm, Nat.min_eq_left h, List.take_length, List.take_of_length_le h]
    · rw [hm, Nat.min_eq_right h]
  have hmd : r.drop m = r.drop (k + 1) := by
    rcases Nat.le_total r.length (k + 1) with h | h
    · rw [hm, Nat.min_eq_left h, List.drop_length, List.drop_of_length_le h]
    · rw [hm, Nat.min_eq_right h]
  refine ⟨(m : Int), by show min _ _ = _; omega, ?_⟩
  refine ⟨m, 0, rfl, rfl, by omega, Nat.zero_le _, ?_⟩
  have hx : (mkS r).extract 0 m = mkS (r.take (k + 1)) := by rw [mkS_take, hmt]
  have hd : (mkS r).extract m (mkS r).size = mkS (r.drop (k + 1)) := by rw [mkS_drop, hmd]
  have hLx : L[pre.length]? = some (mkS (r.take (k + 1))) := by
    rw [hpre, pieces_ne k hr, List.map_cons, List.getElem?_append_right (Nat.le_refl _), Nat.sub_self]
    rfl
  refine yield_ro (X := noF) (x := mkS (r.take (k + 1))) hY 0 1 rfl hJ hfo rfl hRo (by decide) (fun β => ⟨by rw [← hx]; rfl, rfl, hLx⟩) rfl (fun β w _ => ⟨trivial, fun k hk => hk.elim, fun k _ h => h.elim⟩) ?_ ?_
  · intro f2 hfo2 hJ2
    refine ⟨(mkS r).size, m, rfl, rfl, Nat.le_refl _, by omega, ?_⟩
    refine ⟨(r.drop (k + 1), pre ++ [mkS (r.take (k + 1))], f2), ⟨hJ2, ?_, by show (r.drop (k + 1)).length ≤ _; rw [List.length_drop]; omega⟩, by show (r.drop (k + 1)).length < r.length; rw [List.length_drop]; omega, ?_⟩
    · show L = (pre ++ [mkS (r.take (k + 1))]) ++ (piecesA k (r.drop (k + 1))).map mkS
      rw [hpre, pieces_ne k hr, List.map_cons, List.append_assoc]
      rfl
    · simp only [← hd]
      exact Ent.same ⟨rfl, rfl, rfl, trivial⟩ rfl
  · intro f2 hfo2 hJ2 β w' hs
    exact (hs.keepB (List.nil_sublist _)).fin [0] ⟨f2, _, rfl, .inr ⟨_, hJ2, rfl⟩⟩ rfl rfl rfl ⟨hfo2, trivial⟩
theorem groups_c (w : World) (s : ByteArray) (kk : Int) : Con Tryz.prog n_b64_Groups #[.string s, .int .i64 kk] w [] (fun v Fs => ∃ bs bk, v = .func (.func n_b64_Groups_1) #[] #[.pointer (some ⟨bs, 0, none⟩), .pointer (some ⟨bk, 0, none⟩)] ∧ Fs = [bkF bs ty_string [.string s], bkF bk ty_int [.int .i64 kk]]) := by
  refine con_of_sx (cx := cx_b64_Groups w (Un [])) (good_b64_Groups w (Un [])) b_b64_Groups rfl rfl (β := Va.z) [.c (.v (.string s)), .c (.v (.int .i64 kk))] 0 [] [] rfl rfl (Sat.start rfl) ?_
  intro β w' hs
  exact hs.ofBk.ofBk.fin [0, 1] ⟨β 0, β 1, rfl, rfl⟩
theorem pieces_at (k : Nat) : ∀ (j : Nat) (l : List UInt8) (x : List UInt8), (piecesA k l)[j]? = some x → x = (l.drop ((k + 1) * j)).take (k + 1) ∧ (k + 1) * j < l.length ∧ ((piecesA k l).take j).flatten = l.take ((k + 1) * j)
  | j, l, x, h => by
    by_cases hl : l = []
    · rw [hl, pieces_nil] at h; simp at h
    · have h0 : 0 < l.length := List.length_pos_iff.2 hl
      rw [pieces_ne k hl] at h ⊢
      cases j with
      | zero =>
        obtain rfl : l.take (k + 1) = x := by simpa using h
        exact ⟨by simp, by simpa using h0, by simp⟩
      | succ j =>
        have h' : (piecesA k (l.drop (k + 1)))[j]? = some x := by simpa using h
        obtain ⟨h1, h2, h3⟩ := pieces_at k j (l.drop (k + 1)) x h'
        rw [List.length_drop] at h2
        refine ⟨?_, by rw [Nat.mul_succ]; omega, ?_⟩
        · rw [h1, List.drop_drop, Nat.mul_succ, Nat.add_comm (k + 1)]
        · rw [List.take_succ_cons, List.flatten_cons, h3, Nat.mul_succ, Nat.add_comm ((k + 1) * j) (k + 1)]
          exact List.take_add.symm
theorem pieces_flat (k : Nat) : ∀ (m : Nat) (l : List UInt8), l.length ≤ m → (piecesA k l).flatten = l
  | 0, l, h => by
    obtain rfl : l = [] := List.length_eq_zero_iff.1 (by omega)
    rw [pieces_nil]; rfl
  | m + 1, l, h => by
    by_cases hl : l = []
    · rw [hl, pieces_nil]; rfl
    · have h0 : 0 < l.length := List.length_pos_iff.2 hl
      rw [pieces_ne k hl, List.flatten_cons, pieces_flat k m _ (by rw [List.length_drop]; omega), List.take_append_drop]
theorem brow_cap {e : Nat} {c : Nat} {A : Option Addr} {l : List UInt8} {w : World} (h : (browF e A l c).p w) : l.length ≤ c := by
  rcases h.2 with ⟨_, h0⟩ | ⟨g, cap, cur, he, _, _, hnc, _⟩
  · omega
  · injection he with _ _ h3
    omega
def decOutP (l : Option (List UInt8)) (v : Value) (Fs : List Fact) : Prop := ∃ A l' c e, v = .tuple #[.slice A l'.length c, .int .i64 e] ∧ ((e = 0 ∧ l = some l') ∨ (e ≠ 0 ∧ l = none)) ∧ l'.length ≤ c ∧ Fs = [browF ty_uint8 A l' c]
theorem digA_lt {c : UInt8} {v : Nat} (h : digA c = some v) : v < 16 := by
  unfold digA at h
  split at h
  · injection h; omega
  · split at h
    · injection h; omega
    · cases h
theorem dig_ix (c : UInt8) : _root_.Go.Lib.indexByte [48, 49, 50, 51, 52, 53, 54, 55, 56, 57, 97, 98, 99, 100, 101, 102] c = match digA c with | some v => (v : Int) | none => -1 := by
  have h : ∀ n : _root_.Fin 256, _root_.Go.Lib.indexByte [48, 49, 50, 51, 52, 53, 54, 55, 56, 57, 97, 98, 99, 100, 101, 102] (UInt8.ofNat n.val) = match digA (UInt8.ofNat n.val) with | some v => (v : Int) | none => -1 := by decide +kernel
  have h1 := h ⟨c.toNat, c.toNat_lt⟩
  simpa using h1
def digV (c : UInt8) : Int := match digA c with | some v => (v : Int) | none => -1
theorem indexD_c (w : World) (c : UInt8) : Pu Tryz.prog n_strings_IndexByte #[.string ⟨#[48, 49, 50, 51, 52, 53, 54, 55, 56, 57, 97, 98, 99, 100, 101, 102]⟩, .int .u8 c.toNat] w (.int .i64 (digV c)) := by
  refine pu_of (Calls.mono (Tryz.strings_IndexByte ⟨#[48, 49, 50, 51, 52, 53, 54, 55, 56, 57, 97, 98, 99, 100, 101, 102]⟩ c.toNat w) ?_)
  rintro e w' ⟨rfl, rfl⟩
  refine ⟨_, rfl, ?_, Chg.refl _ _⟩
  unfold digV
  rw [← dig_ix]
  show Value.int .i64 (_root_.Go.Lib.indexByte _ ((c.toNat : Int).toNat.toUInt8)) = _
  rw [Int.toNat_natCast, show c.toNat.toUInt8 = c from UInt8.ofNat_toNat]
theorem or4_i64 {x y : Nat} (hx : x < 33554432) (hy : y < 16) : bits .or .i64 ((x * 16 : Nat) : Int) (y : Int) = ((x * 16 + y : Nat) : Int) := by
  show IntKind.i64.wrap (((BitVec.ofInt 64 ((x * 16 : Nat) : Int)) ||| (BitVec.ofInt 64 (y : Int))).toNat : Int) = _
  have h1 : (BitVec.ofInt 64 ((x * 16 : Nat) : Int)).toNat = x <<< 4 := by
    rw [BitVec.toNat_ofInt, Nat.shiftLeft_eq]
    omega
  have h2 : (BitVec.ofInt 64 (y : Int)).toNat = y := by
    rw [BitVec.toNat_ofInt]
    omega
  rw [BitVec.toNat_or, h1, h2, ← Nat.shiftLeft_add_eq_or_of_lt (by omega) x, Nat.shiftLeft_eq, wrap_i64 (by omega) (by omega)]
theorem unhexA_app : ∀ (a b : List UInt8), a.length % 2 = 0 → unhexA (a ++ b) = match unhexA a, unhexA b with | some x, some y => some (x ++ y) | _, _ => none
  | [], b, _ => by rw [List.nil_append]; cases h : unhexA b <;> simp [unhexA, h]
  | [_], b, h => by simp at h
  | x :: y :: r, b, h => by
    have h1 := unhexA_app r b (by simp only [List.length_cons] at h; omega)
    simp only [List.cons_append, unhexA, h1]
    cases digA x <;> cases digA y <;> cases unhexA r <;> cases unhexA b <;> simp
theorem unhexA_bad (b c : UInt8) : ∀ (a d : List UInt8), a.length % 2 = 0 → (digA b = none ∨ digA c = none) → unhexA (a ++ b :: c :: d) = none
  | [], d, _, h => by
    simp only [List.nil_append, unhexA]
    rcases h with h | h
    · rw [h]
    · rw [h]; cases digA b <;> rfl
  | [_], d, h, _ => by simp at h
  | x :: y :: r, d, h, hb => by
    have h1 := unhexA_bad b c r d (by simp only [List.length_cons] at h; omega) hb
    simp only [List.cons_append, unhexA, h1]
    cases digA x <;> cases digA y <;> rfl
theorem unhexA_odd : ∀ l : List UInt8, l.length % 2 = 1 → unhexA l = none
  | [], h => by simp at h
  | [_], _ => rfl
  | a :: b :: r, h => by
    simp only [unhexA, unhexA_odd r (by simp only [List.length_cons] at h; omega)]
    cases digA a <;> cases digA b <;> rfl
theorem Unhex_c (w : World) (s0 : List UInt8) (hL : s0.length ≤ 1000000) : Con Tryz.prog n_b64_Unhex #[.string (mkS s0)] w [] (decOutP (unhexA s0)) := by
  have g := good_b64_Unhex w (Un [])
  have hml := maxLen_eq
  have hsz := mkS_sz s0
  refine con_of_sx (cx := cx_b64_Unhex w (Un [])) g b_b64_Unhex rfl rfl (β := Va.z) [.c (.v (.string (mkS s0)))] 0 [] [] rfl rfl (Sat.start rfl) ?_
  refine ⟨by first | decide | omega, ?_⟩
  refine ⟨(((mkS s0).size % 2 : Nat) : Int), Int.ofNat_tmod _ _, ?_⟩
  refine BIf.not (BIf.dec (fun h0 => ?_) (fun h0 => ?_))
  · have h00 : (((mkS s0).size % 2 : Nat) : Int) = 0 := h0
    refine call_con [] (fun β w' hs => groups_c w' (mkS s0) 2) ?_
    rintro v Fs ⟨bs, bk, rfl, rfl⟩
    obtain ⟨L, hLd⟩ : ∃ L, (piecesA 1 s0).map mkS = L := ⟨_, rfl⟩
    have hLL : L.length ≤ 1000000 := by
      have h := pieces_len 1 _ s0 (Nat.le_refl _)
      rw [← hLd, List.length_map]
      omega
    refine range_rule (α := ByteArray) (ι := List UInt8 × Option Addr × Nat) (κ := Unit) g rfl (cv := [.pointer (some ⟨bs, 0, none⟩), .pointer (some ⟨bk, 0, none⟩)]) rfl (by kernel_rfl) 3 (Nat.le_refl 3)
      (fun pre i => pre = L.take pre.length ∧ unhexA (pre.map (·.data.toList)).flatten = some i.1 ∧ i.1.length ≤ pre.length) (fun i => [⟨2, ty_sl_uint8, [.v (.slice i.2.1 i.1.length i.2.2)]⟩, ⟨1, ty_api_Errno, [.v (.int .i64 0)]⟩, ⟨0, ty_sl_uint8, [.v (.slice none 0 0)]⟩]) (fun i => [browF ty_uint8 i.2.1 i.1 i.2.2]) (fun i => ⟨rfl, trivial⟩)
      (fun e pre _ => e = .ret ∧ unhexA s0 = none) (fun _ => [⟨1, ty_api_Errno, [.v (.int .i64 5)]⟩, ⟨0, ty_sl_uint8, [.v (.slice none 0 0)]⟩]) (fun _ => []) (fun _ => trivial)
      [bkF bs ty_string [.string (mkS s0)], bkF bk ty_int [.int .i64 2]] [] [] ⟨rfl, rfl, trivial⟩ (fun g h => by cases h) ([], none, 0) ⟨rfl, rfl, Nat.le_refl _⟩
      (fun β w hs => ⟨β, Agr.refl _ _, (hs.nilRow ty_uint8 1).perm [1, 2, 0]⟩) (insS L)
      (fun xs Fs' => xs = L ∧ Fs' = []) (fun _ Fs' => Fs' = [])
      (fun l w f0 R J Jx hJ0 hJo hRo hY hm => by
        have h := grp_it l w bs bk 1 s0 f0 R J Jx 2 rfl (by decide) (by omega) hJ0 hJo hRo (by rw [hLd]; exact hY) hm
        rw [hLd] at h
        exact h) ?_ ?_ ?_
    · rintro ⟨out, A, c⟩ pre x args X W S' lb bs' pn pn' hbs ⟨hpre, hun, hlen⟩ ⟨rfl, rfl, hx⟩
      obtain ⟨cs, hcs, rfl⟩ : ∃ cs, (piecesA 1 s0)[pre.length]? = some cs ∧ x = mkS cs := by
        rw [← hLd, List.getElem?_map] at hx
        obtain ⟨cs, h1, h2⟩ := Option.map_eq_some_iff.1 hx
        exact ⟨cs, h1, h2.symm⟩
      obtain ⟨p1, p2, p3⟩ := pieces_at 1 _ _ _ hcs
      have hpf : (pre.map (·.data.toList)).flatten = s0.take (2 * pre.length) := by
        conv => lhs; rw [hpre]
        rw [← hLd, ← List.map_take, List.map_map, show ((fun b : ByteArray => b.data.toList) ∘ mkS) = id from funext fun l => by simp [mkS], List.map_id]
        exact p3
      simp only at hun hlen
      have hun0 := hun
      rw [hpf] at hun
      have hcl : cs.length = 2 := by rw [p1, List.length_take, List.length_drop]; omega
      obtain ⟨ca, cb, rfl⟩ : ∃ a b, cs = [a, b] := by
        match cs, hcl with
        | [a, b], _ => exact ⟨a, b, rfl⟩
      have hdm : (mkS [ca, cb]).data.toList = [ca, cb] := by simp [mkS]
      have hcz : (mkS [ca, cb]).size = 2 := rfl
      have hs0 : s0 = s0.take (2 * pre.length) ++ ca :: cb :: (s0.drop (2 * pre.length)).drop 2 := by
        have h1 : [ca, cb] ++ (s0.drop (2 * pre.length)).drop 2 = s0.drop (2 * pre.length) := by
          rw [p1]; exact List.take_append_drop _ _
        have h2 := List.take_append_drop (2 * pre.length) s0
        rw [← h1] at h2
        exact h2.symm
      refine ⟨_, rfl, ?_⟩
      intro b1
      intro b2
      intro q1
      intro q2
      refine loop_rule (ι := Nat × Nat) 3 (fun j => [(2, .c (.p 0 0)), (3, .c (.p 1 0)), (4, .c (.p 2 0)), (6, .c (.v (.int .i64 (j.2 : Int)))), (18, .c (.v (.slice (some ⟨b1, 0, none⟩) (mkS [ca, cb]).size b2))), (19, .c (.v (.int .i64 ((mkS [ca, cb]).size : Int)))), (20, .c (.v (.int .i64 (j.1 : Int))))])
        (fun _ => [⟨2, ty_sl_uint8, [.v (.slice A out.length c)]⟩, ⟨1, ty_api_Errno, [.v (.int .i64 0)]⟩, ⟨0, ty_sl_uint8, [.v (.slice none 0 0)]⟩]) (fun _ => [rdoF 1 (some ⟨b1, 0, none⟩) (mkS [ca, cb]).size ((mkS [ca, cb]).data.toList.map byte), browF ty_uint8 A out c])
        (fun j => (j.1 = 0 ∧ j.2 = 0) ∨ (j.1 = 1 ∧ digA ca = some j.2) ∨ (j.1 = 2 ∧ ∃ x y, digA ca = some x ∧ digA cb = some y ∧ j.2 = x * 16 + y)) (fun j => 2 - j.1) (0, 0) (.inl ⟨rfl, rfl⟩) (Ent.mk' ⟨rfl, rfl, rfl, rfl, rfl, rfl, rfl, trivial⟩ rfl (fun β w' hs => hs.perm [0, 2])) (rcx_good g) ?_
      rintro ⟨j, N⟩ hj
      simp only at hj
      have hbad : digA ca = none ∨ digA cb = none → unhexA s0 = none := fun h => by
        rw [hs0]
        exact unhexA_bad ca cb _ _ (by rw [List.length_take]; omega) h
      refine BIf.dec (fun hlt => ?_) (fun hge => ?_)
      · have hlt0 : (j : Int) < ((mkS [ca, cb]).size : Int) := hlt
        obtain ⟨y, hy, hyb⟩ : ∃ y, [ca, cb][j]? = some y ∧ (j = 0 ∧ y = ca ∧ N = 0 ∨ j = 1 ∧ y = cb ∧ digA ca = some N) := by
          rcases hj with ⟨h1, h2⟩ | ⟨h1, h2⟩ | ⟨h1, _⟩
          · exact ⟨ca, by rw [h1]; rfl, .inl ⟨h1, rfl, h2⟩⟩
          · exact ⟨cb, by rw [h1]; rfl, .inr ⟨h1, rfl, h2⟩⟩
          · omega
        refine ⟨_, j, rfl, rfl, by omega, ?_⟩
        refine ⟨byte y, fun β w' hs => Rd.cell1 (show Rd 1 (some ⟨b1, 0, none⟩) (mkS [ca, cb]).size ((mkS [ca, cb]).data.toList.map byte) w' from hs.get 0 rfl) (by rw [hdm, List.getElem?_map, hy]; rfl), ?_⟩
        refine call_pu (fun β w' hs => indexD_c w' y) ?_
        unfold digV
        cases hdy : digA y with
        | none =>
          refine ⟨(), ⟨rfl, hbad ?_⟩, Ent.mk' trivial rfl (fun β w hs => ((hs.keepB (List.sublist_cons_self _ _)).perm []).lower)⟩
          rcases hyb with ⟨_, q, _⟩ | ⟨_, q, _⟩
          · exact .inl (by rw [← q]; exact hdy)
          · exact .inr (by rw [← q]; exact hdy)
        | some v =>
          have hv := digA_lt hdy
          have hN16 : N < 16 := by
            rcases hyb with ⟨_, _, q⟩ | ⟨_, _, q⟩
            · omega
            · exact digA_lt q
          refine ⟨by first | decide | omega, ((N * 16 : Nat) : Int), ?_, ?_⟩
          · rw [show min (4 : Int).toNat IntKind.i64.bits = 4 from rfl, wrap_i64 (by omega) (by omega)]; omega
          refine ⟨((N * 16 + v : Nat) : Int), or4_i64 (by omega) hv, ?_⟩
          refine ⟨((j + 1 : Nat) : Int), by rw [wrap_i64 (by omega) (by omega)]; rfl, ?_⟩
          refine ⟨(j + 1, N * 16 + v), ?_, by show 2 - (j + 1) < 2 - j; omega, Ent.same ⟨rfl, rfl, rfl, rfl, rfl, rfl, rfl, trivial⟩ rfl⟩
          rcases hyb with ⟨q1, q2, q3⟩ | ⟨q1, q2, q3⟩
          · exact .inr (.inl ⟨by show j + 1 = 1; omega, by show digA ca = some (N * 16 + v); rw [← q2, hdy, q3, Nat.zero_mul, Nat.zero_add]⟩)
          · exact .inr (.inr ⟨by show j + 1 = 2; omega, N, v, q3, by rw [← q2]; exact hdy, rfl⟩)
      · have hge0 : ¬ (j : Int) < ((mkS [ca, cb]).size : Int) := hge
        obtain ⟨x, y, hx1, hy1, hN⟩ : ∃ x y, digA ca = some x ∧ digA cb = some y ∧ N = x * 16 + y := by
          rcases hj with ⟨h1, h2⟩ | ⟨h1, h2⟩ | ⟨h1, h⟩
          · omega
          · omega
          · exact h
        have hN8 : N < 256 := by
          have h1 := digA_lt hx1
          have h2 := digA_lt hy1
          omega
        refine ⟨((u8n N).toNat : Int), wrap_u8n _, ?_⟩
        intro b3
        obtain ⟨l2, hl2⟩ : ∃ l2, l2 = out ++ [u8n N] := ⟨_, rfl⟩
        have hl2l : out.length + 1 = l2.length := by rw [hl2, List.length_append]; rfl
        have hpl : pre.length < L.length := by
          rcases Nat.lt_or_ge pre.length L.length with h | h
          · exact h
          · rw [List.getElem?_eq_none h] at hx; cases hx
        refine ⟨2, out.length, l2.length, _, [u8n N].map byte, l2.map byte, rfl, fun β w' hs => row_rd (hs.get 0 rfl), bytes_one _, hl2l, by rw [hl2, List.map_append], by rw [maxLen_eq]; omega, by show l2.length * 1 ≤ _; omega, ?_⟩
        intro A2 c2 r1 r2 r3
        refine ⟨(l2, A2, c2), ⟨?_, ?_, ?_⟩, Ent.mk' trivial rfl (fun β w' hs => hs.perm [2])⟩
        · show pre ++ [mkS [ca, cb]] = L.take (pre ++ [mkS [ca, cb]]).length
          rw [List.length_append, List.length_singleton, List.take_add_one, hx, ← hpre]
          rfl
        · show unhexA ((pre ++ [mkS [ca, cb]]).map (·.data.toList)).flatten = some l2
          rw [List.map_append, List.map_singleton, hdm, List.flatten_append, unhexA_app _ _ (by rw [hpf, List.length_take]; omega), hun0, hl2]
          simp [unhexA, hx1, hy1, hN]
        · show l2.length ≤ (pre ++ [mkS [ca, cb]]).length
          rw [List.length_append, List.length_singleton]
          omega
    · rintro xs ⟨out, A, c⟩ Fs ⟨hpre, hun, hlen⟩ ⟨rfl, rfl⟩
      have hfl : (xs.map (·.data.toList)).flatten = s0 := by
        rw [← hLd, List.map_map, show ((fun b : ByteArray => b.data.toList) ∘ mkS) = id from funext fun l => by simp [mkS], List.map_id, pieces_flat 1 _ _ (Nat.le_refl _)]
      rw [hfl] at hun
      intro β w' hs
      have hcap : out.length ≤ c := brow_cap (show (browF ty_uint8 A out c).p w' from hs.get 0 rfl)
      exact (hs.keepB (List.nil_sublist _)).fin [0] ⟨A, out, c, 0, rfl, .inl ⟨rfl, hun⟩, hcap, rfl⟩
    · rintro e pre ⟨⟩ Fs ⟨rfl, hno⟩ rfl
      intro β w' hs
      exact ((hs.keepB (List.nil_sublist _)).nilRow ty_uint8 1).fin [0] ⟨none, [], 0, 5, rfl, .inr ⟨by decide, hno⟩, Nat.le_refl _, rfl⟩
  · have h00 : ¬ (((mkS s0).size % 2 : Nat) : Int) = 0 := h0
    intro β w' hs
    exact ((hs.keepB (List.nil_sublist _)).nilRow ty_uint8 1).fin [0] ⟨none, [], 0, 2, rfl, .inr ⟨by decide, unhexA_odd s0 (by omega)⟩, Nat.le_refl _, rfl⟩
end Go.Proofs.YtloeaiafphkjnaaGreatDoor.Sx

namespace Go.Proofs.YtloeaiafphkjnaaGreatDoor.Sx
open Go Sha
attribute [local irreducible] Calls
end Go.Proofs.YtloeaiafphkjnaaGreatDoor.Sx

namespace Go.Proofs.YtloeaiafphkjnaaGreatDoor.Sx
open Go
attribute [local irreducible] Calls
theorem Bs.holds {w : World} {A : Option Addr} {l : List UInt8} (h : Bs w A l) (c : Nat) : Lib.HoldsBytes w (.slice A l.length c) l := by
  refine ⟨A, c, rfl, fun q => ?_, fun a q i x hx => ?_⟩
  · subst q
    rcases Nat.eq_zero_or_pos l.length with h0 | h0
    · exact List.eq_nil_of_length_eq_zero h0
    · obtain ⟨ad, q, _⟩ := h.2 h0; cases q
  · have hi : i < l.length := (List.getElem?_eq_some_iff.1 hx).1
    obtain ⟨ad, q2, hc⟩ := h.2 (by omega)
    rw [q] at q2
    obtain rfl := Option.some.inj q2
    exact hc i (byte x) (by simp [hx])
structure TA where
  k : Option Addr
  t : Option Addr
  l : Option Addr
  m : Option Addr
  kc : Nat
  tc : Nat
  lc : Nat
  mc : Nat
def ints (l : List Nat) : List Value := l.map fun (n : Nat) => Value.int .i64 (n : Int)
structure TRd (t : Bx.Term) (a : TA) (w : World) : Prop where
  hk : Bs w a.k t.key
  ht : Bs w a.t t.text
  hl : Rd 1 a.l t.list.length (ints t.list) w
  hm : Bs w a.m t.mask
theorem TRd.old {t : Bx.Term} {a : TA} {W w : World} (h : TRd t a W) (ho : (oldF W).p w) : TRd t a w := ⟨Rd.old h.hk ho, Rd.old h.ht ho, Rd.old h.hl ho, Rd.old h.hm ho⟩
structure TSz (t : Bx.Term) : Prop where
  kind : t.kind < 1000
  rounds : t.rounds < 1000
  key : t.key.length ≤ 1000000
  text : t.text.length ≤ 1000000
  list : t.list.length ≤ 10000
  nums : ∀ n ∈ t.list, n < 1000000
  mask : t.mask.length ≤ 1000000
def sortN (l : List Nat) : List Nat := l.mergeSort (fun x y => decide (x ≤ y))
theorem sortN_len (l : List Nat) : (sortN l).length = l.length := by simp [sortN]
def TD_ (t : Bx.Term) (a : TA) (k : Nat) : Prop := (bsF a.k t.key).D k ∨ (bsF a.t t.text).D k ∨ (rdF 1 a.l t.list.length (ints t.list)).D k ∨ (bsF a.m t.mask).D k
theorem TRd.st {t : Bx.Term} {a : TA} {w w' : World} (hs : ∀ k, TD_ t a k → w'.heap[k]? = w.heap[k]?) (h : TRd t a w) : TRd t a w' :=
  ⟨(bsF a.k t.key).st w w' (fun k hk => hs k (.inl hk)) h.hk, (bsF a.t t.text).st w w' (fun k hk => hs k (.inr (.inl hk))) h.ht, (rdF 1 a.l t.list.length (ints t.list)).st w w' (fun k hk => hs k (.inr (.inr (.inl hk)))) h.hl, (bsF a.m t.mask).st w w' (fun k hk => hs k (.inr (.inr (.inr hk)))) h.hm⟩
structure Lay where
  A : Option Addr
  c : Nat
  m : Nat
  ts : List (Bx.Term × TA)
theorem xorB_len (a b : List UInt8) : (Bx.xorB a b).length = min a.length b.length := by simp [Bx.xorB]
def notIn (l m : List Nat) : List Nat := l.filter fun x => !decide (x ∈ m)
structure OkS (l : List Nat) (m : List UInt8) : Prop where
  len : l.length ≤ 4096
  nums : ∀ n ∈ l, n ≤ 4096
  mask : m.length = 32
def mixL (l1 l2 : List Nat) : List Nat := sortN (notIn l1 l2 ++ notIn l2 l1)
def turnT (L : List Nat) (M : List UInt8) : Bx.Term := ⟨4, [], [], 0, L, M⟩
end Go.Proofs.YtloeaiafphkjnaaGreatDoor.Sx

namespace Go.Proofs.YtloeaiafphkjnaaGreatDoor.Sx
open Go
end Go.Proofs.YtloeaiafphkjnaaGreatDoor.Sx

namespace Go.Proofs.YtloeaiafphkjnaaGreatDoor.Sx
open Go
attribute [local irreducible] Calls
def hit (t : List UInt8) (i : Nat) : Option Nat := match Bx.looks ((t.drop i).take 32) with
  | some n => if 0 < n then some n else none
  | none => none
end Go.Proofs.YtloeaiafphkjnaaGreatDoor.Sx

namespace Go.Proofs.YtloeaiafphkjnaaGreatDoor.Sx
open Go
open Go.ChangeMaps (setBlock)
variable {kk : IntKind}
section
variable {cx : Cx} {β : Va} {n : Nat} {H : List Bk} {F : List Fact} {w : World}
end
end Go.Proofs.YtloeaiafphkjnaaGreatDoor.Sx

namespace Go.Proofs.YtloeaiafphkjnaaGreatDoor.Sx
open Go
attribute [local irreducible] Calls
end Go.Proofs.YtloeaiafphkjnaaGreatDoor.Sx

namespace Go.Proofs.YtloeaiafphkjnaaGreatDoor.Sx
open Go Sha
attribute [local irreducible] Calls
end Go.Proofs.YtloeaiafphkjnaaGreatDoor.Sx

namespace Go.Proofs.YtloeaiafphkjnaaGreatDoor.Sx
open Go
end Go.Proofs.YtloeaiafphkjnaaGreatDoor.Sx

namespace Go.Proofs.YtloeaiafphkjnaaGreatDoor.Sx
open Go
attribute [local irreducible] Calls
section
variable {cx : Cx} {β : Va} {n : Nat} {env : Env} {H : List Bk} {F : List Fact} {w : World}
end
end Go.Proofs.YtloeaiafphkjnaaGreatDoor.Sx

namespace Go.Proofs.YtloeaiafphkjnaaGreatDoor.Sx
open Go
attribute [local irreducible] Calls
theorem Con.real {P : Program} {k : FuncId} {args : Array Value} {w : World} {Gs : List Fact} {R : Value → List Fact → Prop} (h : Con P k args w Gs R) : Con P k args w Gs (fun v Fs => R v Fs ∧ ∃ w', Mem w' Fs) :=
  Calls.mono h fun _ w' ⟨v, he, Fs, hR, hc, hm, ho, hD⟩ => ⟨v, he, Fs, ⟨hR, w', hm⟩, hc, hm, ho, hD⟩
end Go.Proofs.YtloeaiafphkjnaaGreatDoor.Sx

namespace Go.Proofs.YtloeaiafphkjnaaGreatDoor.Sx
open Go Sha
attribute [local irreducible] Calls
end Go.Proofs.YtloeaiafphkjnaaGreatDoor.Sx

namespace Go.Proofs.YtloeaiafphkjnaaGreatDoor.Sx
open Go
attribute [local irreducible] Calls
abbrev Part := Option Addr × List UInt8 × Nat
def partV (p : Part) : Value := .slice p.1 p.2.1.length p.2.2
def partF (P : Option Addr) (ps : List Part) : Fact where
  own := false
  D := fun k => (rdF 1 P ps.length (ps.map partV)).D k ∨ ∃ p ∈ ps, (bsF p.1 p.2.1).D k
  p := fun w => Rd 1 P ps.length (ps.map partV) w ∧ ∀ p ∈ ps, Bs w p.1 p.2.1
  st := fun w w' hs h => ⟨(rdF 1 P ps.length (ps.map partV)).st w w' (fun k hk => hs k (.inl hk)) h.1, fun p hp => (bsF p.1 p.2.1).st w w' (fun k hk => hs k (.inr ⟨p, hp, hk⟩)) (h.2 p hp)⟩
end Go.Proofs.YtloeaiafphkjnaaGreatDoor.Sx

namespace Go.Proofs.YtloeaiafphkjnaaGreatDoor.Sx
open Go
attribute [local irreducible] Calls
section
variable {cx : Cx} {β : Va} {n : Nat} {H : List Bk} {F : List Fact} {w : World}
theorem Sat.subN (h : Sat cx β n H F w) (js : List Nat) (hno : ∀ f ∈ takeIx F js, f.own = false) (g : Fact) (hgo : g.own = false) (hp : g.p w) (hD : ∀ k, g.D k → Un (takeIx F js) k) : Sat cx β n H (g :: F) w := by
  have hin : ∀ k, g.D k → ∃ (i : Nat) (f : Fact), F[i]? = some f ∧ f.own = false ∧ f.D k := fun k hk => by
    obtain ⟨f, hf, hfk⟩ := hD k hk
    obtain ⟨i, _, hi⟩ := takeIx_mem hf
    exact ⟨i, f, hi, hno f hf, hfk⟩
  refine h.old g hp (fun k hk => ?_) (fun b hb q => ?_) (fun q => by rw [hgo] at q; cases q) (fun g' hg' ho k hk hk' => ?_) (fun p hpp q => ?_)
  · obtain ⟨i, f, hi, _, hfk⟩ := hin k hk
    exact h.flt f (List.mem_of_getElem? hi) k hfk
  · obtain ⟨i, f, hi, _, hfk⟩ := hin _ q
    exact h.sepb f (List.mem_of_getElem? hi) b hb hfk
  · have ho' : g'.own = true := ho.resolve_left (by rw [hgo]; decide)
    obtain ⟨i, f, hi, hfo, hfk⟩ := hin k hk
    obtain ⟨j, hj⟩ := List.getElem?_of_mem hg'
    have hne : j ≠ i := fun q => by subst q; rw [hj] at hi; obtain rfl := Option.some.inj hi; rw [hfo] at ho'; cases ho'
    exact h.apart hj hi hne (.inl ho') k hk' hfk
  · obtain ⟨i, f, hi, _, hfk⟩ := hin _ q
    exact (h.pin p hpp).2.2 f (List.mem_of_getElem? hi) hfk
theorem Sat.part2 {P A B : Option Addr} {l m : List UInt8} {c d : Nat} (h : Sat cx β n H F w) (js : List Nat) (hj : takeIx F js = [rdF 1 P 2 [.slice A l.length c, .slice B m.length d], bsF A l, bsF B m]) : Sat cx β n H (partF P [(A, l, c), (B, m, d)] :: F) w := by
  have get : ∀ f ∈ takeIx F js, f.p w := fun f hf => by obtain ⟨i, _, hi⟩ := takeIx_mem hf; exact h.fact f (List.mem_of_getElem? hi)
  have hP : Rd 1 P 2 [.slice A l.length c, .slice B m.length d] w := get (rdF 1 P 2 [.slice A l.length c, .slice B m.length d]) (by rw [hj]; simp)
  have hA : Bs w A l := get (bsF A l) (by rw [hj]; simp)
  have hB : Bs w B m := get (bsF B m) (by rw [hj]; simp)
  refine h.subN js (fun f hf => ?_) _ rfl ⟨hP, fun p hp => ?_⟩ (fun k hk => ?_)
  · rw [hj] at hf
    simp only [List.mem_cons, List.not_mem_nil, or_false] at hf
    rcases hf with rfl | rfl | rfl <;> rfl
  · simp only [List.mem_cons, List.not_mem_nil, or_false] at hp
    rcases hp with rfl | rfl
    · exact hA
    · exact hB
  · rw [hj]
    rcases hk with hk | ⟨p, hp, hk⟩
    · exact ⟨_, List.mem_cons_self, hk⟩
    · simp only [List.mem_cons, List.not_mem_nil, or_false] at hp
      rcases hp with rfl | rfl
      · exact ⟨bsF A l, by simp, hk⟩
      · exact ⟨bsF B m, by simp, hk⟩
end
end Go.Proofs.YtloeaiafphkjnaaGreatDoor.Sx

namespace Go.Proofs.YtloeaiafphkjnaaGreatDoor.Sx
open Go
attribute [local irreducible] Calls
def symL (l1 l2 : List Nat) (k : Nat) : List Nat := (List.range' 1 k).filter fun n => decide (n ∈ l1) != decide (n ∈ l2)
theorem symL_len (l1 l2 : List Nat) (k : Nat) : (symL l1 l2 k).length ≤ k := by
  have h := List.length_filter_le (fun n => decide (n ∈ l1) != decide (n ∈ l2)) (List.range' 1 k)
  rw [List.length_range'] at h
  exact h
theorem symL_mix {l1 l2 : List Nat} {N : Nat} (d1 : l1.Nodup) (d2 : l2.Nodup) (h1 : ∀ n ∈ l1, 1 ≤ n ∧ n ≤ N) (h2 : ∀ n ∈ l2, 1 ≤ n ∧ n ≤ N) : symL l1 l2 N = mixL l1 l2 := by
  have hp : (symL l1 l2 N).Perm (notIn l1 l2 ++ notIn l2 l1) := by
    refine (List.perm_ext_iff_of_nodup ?_ ?_).2 (fun n => ?_)
    · exact List.Nodup.sublist List.filter_sublist (List.nodup_range' 1)
    · refine List.nodup_append.2 ⟨List.Nodup.sublist List.filter_sublist d1, List.Nodup.sublist List.filter_sublist d2, ?_⟩
      intro x hx y hy q
      subst q
      have a := (List.mem_filter.1 hx).2
      have b := (List.mem_filter.1 hy).1
      simp [b] at a
    · simp only [symL, notIn, List.mem_filter, List.mem_append, List.mem_range'_1]
      have k1 := h1 n
      have k2 := h2 n
      by_cases a : n ∈ l1 <;> by_cases b : n ∈ l2 <;> simp [a, b]
      · have := k1 a; omega
      · have := k2 b; omega
  have hs : (mixL l1 l2).Perm (notIn l1 l2 ++ notIn l2 l1) := List.mergeSort_perm _ _
  refine List.Perm.eq_of_pairwise (le := fun a b => a ≤ b) (fun a b _ _ p q => Nat.le_antisymm p q) ?_ ?_ (hp.trans hs.symm)
  · exact ((List.pairwise_lt_range' 1).sublist List.filter_sublist).imp (fun h => Nat.le_of_lt h)
  · have h := List.pairwise_mergeSort (le := fun x y : Nat => decide (x ≤ y)) (by simp only [decide_eq_true_eq]; omega) (by simp only [Bool.or_eq_true, decide_eq_true_eq]; omega) (notIn l1 l2 ++ notIn l2 l1)
    exact h.imp (fun h => of_decide_eq_true h)
theorem Con.grow {P : Program} {k : FuncId} {args : Array Value} {w : World} {Gs Gs' : List Fact} {R : Value → List Fact → Prop} (hsub : ∀ k, Un Gs k → Un Gs' k) (h : Con P k args w Gs R) : Con P k args w Gs' R :=
  Calls.mono h fun _ _ ⟨v, he, Fs, hR, hc, hm, ho, hD⟩ => ⟨v, he, Fs, hR, hc.mono (fun i _ => hsub i), hm, ho, fun f hf k hk => (hD f hf k hk).imp_left (hsub k)⟩
def OkN (B : Bx.Box) (l : List Nat) (m : List UInt8) : Prop := OkS l m ∧ l.Nodup ∧ ∀ n ∈ l, 1 ≤ n ∧ n ≤ B.L.length
structure Nf (B : Bx.Box) (l : List Nat) (m : List UInt8) : Prop where
  mask : m.length = 32
  sorted : l.Pairwise (· < ·)
  nums : ∀ n ∈ l, 1 ≤ n ∧ n ≤ B.L.length
  base : ∀ n ∈ l, ∀ u, B.L[n - 1]? = some u → u.kind ≠ 4
structure K4 (B : Bx.Box) (t : Bx.Term) : Prop where
  nf : Nf B t.list t.mask
  form : t = turnT t.list t.mask
  one : ¬ (t.list.length = 1 ∧ t.mask = Bx.noughts)
  raw : ¬ (t.list = [] ∧ ¬ t.mask.take 28 = Bx.front)
structure BInv (B : Bx.Box) : Prop where
  sz : ∀ t ∈ B.L, TSz t
  nodup : B.L.Nodup
  k4 : ∀ t ∈ B.L, t.kind = 4 → K4 B t
  plain : B.sym = false → B.L = []
  len : B.L.length ≤ 4096
structure Ext (B B' : Bx.Box) : Prop where
  sym : B'.sym = B.sym
  full : B'.full = B.full
  len : B'.L.length ≤ B.L.length + 1
  inv : BInv B'
  mono : ∀ h r, B.opens h = some r → B'.opens h = some r
theorem Ext.refl {B : Bx.Box} (h : BInv B) : Ext B B := ⟨rfl, rfl, Nat.le_succ _, h, fun _ _ h => h⟩
theorem Nf.grow {B : Bx.Box} {l : List Nat} {m : List UInt8} (t : Bx.Term) (h : Nf B l m) : Nf { B with L := B.L ++ [t] } l m := by
  refine ⟨h.mask, h.sorted, fun n hn => ?_, fun n hn u hu => ?_⟩
  · have := h.nums n hn
    simp only [List.length_append, List.length_cons, List.length_nil]
    omega
  · have := h.nums n hn
    refine h.base n hn u ?_
    simp only at hu
    rw [List.getElem?_append_left (by omega)] at hu
    exact hu
theorem Nf.ok {B : Bx.Box} {l : List Nat} {m : List UInt8} (hi : BInv B) (h : Nf B l m) : OkN B l m := by
  have hnd : l.Nodup := h.sorted.imp (fun q => Nat.ne_of_lt q)
  refine ⟨⟨?_, fun n hn => ?_, h.mask⟩, hnd, h.nums⟩
  · have e := symL_mix (l2 := []) hnd List.nodup_nil h.nums (fun n hn => (by cases hn))
    have e2 : (mixL l []).length = l.length := by
      rw [mixL, sortN_len]
      have e3 : notIn l [] = l := List.filter_eq_self.2 (fun a _ => by simp)
      rw [e3]
      simp [notIn]
    have := symL_len l [] B.L.length
    rw [e, e2] at this
    have := hi.len
    omega
  · have := h.nums n hn
    have := hi.len
    omega
theorem K4.grow {B : Bx.Box} {t : Bx.Term} (u : Bx.Term) (h : K4 B t) : K4 { B with L := B.L ++ [u] } t := ⟨h.nf.grow u, h.form, h.one, h.raw⟩
theorem mem_mix {l1 l2 : List Nat} {n : Nat} (h : n ∈ mixL l1 l2) : n ∈ l1 ∨ n ∈ l2 := by
  have h3 : n ∈ notIn l1 l2 ++ notIn l2 l1 := (List.mergeSort_perm _ _).mem_iff.1 h
  rcases List.mem_append.1 h3 with q | q
  · exact .inl (List.mem_filter.1 q).1
  · exact .inr (List.mem_filter.1 q).1
theorem Nf.mix {B : Bx.Box} {l1 l2 : List Nat} {m1 m2 : List UInt8} (h1 : Nf B l1 m1) (h2 : Nf B l2 m2) : Nf B (mixL l1 l2) (Bx.xorB m1 m2) := by
  have d1 : l1.Nodup := h1.sorted.imp (fun q => Nat.ne_of_lt q)
  have d2 : l2.Nodup := h2.sorted.imp (fun q => Nat.ne_of_lt q)
  refine ⟨by rw [xorB_len, h1.mask, h2.mask]; exact Nat.min_self _, ?_, fun n hn => ?_, fun n hn => ?_⟩
  · rw [← symL_mix d1 d2 h1.nums h2.nums]
    exact (List.pairwise_lt_range' 1).sublist List.filter_sublist
  · rcases mem_mix hn with q | q
    · exact h1.nums n q
    · exact h2.nums n q
  · rcases mem_mix hn with q | q
    · exact h1.base n q
    · exact h2.base n q
def mlF : Fact where
  own := false
  D := fun k => k = 3
  p := fun w => ∃ m : Int, w.cell? ⟨3, 0, none⟩ = some (.int .i64 m)
  st := fun w w' hs ⟨m, h⟩ => ⟨m, by rw [← h]; exact World.cell?_of_block (hs _ rfl)⟩
theorem cutD_c (w : World) (s : List UInt8) (d : UInt8) (hs : s.length ≤ 1000000) (hm : mlF.p w) : Pu Tryz.prog n_strings_Cut #[.string (mkS s), .string (mkS [d])] w (.tuple #[.string (mkS (hdA d s)), .string (mkS (hdB d s)), .bool (decide (d ∈ s))]) := by
  obtain ⟨m, hm⟩ := hm
  have hsz : (mkS s).size < 4294967281 := by show s.length < _; omega
  refine pu_of (Calls.mono (Tryz.strings_Cut (mkS s) (mkS [d]) m w hsz hm) ?_)
  rintro e w' ⟨rfl, q, rfl⟩
  refine ⟨_, rfl, ?_, ⟨rfl, rfl, rfl, Nat.le_refl _, fun _ _ _ => rfl⟩⟩
  rw [mkSo, mkSo, cut_one]
  rfl
theorem hdB_len {d : UInt8} : ∀ {s : List UInt8}, s ≠ [] → (hdB d s).length < s.length
  | [], h => absurd rfl h
  | c :: r, _ => by
    rw [hdB_cons]
    split
    · simp
    · cases r with
      | nil => simp [hdB]
      | cons a t =>
        have := hdB_len (d := d) (s := a :: t) (by simp)
        simp only [List.length_cons] at this ⊢
        omega
def insLn (L : List (List UInt8)) (pre : List (List UInt8)) (x : List UInt8) (args : Array Value) (X : Fact) : Prop := args = #[.int .i64 ((pre.length + 1 : Nat) : Int), .string (mkS x)] ∧ X = noF ∧ L[pre.length]? = some x
def lnEnd (L : List (List UInt8)) (J Jx : List (List UInt8) → Fact → Prop) (Fs : List Fact) : Prop :=
  ∃ f Fs', Fs = f :: Fs' ∧ ((∃ xs, J xs f ∧ xs = L ∧ Fs' = []) ∨ (∃ pre, Jx pre f ∧ Fs' = []))
theorem lines_it (l : Nat) (w : World) (bx : Nat) (s : List UInt8) (hs : s.length ≤ 1000000) (f0 R : Fact) (J Jx : List (List UInt8) → Fact → Prop) (hJ0 : J [] f0) (hJo : ∀ pre f, J pre f → f.own = true) (hRo : R.own = false) (hY : Yc Tryz.prog l J Jx R (insLn (lnL s)))
    (hm : Mem w (f0 :: R :: [bkF bx ty_string [.string (mkS s)], mlF])) :
    Con Tryz.prog n_roll_Lines_1 #[.func (.yield l) #[] #[], .pointer (some ⟨bx, 0, none⟩)] w [f0, bkF bx ty_string [.string (mkS s)]] (fun _ Fs => lnEnd (lnL s) J Jx Fs) := by
  have g := good_roll_Lines_1 w (Un [f0, bkF bx ty_string [.string (mkS s)]]) [bx]
  have hs0 : Sat (cx_roll_Lines_1 w (Un [f0, bkF bx ty_string [.string (mkS s)]]) [bx]) (Va.of fun _ => bx) 1 [] (f0 :: R :: [bkF bx ty_string [.string (mkS s)], mlF]) w := by
    refine hm.sat rfl (fun f hf ho k hk => ?_) ⟨Nat.le_refl 1, fun i hi => by obtain rfl : i = 0 := Nat.lt_one_iff.1 hi; rfl⟩
    simp only [List.mem_cons, List.not_mem_nil, or_false] at hf
    rcases hf with rfl | rfl | rfl | rfl
    · exact ⟨_, by simp, hk⟩
    · rw [hRo] at ho; cases ho
    · exact ⟨bkF bx ty_string [.string (mkS s)], by simp, hk⟩
    · cases ho
  have hs1 := hs0.toBk 2 rfl 0 Nat.zero_lt_one rfl
  refine con_of_sx (cx := cx_roll_Lines_1 w (Un [f0, bkF bx ty_string [.string (mkS s)]]) [bx]) g b_roll_Lines_1 rfl rfl (β := Va.of fun _ => bx) [.c (.v (.func (.yield l) #[] #[])), .c (.p 0 0)] 1 _ _ rfl rfl hs1 ?_
  refine loop_rule (ι := List (List UInt8) × Fact × List UInt8) 1 (fun i => [(0, .c (.v (.func (.yield l) #[] #[]))), (1, .c (.p 0 0)), (3, .c (.v (.int .i64 ((i.1.length + 1 : Nat) : Int))))]) (fun i => [⟨0, ty_string, [.v (.string (mkS i.2.2))]⟩]) (fun i => [i.2.1, R, mlF])
    (fun i => J i.1 i.2.1 ∧ lnL s = i.1 ++ lnL i.2.2 ∧ i.1.length + i.2.2.length ≤ s.length) (fun i => i.2.2.length) ([], f0, s) ⟨hJ0, rfl, by simp⟩ (Ent.mk' ⟨rfl, rfl, rfl, trivial⟩ rfl (fun β w' hs => hs)) g ?_
  rintro ⟨pre, f, t⟩ ⟨hJ, hpre, hi⟩
  simp only at hJ hpre hi
  have hfo := hJo _ _ hJ
  simp only
  refine BIf.not (BIf.dec (fun h0 => ?_) (fun h0 => ?_))
  · obtain rfl : t = [] := mkS1 h0
    intro β w' hs
    exact (hs.keepB (List.nil_sublist _)).fin [0] ⟨f, [], rfl, .inl ⟨pre, hJ, by rw [hpre, lnL_nil, List.append_nil], rfl⟩⟩ rfl rfl rfl ⟨hfo, trivial⟩
  have ht : t ≠ [] := fun e => h0 (by rw [e]; rfl)
  have hst := lnL_step ht
  have hlt := hdB_len (d := 10) ht
  refine call_pu (v := .tuple #[.string (mkS (hdA 10 t)), .string (mkS (hdB 10 t)), .bool (decide ((10 : UInt8) ∈ t))]) (fun β w' hs' => cutD_c w' t 10 (by omega) (hs'.get 2 rfl)) ?_
  have hx : (lnL s)[pre.length]? = some (hdA 10 t) := by rw [hpre, hst]; simp
  refine yield_ro (X := noF) (x := hdA 10 t) hY 0 1 rfl hJ hfo rfl hRo (by decide) (fun β => ⟨rfl, rfl, hx⟩) rfl (fun β w _ => ⟨trivial, fun k hk => hk.elim, fun k _ h => h.elim⟩) ?_ ?_
  · intro f2 hfo2 hJ2
    refine ⟨(((pre.length + 1 + 1) : Nat) : Int), by rw [wrap_i64 (by omega) (by omega)]; rfl, ?_⟩
    have e : (pre ++ [hdA 10 t]).length = pre.length + 1 := by rw [List.length_append]; rfl
    refine ⟨(pre ++ [hdA 10 t], f2, hdB 10 t), ⟨hJ2, by show lnL s = (pre ++ [hdA 10 t]) ++ lnL (hdB 10 t); rw [hpre, hst, List.append_assoc]; rfl, by show (pre ++ [hdA 10 t]).length + (hdB 10 t).length ≤ _; omega⟩, hlt, ?_⟩
    simp only [e]
    exact Ent.mk' ⟨rfl, rfl, rfl, trivial⟩ rfl (fun β w' hs => hs)
  · intro f2 hfo2 hJ2
    intro β w' hs
    exact (hs.keepB (List.nil_sublist _)).fin [0] ⟨f2, _, rfl, .inr ⟨_, hJ2, rfl⟩⟩ rfl rfl rfl ⟨hfo2, trivial⟩
theorem rollLines_c (w : World) (t : ByteArray) : Con Tryz.prog n_roll_Lines #[.string t] w [] (fun v Fs => ∃ bx, v = .func (.func n_roll_Lines_1) #[] #[.pointer (some ⟨bx, 0, none⟩)] ∧ Fs = [bkF bx ty_string [.string t]]) := by
  refine con_of_sx (cx := cx_roll_Lines w (Un [])) (good_roll_Lines w (Un [])) b_roll_Lines rfl rfl (β := Va.z) [.c (.v (.string t))] 0 [] [] rfl rfl (Sat.start rfl) ?_
  intro β w' hs
  exact hs.ofBk.fin [0] ⟨β 0, rfl, rfl⟩
theorem freeze_shape (w : World) (a : Addr) (k r : Nat) : (w.freeze a k).shape? r = w.shape? r := by
  unfold World.freeze
  split
  · rfl
  · unfold World.shape?
    simp only [Array.getElem?_modify]
    by_cases h : a.block = r
    · rw [if_pos h]
      cases hw : w.heap[r]? with
      | none => rfl
      | some o => cases o <;> simp
    · rw [if_neg h]
def fzP (g : Nat) (l : List UInt8) (w : World) : Prop := (∃ cells, w.shape? g = some (ty_uint8, cells) ∧ l.length ≤ cells) ∧ ∀ j x, l[j]? = some x → w.cell? ((⟨g, 0, none⟩ : Addr).add j) = some (.int .u8 x.toNat)
def fzF (g : Nat) (l : List UInt8) : Fact where
  own := true
  D := fun k => k = g
  p := fzP g l
  st := fun w w' hs h => by
    have e : w'.heap[g]? = w.heap[g]? := hs g rfl
    obtain ⟨⟨cs, h1, h2⟩, h3⟩ := h
    refine ⟨⟨cs, by unfold World.shape?; rw [e]; exact h1, h2⟩, fun j x hj => ?_⟩
    rw [← h3 j x hj]
    unfold World.cell?
    rw [show ((⟨g, 0, none⟩ : Addr).add j).block = g from by unfold Addr.add; split <;> rfl, e]
theorem brow_fz {A : Option Addr} {l : List UInt8} {c : Nat} {w : World} (hne : l ≠ []) (h : (browF ty_uint8 A l c).p w) : ∃ g, A = some ⟨g, 0, none⟩ ∧ l.length ≤ c ∧ c ≤ maxLen ∧ fzP g l w ∧ ∀ k, (browF ty_uint8 A l c).D k ↔ k = g := by
  have hl0 : l.length ≠ 0 := by simpa using hne
  have hrow : w.ownsRow 0 ty_uint8 1 (.slice A l.length c) l.length (l.map byte) := h
  have hr := row_rd hrow
  rcases hrow.2 with ⟨_, hz⟩ | ⟨gb, cap, cur, hv, _, hg, h1, h2, h3, _⟩
  · exact absurd hz hl0
  · injection hv with h4 h5 h6
    subst h4 h6
    obtain ⟨ad, q, hc⟩ := hr.2 (by omega)
    obtain rfl := Option.some.inj q
    refine ⟨gb, rfl, h1, h2, ⟨⟨cur.size, by simp [World.shape?, hg], by omega⟩, fun j x hx => hc j (byte x) (by simp [hx])⟩, fun k => ?_⟩
    show (some gb = some k) ↔ k = gb
    exact ⟨fun q => (Option.some.inj q).symm, fun q => by rw [q]⟩
theorem textX_c (w : World) (b g : Nat) (p : Value) (l : List UInt8) (c : Nat) (X : Fact) (hX : X.own = true) (hD : ∀ k, X.D k ↔ k = g) (hp : ∀ w, X.p w → fzP g l w) (hne : l ≠ []) (hlc : l.length ≤ c) (hcm : c ≤ maxLen) (hm : Mem w [bkF b ty_strings_Builder [p, .slice (some ⟨g, 0, none⟩) l.length c], X]) :
    Con Tryz.prog n_strings_Builder_String #[selfV b] w [bkF b ty_strings_Builder [p, .slice (some ⟨g, 0, none⟩) l.length c], X] fun v Fs => v = .string ⟨l.toArray⟩ ∧ Fs = [bkF b ty_strings_Builder [p, .slice (some ⟨g, 0, none⟩) l.length c], fzF g l] := by
  have gd := good_strings_Builder_String w (Un [bkF b ty_strings_Builder [p, .slice (some ⟨g, 0, none⟩) l.length c], X])
  have hl0 : l.length ≠ 0 := by simpa using hne
  refine con_of_sx (cx := cx_strings_Builder_String w (Un [bkF b ty_strings_Builder [p, .slice (some ⟨g, 0, none⟩) l.length c], X])) gd b_strings_Builder_String rfl rfl (β := Va.z) [.c (.v (selfV b))] 0 [] _ rfl rfl (hm.sat0 rfl (fun f hf _ k hk => ⟨f, hf, hk⟩)) ?_
  refine draw_rule gd p_strings_Builder_String_1 (by kernel_rfl) [] [bkF b ty_strings_Builder [p, .slice (some ⟨g, 0, none⟩) l.length c]] (Sub.of (List.nil_sublist _) (List.sublist_append_left [_] [_])) ?_
  have hcell : ∀ (cx : Cx) (n : Nat) (β : Va) (w' : World), Sat cx β n [] [bkF b ty_strings_Builder [p, .slice (some ⟨g, 0, none⟩) l.length c]] w' → w'.cell? ⟨b, 1, none⟩ = some (.slice (some ⟨g, 0, none⟩) l.length c) := fun cx n β w' hs => by
    have hb : w'.heap[b]? = some (.cells #[p, .slice (some ⟨g, 0, none⟩) l.length c] ty_strings_Builder (0, 0)) := hs.get 0 rfl
    rw [cell_of_row w' b 1 _ _ _ hb]; rfl
  refine ⟨.slice (some ⟨g, 0, none⟩) l.length c, hcell _ _, ?_⟩
  refine ⟨.slice (some ⟨g, 0, none⟩) l.length c, hcell _ _, ?_⟩
  refine ⟨[], _, .c (.v (.pointer (some ⟨g, 0, none⟩))), fun β w' ty hs => ⟨w', ?_, hs⟩, trivial, Sub.of (List.nil_sublist _) (List.sublist_append_left [_] [_]), ?_⟩
  · have := Lib.run_unsafeSliceData_row (P := Tryz.prog) w' #[ty_sl_uint8] ty ⟨g, 0, none⟩ l.length c (by omega)
    simp only [builtin, Sem.run_bind]
    erw [this]
    rfl
  refine ⟨[], [bkF b ty_strings_Builder [p, .slice (some ⟨g, 0, none⟩) l.length c], fzF g l], .c (.v (.string ⟨l.toArray⟩)), fun β w' ty hs => ⟨w'.freeze ⟨g, 0, none⟩ l.length, ?_, ?_⟩, trivial, Sub.of (List.nil_sublist _) (List.sublist_append_left [_] [_]), ?_⟩
  · obtain ⟨⟨cs, hsh, hle⟩, hcs⟩ := hp w' (hs.get 1 rfl)
    have := Lib.run_unsafeString_row (P := Tryz.prog) w' ty_ptr_uint8 3 ty ty_uint8 ptr_byte cellsU8 g cs hsh l hne hle (by rw [maxLen_eq] at hcm; omega) hcs
    simp only [builtin, Sem.run_bind]
    erw [this]
    rfl
  · have hq := hp w' (hs.get 1 rfl)
    have hlt := hs.flt X (List.mem_of_getElem? (i := 1) rfl) g ((hD g).2 rfl)
    refine (hs.swap [1] ⟨hX, trivial⟩ (Fs := [fzF g l]) (Chg.mono (freeze_chg _ _ _) (fun i _ q => ⟨_, List.mem_singleton.2 rfl, ?_⟩)) ⟨fun f hf => ?_, fun f hf k hk => ?_, List.pairwise_singleton _ _⟩ (fun f hf => ?_)).perm [1, 0]
    · obtain rfl : i = g := q
      exact (hD _).2 rfl
    · obtain rfl := List.mem_singleton.1 hf
      obtain ⟨⟨cs, h1, h2⟩, h3⟩ := hq
      exact ⟨⟨cs, by rw [freeze_shape]; exact h1, h2⟩, fun j x hj => by rw [freeze_cell]; exact h3 j x hj⟩
    · obtain rfl := List.mem_singleton.1 hf
      obtain rfl : k = g := hk
      exact Nat.lt_of_lt_of_le hlt (freeze_chg _ _ _).size
    · obtain rfl := List.mem_singleton.1 hf
      rintro k rfl
      exact .inl ⟨X, List.mem_singleton.2 rfl, (hD _).2 rfl⟩
  intro β w' hs
  exact hs.fin [0, 1] ⟨rfl, rfl⟩
theorem text1_c (w : World) (b : Nat) (p : Value) (A : Option Addr) (l : List UInt8) (c : Nat) (hne : l ≠ []) (hm : Mem w (bldF b p A l c)) :
    Con Tryz.prog n_strings_Builder_String #[selfV b] w (bldF b p A l c) fun v Fs => v = .string ⟨l.toArray⟩ ∧ ∃ g, A = some ⟨g, 0, none⟩ ∧ l.length ≤ c ∧ c ≤ maxLen ∧ Fs = [bkF b ty_strings_Builder [p, .slice (some ⟨g, 0, none⟩) l.length c], fzF g l] := by
  obtain ⟨g, rfl, h1, h2, _, hD⟩ := brow_fz hne (hm.fact (browF ty_uint8 A l c) (List.mem_cons_of_mem _ List.mem_cons_self))
  refine (textX_c w b g p l c _ rfl hD (fun w q => ?_) hne h1 h2 hm).mono fun v Fs h => ⟨h.1, g, rfl, h1, h2, h.2⟩
  obtain ⟨g', q1, _, _, q2, _⟩ := brow_fz hne q
  obtain rfl : g = g' := by injection q1 with q; injection q
  exact q2
theorem text2_c (w : World) (b g : Nat) (p : Value) (l : List UInt8) (c : Nat) (hne : l ≠ []) (hlc : l.length ≤ c) (hcm : c ≤ maxLen) (hm : Mem w [bkF b ty_strings_Builder [p, .slice (some ⟨g, 0, none⟩) l.length c], fzF g l]) :
    Con Tryz.prog n_strings_Builder_String #[selfV b] w [bkF b ty_strings_Builder [p, .slice (some ⟨g, 0, none⟩) l.length c], fzF g l] fun v Fs => v = .string ⟨l.toArray⟩ ∧ Fs = [bkF b ty_strings_Builder [p, .slice (some ⟨g, 0, none⟩) l.length c], fzF g l] :=
  textX_c w b g p l c _ rfl (fun _ => Iff.rfl) (fun _ q => q) hne hlc hcm hm
theorem writeStr_c (w : World) (b : Nat) (p : Value) (A : Option Addr) (l : List UInt8) (c : Nat) (x : List UInt8) (hp : p = .pointer none ∨ p = selfV b) (hl : l.length ≤ 100000000) (hx : x.length ≤ 100000000) (hm : Mem w (bldF b p A l c)) :
    Con Tryz.prog n_strings_Builder_WriteString #[selfV b, .string (mkS x)] w (bldF b p A l c) fun v Fs => v = .tuple #[.int .i64 (x.length : Int), .nilIface] ∧ ∃ A' c', Fs = bldF b (selfV b) A' (l ++ x) c' := by
  have g := good_strings_Builder_WriteString w (Un (bldF b p A l c))
  refine con_of_sx (cx := cx_strings_Builder_WriteString w (Un (bldF b p A l c))) g b_strings_Builder_WriteString rfl rfl (β := Va.z) [.c (.v (selfV b)), .c (.v (.string (mkS x)))] 0 [] _ rfl rfl (hm.sat0 rfl (fun f hf _ k hk => ⟨f, hf, hk⟩)) ?_
  refine call_con [0] (fun β w' hs => copyCheck_c w' b p _ hp (hs.get 0 rfl)) ?_
  rintro v Fs ⟨rfl, rfl⟩
  refine ⟨.slice A l.length c, fun β w' hs => by
    have hb : w'.heap[b]? = some (.cells #[selfV b, .slice A l.length c] ty_strings_Builder (0, 0)) := hs.get 0 rfl
    show w'.cell? ⟨b, 1, none⟩ = _
    rw [cell_of_row w' b 1 _ _ _ hb]; rfl, ?_⟩
  refine ⟨1, l.length, x.length, l.length + x.length, l.map byte, x.map byte, (l ++ x).map byte, rfl, ⟨rfl, rfl, by rw [mkSo]⟩, rfl, by simp, by rw [maxLen_eq]; omega, by show (l.length + x.length) * 1 ≤ _; omega, ?_⟩
  intro A' c' h1 h2 h3
  refine ⟨_, fun β w' hs => hs.bkSet 0 (o := 1) (us := [.slice A' (l.length + x.length) c']) rfl (Nat.le_refl 2) (fun u hu => by obtain rfl := List.mem_singleton.1 hu; rfl), ?_⟩
  intro β w' hs
  have e : (l ++ x).length = l.length + x.length := by simp
  refine hs.fin [0, 1] ⟨rfl, A', c', ?_⟩
  show [bkF b ty_strings_Builder [selfV b, .slice A' (l.length + x.length) c'], rowF ty_uint8 1 (.slice A' (l.length + x.length) c') (l.length + x.length) ((l ++ x).map byte)] = _
  rw [← e]
  rfl
def at0 (l : List Int) (q : Nat) : Int := l.getD q 0
def sw (l : List Int) (j : Nat) : List Int := (l.set j (at0 l (j - 1))).set (j - 1) (at0 l j)
theorem sw_get {l : List Int} {j : Nat} (h1 : 1 ≤ j) (h2 : j < l.length) (q : Nat) : at0 (sw l j) q = if q = j - 1 then at0 l j else if q = j then at0 l (j - 1) else at0 l q := by
  unfold sw at0
  simp only [List.getD_eq_getElem?_getD, List.getElem?_set, List.length_set]
  by_cases a : j - 1 = q
  · have a' : q = j - 1 := a.symm
    rw [if_pos a, if_pos (by omega), if_pos a']
    rfl
  · have a' : ¬ q = j - 1 := fun e => a e.symm
    rw [if_neg a, if_neg a']
    by_cases b : j = q
    · have b' : q = j := b.symm
      rw [if_pos b, if_pos h2, if_pos b']
      rfl
    · have b' : ¬ q = j := fun e => b e.symm
      rw [if_neg b, if_neg b']
def But (l : List Int) (i j : Nat) : Prop := ∀ p q, p < q → q ≤ i → q ≠ j → at0 l p ≤ at0 l q
def Upto (l : List Int) (i : Nat) : Prop := ∀ p q, p < q → q < i → at0 l p ≤ at0 l q
theorem But.start {l : List Int} {i : Nat} (h : Upto l i) : But l i i := fun p q h1 h2 h3 => h p q h1 (by omega)
theorem But.swap {l : List Int} {i j : Nat} (h : But l i j) (h1 : 1 ≤ j) (h2 : j ≤ i) (h3 : i < l.length) (hlt : at0 l j < at0 l (j - 1)) : But (sw l j) i (j - 1) := by
  intro p q hpq hq hne
  rw [sw_get h1 (by omega), sw_get h1 (by omega), if_neg hne]
  by_cases b : q = j
  · subst b
    rw [if_pos rfl]
    by_cases a : p = q - 1
    · rw [if_pos a]
      omega
    · rw [if_neg a, if_neg (by omega)]
      exact h p (q - 1) (by omega) (by omega) (by omega)
  · rw [if_neg b]
    by_cases a : p = j - 1
    · rw [if_pos a]
      exact h j q (by omega) hq b
    · rw [if_neg a]
      by_cases c : p = j
      · rw [if_pos c]
        exact h (j - 1) q (by omega) hq b
      · rw [if_neg c]
        exact h p q hpq hq b
theorem But.done {l : List Int} {i j : Nat} (h : But l i j) (h2 : j ≤ i) (hj : 1 ≤ j → ¬ at0 l j < at0 l (j - 1)) : Upto l (i + 1) := by
  intro p q hpq hq
  by_cases b : q = j
  · subst b
    have h3 := hj (by omega)
    by_cases a : p = q - 1
    · subst a
      omega
    · have := h p (q - 1) (by omega) (by omega) (by omega)
      omega
  · exact h p q hpq (by omega) b
def decimS (u : Nat) : ByteArray := ⟨(Lib.decDigits u).toArray⟩
theorem smallU_c (w : World) (u : Nat) (hu : u < 100) : Pu Tryz.prog n_internal_strconv_small #[.int .i64 (u : Int)] w (.string (decimS u)) := by
  refine pu_of (Calls.mono (Tryz.internal_strconv_small u hu w) ?_)
  rintro e w' ⟨rfl, rfl⟩
  exact ⟨_, rfl, rfl, Chg.refl _ _⟩
theorem fmtI_c (w : World) (u : Nat) (hu : u < 100) : Pu Tryz.prog n_internal_strconv_FormatUint #[.int .u64 (u : Int), .int .i64 10] w (.string (decimS u)) := by
  obtain ⟨x, hx⟩ : ∃ x : Int, (u : Int) = x := ⟨_, rfl⟩
  rw [hx]
  refine con_of_sx (cx := cx_internal_strconv_FormatUint w (Un [])) (good_internal_strconv_FormatUint w (Un [])) b_internal_strconv_FormatUint rfl rfl (β := Va.z) [.c (.v (.int .u64 x)), .c (.v (.int .i64 10))] 0 [] [] rfl rfl (Sat.start rfl) ?_
  refine BIf.dec (fun _ => ?_) (fun h => absurd (show x < 100 by omega) h)
  refine ⟨x, by rw [wrap_i64 (by omega) (by omega)], ?_⟩
  refine call_pu (fun β w' hs => by rw [← hx]; exact smallU_c w' u hu) ?_
  intro β w' hs
  exact hs.fin [] ⟨rfl, rfl⟩
theorem fmtU_c (w : World) (u : Nat) (hu : u < 100) : Pu Tryz.prog n_strconv_FormatUint #[.int .u64 (u : Int), .int .i64 10] w (.string (decimS u)) := by
  refine con_of_sx (cx := cx_strconv_FormatUint w (Un [])) (good_strconv_FormatUint w (Un [])) b_strconv_FormatUint rfl rfl (β := Va.z) [.c (.v (.int .u64 (u : Int))), .c (.v (.int .i64 10))] 0 [] [] rfl rfl (Sat.start rfl) ?_
  refine call_pu (fun β w' hs => fmtI_c w' u hu) ?_
  intro β w' hs
  exact hs.fin [] ⟨rfl, rfl⟩
def sumL (b : List UInt8) : List UInt8 := [115, 117, 109, 32] ++ hexB (Sha.sum b) ++ [10]
theorem sumL_len (b : List UInt8) : (sumL b).length = 69 := by
  simp [sumL, hexB_len]
  rfl
theorem rollSum_c (w : World) (s : List UInt8) (hs : s.length ≤ 1000000) (h1 : (oddF 2).p w) (h0 : (firstF 0).p w) : Pu Tryz.prog n_roll_sum #[.string (mkS s)] w (.string (mkS (sumL s))) := by
  have g := good_roll_sum w (Un [])
  have hml := maxLen_eq
  refine con_of_sx (cx := cx_roll_sum w (Un [])) g b_roll_sum rfl rfl (β := Va.z) [.c (.v (.string (mkS s)))] 0 [] [oldF w] rfl rfl (old_sat rfl) ?_
  intro b c hc1 hc2 b2
  refine call_con [] (fun β w' hs' => by
    have e := sum1_c w' (some ⟨b2, 0, none⟩) (some ⟨b, 0, none⟩) 1 c s (row_rd (hs'.get 0 rfl)) (by have q := hs'.get 1 rfl; simp only [mkSo] at q; exact q) (by omega) (Rd.old h1 (hs'.get 2 rfl)) (Rd.old h0 (hs'.get 2 rfl))
    exact e) ?_
  rintro v Fs ⟨A3, c3, rfl, h3, h4, rfl⟩
  refine call_pu (v := .string ⟨(hexB (Sha.sum s)).toArray⟩) (fun β w' hs' => by
    have e := hex_c w' A3 (Sha.sum s) c3 (row_rd (hs'.get 0 rfl)) (fun q => by have := congrArg List.length q; exact absurd (show (32 : Nat) = 0 from this) (by decide)) (by show 32 ≤ _; omega)
    exact e) ?_
  have hx : (hexB (Sha.sum s)).length = 64 := by rw [hexB_len]; rfl
  refine ⟨by show 4 + (hexB (Sha.sum s)).length ≤ maxLen; omega, ?_⟩
  refine ⟨by show (mkS [115, 117, 109, 32] ++ mkS (hexB (Sha.sum s))).size + 1 ≤ maxLen; rw [mkS_app]; show ([115, 117, 109, 32] ++ hexB (Sha.sum s)).length + 1 ≤ _; rw [List.length_append, hx]; show 4 + 64 + 1 ≤ _; omega, ?_⟩
  intro β w' hs'
  refine (hs'.keepB (List.nil_sublist _)).fin [] ⟨?_, rfl⟩
  show Value.string (mkS [115, 117, 109, 32] ++ mkS (hexB (Sha.sum s)) ++ mkS [10]) = _
  rw [mkS_app, mkS_app]
  rfl
theorem rSealed_c (w : World) (s : List UInt8) (hs : s.length ≤ 1000000) (h1 : (oddF 1).p w) : Pu Tryz.prog n_ostiaryref15_Sealed #[.string (mkS s)] w (.string (mkS (s ++ sumL s))) := by
  have g := good_ostiaryref15_Sealed w (Un [])
  have hml := maxLen_eq
  refine con_of_sx (cx := cx_ostiaryref15_Sealed w (Un [])) g b_ostiaryref15_Sealed rfl rfl (β := Va.z) [.c (.v (.string (mkS s)))] 0 [] [oldF w] rfl rfl (old_sat rfl) ?_
  refine ⟨by show s.length + 4 ≤ maxLen; omega, ?_⟩
  intro b c hc1 hc2
  refine call_con [] (fun β w' hs' => by
    have e := rsum_c w' (some ⟨b, 0, none⟩) s c (by have q := hs'.get 0 rfl; simp only [mkSo] at q; exact q) (Rd.old h1 (hs'.get 1 rfl)) (by omega)
    exact e) ?_
  rintro v Fs ⟨A3, c3, rfl, h3, h4, rfl⟩
  refine call_pu (v := .string (mkS (hexB (Sha.sum s)))) (fun β w' hs' => by
    have e := rhex_c w' A3 (Sha.sum s) c3 (row_rd (hs'.get 0 rfl)) (by show 32 ≤ _; omega)
    exact e) ?_
  have hx : (hexB (Sha.sum s)).length = 64 := by rw [hexB_len]; rfl
  refine ⟨by show (mkS s ++ mkS [115, 117, 109, 32]).size + (hexB (Sha.sum s)).length ≤ maxLen; rw [mkS_app]; show (s ++ [115, 117, 109, 32]).length + _ ≤ _; rw [List.length_append, hx]; show s.length + 4 + 64 ≤ _; omega, ?_⟩
  refine ⟨by show (mkS s ++ mkS [115, 117, 109, 32] ++ mkS (hexB (Sha.sum s))).size + 1 ≤ maxLen; rw [mkS_app, mkS_app]; show (s ++ [115, 117, 109, 32] ++ hexB (Sha.sum s)).length + 1 ≤ _; rw [List.length_append, List.length_append, hx]; show s.length + 4 + 64 + 1 ≤ _; omega, ?_⟩
  intro β w' hs'
  refine (hs'.keepB (List.nil_sublist _)).fin [] ⟨?_, rfl⟩
  show Value.string (mkS s ++ mkS [115, 117, 109, 32] ++ mkS (hexB (Sha.sum s)) ++ mkS [10]) = _
  rw [mkS_app, mkS_app, mkS_app]
  simp only [sumL, List.append_assoc]
theorem rollDec_c (w : World) (u : Nat) (hu : u < 100) : Pu Tryz.prog n_roll_dec #[.int .u64 (u : Int)] w (.string (decimS u)) := by
  have g := good_roll_dec w (Un [])
  refine con_of_sx (cx := cx_roll_dec w (Un [])) g b_roll_dec rfl rfl (β := Va.z) [.c (.v (.int .u64 (u : Int)))] 0 [] [] rfl rfl (Sat.start rfl) ?_
  refine call_pu (v := .string (decimS u)) (fun β w' hs => fmtU_c w' u hu) ?_
  intro β w' hs
  exact hs.fin [] ⟨rfl, rfl⟩
end Go.Proofs.YtloeaiafphkjnaaGreatDoor.Sx

namespace Go.Proofs.YtloeaiafphkjnaaGreatDoor.Sx
open Go
attribute [local irreducible] Calls
section
variable {c0 : Cx} {w : World}
end
def sto0 (b m : Nat) : Sto := ⟨b, m, [], 0, 0⟩
theorem cnew_c (w : World) : Con Tryz.prog n_cred_New #[] w [] fun v Fs => ∃ b m, v = ptr b ∧ Fs = [stoF (sto0 b m)] := by
  have g := good_cred_New w (Un [])
  refine con_of_sx (cx := cx_cred_New w (Un [])) g b_cred_New rfl rfl (β := Va.z) [] 0 [] [] rfl rfl (Sat.start rfl) ?_
  intro m
  intro β w' hs
  have h1 := (hs.ofBk).noMem (sepF []) ⟨fun f hf => (by cases hf), List.Pairwise.nil⟩ (fun k hk => by obtain ⟨f, hf, _⟩ := hk; cases hf)
  have h2 := h1.sep [1, 2, 0]
  exact h2.fin [0] ⟨β 0, m, rfl, rfl⟩
end Go.Proofs.YtloeaiafphkjnaaGreatDoor.Sx

namespace Go.Proofs.YtloeaiafphkjnaaGreatDoor.Sx
open Go
attribute [local irreducible] Calls
def stoOut (S : Sto) (r : Int × ASto) (v : Value) (Fs : List Fact) : Prop := ∃ S' : Sto, v = .int .i64 r.1 ∧ S'.a = r.2 ∧ S'.b = S.b ∧ Fs = [stoF S']
theorem stoOut_same {S : Sto} {r : Int × ASto} {e : Int} (h : r = (e, S.a)) : stoOut S r (.int .i64 e) [stoF S] := ⟨S, by rw [h], by rw [h], rfl, rfl⟩
theorem Mem.part2 {w : World} {f g g' : Fact} (h : Mem w [f, g]) (hf : f.own = true) (hp : g'.p w) (hD : ∀ k, g'.D k → g.D k) : Mem w [f, g'] := by
  have hs := (List.pairwise_cons.1 h.sepf).1 g (by simp) (.inl hf)
  refine ⟨fun x hx => ?_, fun x hx k hk => ?_, List.pairwise_cons.2 ⟨fun x hx _ k hk hk' => ?_, List.pairwise_singleton _ _⟩⟩
  · simp only [List.mem_cons, List.not_mem_nil, or_false] at hx
    rcases hx with rfl | rfl
    · exact h.fact _ (by simp)
    · exact hp
  · simp only [List.mem_cons, List.not_mem_nil, or_false] at hx
    rcases hx with rfl | rfl
    · exact h.flt _ (by simp) k hk
    · exact h.flt g (by simp) k (hD k hk)
  · obtain rfl := List.mem_singleton.1 hx
    exact hs k hk (hD k hk')
theorem sto_mapD {S : Sto} : ∀ k, (mapF S.m S.ml).D k → (stoF S).D k := fun k hk => ⟨mapF S.m S.ml, by simp, hk⟩
def Sto.names (S : Sto) : List ByteArray := sortK (S.ml.map (·.1))
theorem Sto.names_len (S : Sto) : S.names.length = S.ts.length := by rw [Sto.names, sortK_len, List.length_map, Sto.ml, List.length_map]
def insN (L : List ByteArray) (pre : List ByteArray) (x : ByteArray) (args : Array Value) (X : Fact) : Prop := args = #[.string x] ∧ X = noF ∧ L[pre.length]? = some x
def tenEnd (S : Sto) (J Jx : List ByteArray → Fact → Prop) (Fs : List Fact) : Prop :=
  ∃ f Fs', Fs = f :: Fs' ∧ ((∃ xs, J xs f ∧ xs = S.names ∧ Fs' = [stoF S]) ∨ (∃ pre, Jx pre f ∧ Fs' = [stoF S]))
theorem ten_it (l : Nat) (w : World) (bx : Nat) (S : Sto) (f0 R : Fact) (J Jx : List ByteArray → Fact → Prop) (hok : KeysOk S.ml) (hL : S.ts.length ≤ 1000) (hJ0 : J [] f0) (hJo : ∀ pre f, J pre f → f.own = true) (hRo : R.own = false) (hY : Yc Tryz.prog l J Jx R (insN S.names))
    (hm : Mem w (f0 :: R :: [bkF bx ty_ptr_cred_Store [ptr S.b], stoF S])) :
    Con Tryz.prog n_cred_Store_Tenants_1 #[.func (.yield l) #[] #[], .pointer (some ⟨bx, 0, none⟩)] w [f0, bkF bx ty_ptr_cred_Store [ptr S.b], stoF S] (fun _ Fs => tenEnd S J Jx Fs) := by
  have g := good_cred_Store_Tenants_1 w (Un [f0, bkF bx ty_ptr_cred_Store [ptr S.b], stoF S]) [bx]
  have hs0 : Sat (cx_cred_Store_Tenants_1 w (Un [f0, bkF bx ty_ptr_cred_Store [ptr S.b], stoF S]) [bx]) (Va.of fun _ => bx) 1 [] (f0 :: R :: [bkF bx ty_ptr_cred_Store [ptr S.b], stoF S]) w := by
    refine hm.sat rfl (fun f hf ho k hk => ?_) ⟨Nat.le_refl 1, fun i hi => by obtain rfl : i = 0 := Nat.lt_one_iff.1 hi; rfl⟩
    simp only [List.mem_cons, List.not_mem_nil, or_false] at hf
    rcases hf with rfl | rfl | rfl | rfl
    · exact ⟨_, by simp, hk⟩
    · rw [hRo] at ho; cases ho
    · exact ⟨bkF bx ty_ptr_cred_Store [ptr S.b], by simp, hk⟩
    · exact ⟨stoF S, by simp, hk⟩
  have hs1 := hs0.toBk 2 rfl 0 Nat.zero_lt_one rfl
  refine con_of_sx (cx := cx_cred_Store_Tenants_1 w (Un [f0, bkF bx ty_ptr_cred_Store [ptr S.b], stoF S]) [bx]) g b_cred_Store_Tenants_1 rfl rfl (β := Va.of fun _ => bx) [.c (.v (.func (.yield l) #[] #[])), .c (.p 0 0)] 1 _ _ rfl rfl hs1 ?_
  have hml : S.ml.length = S.ts.length := by rw [Sto.ml, List.length_map]
  refine ⟨.map (some S.m), fun β w' hs => bkc (sto_bk (hs.get 2 rfl)) (o := 0) rfl, ?_⟩
  refine call_con [] (fun β w' hs => keysT_c w' (some S.m)) ?_
  rintro v Fs ⟨B, rfl, rfl⟩
  refine call_con [] (fun β w' hs => sortedT_c w' B S.m S.ml hok (by omega) ((hs.mem.take (js := [0, 3]) rfl).part2 rfl (sto_map (hs.get 3 rfl)) sto_mapD)) ?_
  have hnl := S.names_len
  rintro v Fs ⟨A, c, rfl, hA0, rfl⟩
  have e0 : sortK (S.ml.map (·.1)) = S.names := rfl
  rw [e0] at hA0 ⊢
  clear e0
  generalize hNm : S.names = N at *
  refine loop_rule (ι := List ByteArray × Fact) 1 (fun i => [(0, .c (.v (.func (.yield l) #[] #[]))), (1, .c (.p 0 0)), (12, .c (.v (.slice A N.length c))), (13, .c (.v (.int .i64 (N.length : Int)))), (14, .c (.v (.int .i64 (i.1.length : Int))))]) (fun _ => [⟨0, ty_ptr_cred_Store, [.v (ptr S.b)]⟩]) (fun i => [trowF A N c, i.2, R, stoF S])
    (fun i => J i.1 i.2 ∧ i.1 = N.take i.1.length ∧ i.1.length ≤ N.length) (fun i => N.length - i.1.length) ([], f0) ⟨hJ0, rfl, Nat.zero_le _⟩ (Ent.mk' ⟨rfl, rfl, rfl, rfl, rfl, trivial⟩ rfl (fun β w' hs => hs.perm [0, 2, 3, 4])) g ?_
  rintro ⟨pre, f⟩ ⟨hJ, hpre, hi⟩
  simp only at hJ hpre hi
  have hfo := hJo _ _ hJ
  simp only
  refine BIf.dec (fun hlt => ?_) (fun hge => ?_)
  · have hlt0 : (pre.length : Int) < N.length := hlt
    have hkl : pre.length < N.length := by omega
    obtain ⟨x, hx, _⟩ := at_lt hkl
    obtain ⟨ad, hAd⟩ := hA0 (by omega)
    refine ⟨ad, pre.length, hAd, rfl, hkl, .string x, fun β w' hs => ?_, ?_⟩
    · have h := row_rd (hs.get 0 rfl)
      rw [hAd] at h
      exact Rd.cell1 h (by simp [hx])
    refine yield_ro (X := noF) (x := x) hY 1 2 rfl hJ hfo rfl hRo (by decide) (fun β => ⟨rfl, rfl, hx⟩) rfl (fun β w _ => ⟨trivial, fun k hk => hk.elim, fun k _ h => h.elim⟩) ?_ ?_
    · intro f2 hfo2 hJ2
      have e : (pre ++ [x]).length = pre.length + 1 := by rw [List.length_append]; rfl
      refine ⟨((pre.length + 1 : Nat) : Int), by rw [wrap_i64 (by omega) (by omega)]; rfl, ?_⟩
      refine ⟨(pre ++ [x], f2), ⟨hJ2, ?_, by show (pre ++ [x]).length ≤ _; omega⟩, by show N.length - (pre ++ [x]).length < N.length - pre.length; omega, ?_⟩
      · show pre ++ [x] = N.take (pre ++ [x]).length
        rw [e, List.take_add_one, hx, ← hpre]
        rfl
      · simp only [e]
        exact Ent.mk' ⟨rfl, rfl, rfl, rfl, rfl, trivial⟩ rfl (fun β w' hs => hs.perm [1, 0, 2, 3])
    · intro f2 hfo2 hJ2 β w' hs
      exact (hs.keepB (List.nil_sublist _)).fin [0, 3] ⟨f2, _, rfl, .inr ⟨_, hJ2, rfl⟩⟩ rfl rfl rfl ⟨hfo2, rfl, trivial⟩
  · have hge0 : ¬ (pre.length : Int) < N.length := hge
    intro β w' hs
    exact (hs.keepB (List.nil_sublist _)).fin [1, 3] ⟨f, _, rfl, .inl ⟨pre, hJ, by rw [hpre, hNm, List.take_of_length_le (by omega)], rfl⟩⟩ rfl rfl rfl ⟨hfo, rfl, trivial⟩
theorem tenants_c (w : World) (S : Sto) : Con Tryz.prog n_cred_Store_Tenants #[ptr S.b] w [] (fun v Fs => ∃ bx, v = .func (.func n_cred_Store_Tenants_1) #[] #[.pointer (some ⟨bx, 0, none⟩)] ∧ Fs = [bkF bx ty_ptr_cred_Store [ptr S.b]]) := by
  refine con_of_sx (cx := cx_cred_Store_Tenants w (Un [])) (good_cred_Store_Tenants w (Un [])) b_cred_Store_Tenants rfl rfl (β := Va.z) [.c (.v (ptr S.b))] 0 [] [] rfl rfl (Sat.start rfl) ?_
  intro β w' hs
  exact hs.ofBk.fin [0] ⟨β 0, rfl, rfl⟩
def Crd.ss (c : Crd) : List SL := .v (.string c.tenant) :: .v (.string c.user) :: (c.sec.x.ss ++ [.v (.int .u64 c.gen), .v (.slice c.rA c.roles.length c.rc), .v (.bool c.revoked)])
def tlt (x y : ByteArray) : Prop := x.toList < y.toList
instance (x y : ByteArray) : Decidable (tlt x y) := by unfold tlt; exact inferInstance
def raiseA (X : ASto) (n : Nat) : Int × ASto := if greatN < n then (4, X) else (0, { X with last := max X.last n })
theorem raise_c (w : World) (S : Sto) (n : Nat) (hm : Mem w [stoF S]) : Con Tryz.prog n_cred_Store_Raise #[ptr S.b, .int .u64 (n : Int)] w [stoF S] (stoOut S (raiseA S.a n)) := by
  have g := good_cred_Store_Raise w (Un [stoF S])
  obtain ⟨x, hx⟩ : ∃ x : Int, (n : Int) = x := ⟨_, rfl⟩
  rw [hx]
  refine con_of_sx (cx := cx_cred_Store_Raise w (Un [stoF S])) g b_cred_Store_Raise rfl rfl (β := Va.z) [.c (.v (ptr S.b)), .c (.v (.int .u64 x))] 0 [] [stoF S] rfl rfl (hm.sat0 rfl (fun f hf _ k hk => ⟨f, hf, hk⟩)) ?_
  refine BIf.dec (fun hg => ?_) (fun hg => ?_)
  · have hg0 : (9007199254740992 : Int) < x := hg
    intro β w' hs
    exact hs.fin [0] (stoOut_same (by unfold raiseA; rw [if_pos (by unfold greatN; omega)]))
  · have hg0 : ¬ (9007199254740992 : Int) < x := hg
    obtain ⟨y, hy⟩ : ∃ y : Int, ((max S.last n : Nat) : Int) = y := ⟨_, rfl⟩
    refine ⟨.int .u64 (S.last : Int), fun β w' hs => bkc (sto_bk (hs.get 0 rfl)) rfl, ?_⟩
    refine ⟨y, by show max (S.last : Int) x = y; rw [← hy, ← hx]; omega, ?_⟩
    refine ⟨[stoF { S with last := max S.last n }], fun β w' hs => ?_, ?_⟩
    · have k1 := hs.unsep 0 rfl
      obtain ⟨w2, e1, e2⟩ := k1.bkSet 0 (o := 1) (us := [.int .u64 y]) rfl (by show 2 ≤ 3; decide) (fun u hu => by obtain rfl := List.mem_singleton.1 hu; rfl)
      refine ⟨w2, e1, ?_⟩
      have k2 := e2.sep [0, 1, 2] rfl ⟨rfl, rfl, rfl, trivial⟩
      rw [← hy] at k2
      exact k2
    intro β w' hs
    exact hs.fin [0] ⟨{ S with last := max S.last n }, by unfold raiseA; rw [if_neg (by unfold greatN; omega)]; rfl, by unfold raiseA; rw [if_neg (by unfold greatN; omega)]; rfl, rfl, rfl⟩
end Go.Proofs.YtloeaiafphkjnaaGreatDoor.Sx

namespace Go.Proofs.YtloeaiafphkjnaaGreatDoor.Sx
open Go
end Go.Proofs.YtloeaiafphkjnaaGreatDoor.Sx

namespace Go.Proofs.YtloeaiafphkjnaaGreatDoor.Sx
open Go
section
variable {cx : Cx} {n : Nat} {H : List Bk} {F : List Fact} {env : Env}
end
end Go.Proofs.YtloeaiafphkjnaaGreatDoor.Sx

namespace Go.Proofs.YtloeaiafphkjnaaGreatDoor.Sx
open Go
def Reads : List Fact → Prop
  | [] => True
  | f :: r => f.own = false ∧ Reads r
theorem Reads.mem : ∀ {l : List Fact}, Reads l → ∀ f ∈ l, f.own = false
  | f :: r, h, g, hg => by
    rcases List.mem_cons.1 hg with rfl | hg
    · exact h.1
    · exact h.2.mem g hg
section
variable {cx : Cx} {w : World}
theorem go_sat {Gs Rs : List Fact} (hm : Mem w (Gs ++ Rs)) (hR : Reads Rs) (hW : cx.W0 = w) (hS : cx.S = Un Gs) (hbs : cx.bs = []) (hr : cx.rnd = none) (hpn : cx.pn = []) : Sat cx Va.z 0 [] (Gs ++ Rs) w :=
  hm.sat0 hW (by rw [hS]; exact ownIn hR.mem) hbs rfl rfl hr hpn
theorem con_go {f : FuncId} {fn : Func} {c : Code} {Gs : List Fact} {R : Value → List Fact → Prop} (g : Good cx) (hf : cx.P.funcs[f]? = some fn) (svs : List SV) (Rs : List Fact) (hm : Mem w (Gs ++ Rs))
    (hw : cwp cx c (fnPost cx fn.results.toList (Fin w Gs R)) 0 (pairs 0 svs) [] (Gs ++ Rs)) (hR : Reads Rs := by first | exact trivial | exact ⟨rfl, trivial⟩ | exact ⟨rfl, rfl, trivial⟩ | exact ⟨rfl, rfl, rfl, trivial⟩ | exact ⟨rfl, rfl, rfl, rfl, trivial⟩ | exact ⟨rfl, rfl, rfl, rfl, rfl, trivial⟩)
    (hb : fn.body = some c := by rfl) (hN : fn.ntmps = cx.N := by rfl) (hlen : Nat.ble svs.length cx.N = true := by rfl) (hltB : allLt 0 svs = true := by rfl) (hW : cx.W0 = w := by rfl) (hS : cx.S = Un Gs := by rfl) (hbs : cx.bs = [] := by rfl) (hr : cx.rnd = none := by rfl) (hpn : cx.pn = [] := by rfl) :
    Con cx.P f (svs.map (SV.val Va.z)).toArray w Gs R :=
  con_of_sx g hf hb hN svs 0 [] (Gs ++ Rs) hlen hltB (go_sat hm hR hW hS hbs hr hpn) hw hr rfl hpn
end
end Go.Proofs.YtloeaiafphkjnaaGreatDoor.Sx

namespace Go.Proofs.YtloeaiafphkjnaaGreatDoor.Sx
open Go
attribute [local irreducible] Calls
def d0 : List UInt8 := [108, 97, 115, 116, 32, 48, 10]
def last0 : ByteArray := mkS [108, 97, 115, 116, 32, 48]
theorem last_d0 : last0 ++ (⟨#[10]⟩ : ByteArray) = mkS d0 := by decide +kernel
theorem dec_0 : decimS 0 = mkS [48] := by decide +kernel
def insL0 (pre : List ByteArray) (x : ByteArray) (args : Array Value) (X : Fact) : Prop := args = #[.string x] ∧ X = noF ∧ [last0][pre.length]? = some x
def l0End (S : Sto) (J Jx : List ByteArray → Fact → Prop) (Fs : List Fact) : Prop :=
  ∃ f Fs', Fs = f :: Fs' ∧ ((∃ xs, J xs f ∧ xs = [last0] ∧ Fs' = [stoF S]) ∨ (∃ pre, Jx pre f ∧ Fs' = [stoF S]))
theorem lines0_it (l : Nat) (w : World) (bx : Nat) (S : Sto) (hS : S.ts = []) (hS0 : S.last = 0) (f0 R : Fact) (J Jx : List ByteArray → Fact → Prop) (hJ0 : J [] f0) (hJo : ∀ pre f, J pre f → f.own = true) (hRo : R.own = false) (hY : Yc Tryz.prog l J Jx R insL0)
    (hm : Mem w (f0 :: R :: [bkF bx ty_ptr_cred_Store [ptr S.b], stoF S])) :
    Con Tryz.prog n_roll_lines_1 #[.func (.yield l) #[] #[], .pointer (some ⟨bx, 0, none⟩)] w [f0, bkF bx ty_ptr_cred_Store [ptr S.b], stoF S] (fun _ Fs => l0End S J Jx Fs) := by
  have g := good_roll_lines_1 w (Un [f0, bkF bx ty_ptr_cred_Store [ptr S.b], stoF S]) [bx]
  have hs0 : Sat (cx_roll_lines_1 w (Un [f0, bkF bx ty_ptr_cred_Store [ptr S.b], stoF S]) [bx]) (Va.of fun _ => bx) 1 [] (f0 :: R :: [bkF bx ty_ptr_cred_Store [ptr S.b], stoF S]) w := by
    refine hm.sat rfl (fun f hf ho k hk => ?_) ⟨Nat.le_refl 1, fun i hi => by obtain rfl : i = 0 := Nat.lt_one_iff.1 hi; rfl⟩
    simp only [List.mem_cons, List.not_mem_nil, or_false] at hf
    rcases hf with rfl | rfl | rfl | rfl
    · exact ⟨_, by simp, hk⟩
    · rw [hRo] at ho; cases ho
    · exact ⟨bkF bx ty_ptr_cred_Store [ptr S.b], by simp, hk⟩
    · exact ⟨stoF S, by simp, hk⟩
  have hs1 := hs0.toBk 2 rfl 0 Nat.zero_lt_one rfl
  refine con_of_sx (cx := cx_roll_lines_1 w (Un [f0, bkF bx ty_ptr_cred_Store [ptr S.b], stoF S]) [bx]) g b_roll_lines_1 rfl rfl (β := Va.of fun _ => bx) [.c (.v (.func (.yield l) #[] #[])), .c (.p 0 0)] 1 _ _ rfl rfl hs1 ?_
  refine draw_rule g p_roll_lines_1_1 (by kernel_rfl) [⟨1, 135, [.v (.func (.yield l) #[] #[])]⟩, ⟨0, ty_ptr_cred_Store, [.v (ptr S.b)]⟩] [] (Sub.of (List.Sublist.refl _) (List.nil_sublist _)) ?_
  refine call_pu (v := .int .u64 ((0 : Nat) : Int)) (fun β w' hs => by
    have h := last_c w' S (hs.get 2 rfl) (hs.getLt 2 rfl)
    rw [hS0] at h
    exact h) ?_
  refine ⟨Sub.of (List.Sublist.refl _) (List.nil_sublist _), ?_⟩
  refine call_pu (v := .string (mkS [48])) (fun β w' hs => by
    have h := rollDec_c w' 0 (by decide)
    rw [dec_0] at h
    exact h) ?_
  refine ⟨Sub.of (List.Sublist.refl _) (List.nil_sublist _), ?_⟩
  refine ⟨by show 5 + 1 ≤ maxLen; rw [maxLen_eq]; decide, ?_⟩
  refine yield_ro (X := noF) (x := last0) hY 0 1 rfl hJ0 (hJo _ _ hJ0) rfl hRo (by decide) (fun β => ⟨by show #[Value.string (mkS [108, 97, 115, 116, 32] ++ mkS [48])] = _; rw [mkS_app]; rfl, rfl, rfl⟩) rfl (fun β w _ => ⟨trivial, fun k hk => hk.elim, fun k _ h => h.elim⟩) ?_ ?_
  · intro f2 hfo2 hJ2
    refine ⟨Sub.of (List.Sublist.refl _) (List.nil_sublist _), ?_⟩
    refine call_con [] (fun β w' hs => tenants_c w' S) ?_
    rintro v Fs ⟨by_, rfl, rfl⟩
    have hnm : S.names = [] := List.length_eq_zero_iff.1 (by rw [S.names_len, hS]; rfl)
    refine range_rule (α := ByteArray) (ι := Unit) (κ := Unit) g rfl (cv := [.pointer (some ⟨by_, 0, none⟩)]) rfl (by kernel_rfl) 2 (Nat.le_refl 2) (fun _ _ => True) (fun _ => [⟨1, 135, [.v (.func (.yield l) #[] #[])]⟩, ⟨0, ty_ptr_cred_Store, [.v (ptr S.b)]⟩]) (fun _ => [f2]) (fun _ => ⟨hfo2, trivial⟩) (fun _ _ _ => False) (fun _ => []) (fun _ => []) (fun _ => trivial) [bkF by_ ty_ptr_cred_Store [ptr S.b], stoF S] [] [R] ⟨rfl, rfl, trivial⟩ (fun g h => by obtain rfl := List.mem_singleton.1 h; exact hRo) () trivial (fun β w hs => ⟨β, Agr.refl _ _, hs.perm [0, 3, 1, 2]⟩) (insN S.names) (fun xs Fs' => xs = S.names ∧ Fs' = [stoF S]) (fun pre Fs' => Fs' = [stoF S]) (fun l w f0 R J Jx h1 h2 h3 h4 h5 => (ten_it l w by_ S f0 R J Jx (by unfold Sto.ml; rw [hS]; exact ⟨List.Pairwise.nil, fun _ h => by cases h⟩) (by rw [hS]; exact Nat.zero_le _) h1 h2 h3 h4 h5).mono fun _ _ h => h) ?_ ?_ ?_
    · rintro i pre x args X W S0 l0 bs pn pn' _ _ ⟨_, _, h⟩
      rw [hnm] at h
      cases h
    · rintro xs i Fs _ ⟨_, rfl⟩
      intro β w' hs
      exact (hs.keepB (List.nil_sublist _)).fin [1, 0] ⟨f2, _, rfl, .inl ⟨_, hJ2, rfl, rfl⟩⟩ rfl rfl rfl ⟨hfo2, rfl, trivial⟩
    · rintro e pre j Fs h
      exact h.elim
  · intro f2 hfo2 hJ2
    refine ⟨Sub.of (List.Sublist.refl _) (List.nil_sublist _), ?_⟩
    intro β w' hs
    exact (hs.keepB (List.nil_sublist _)).fin [0, 2] ⟨f2, _, rfl, .inr ⟨_, hJ2, rfl⟩⟩ rfl rfl rfl ⟨hfo2, rfl, trivial⟩
theorem rollLinesS_c (w : World) (S : Sto) : Con Tryz.prog n_roll_lines #[ptr S.b] w [] (fun v Fs => ∃ bx, v = .func (.func n_roll_lines_1) #[] #[.pointer (some ⟨bx, 0, none⟩)] ∧ Fs = [bkF bx ty_ptr_cred_Store [ptr S.b]]) := by
  refine con_of_sx (cx := cx_roll_lines w (Un [])) (good_roll_lines w (Un [])) b_roll_lines rfl rfl (β := Va.z) [.c (.v (ptr S.b))] 0 [] [] rfl rfl (Sat.start rfl) ?_
  intro β w' hs
  exact hs.ofBk.fin [0] ⟨β 0, rfl, rfl⟩
structure DSt where
  p : Value
  A : Option Addr
  l : List UInt8
  c : Nat
def lnB (L : List ByteArray) : List UInt8 := L.flatMap fun x => x.data.toList ++ [10]
theorem dump0_c (w : World) (S : Sto) (hS : S.ts = []) (hS0 : S.last = 0) (hm : Mem w [stoF S, oddF 2, firstF 0]) : Con Tryz.prog n_roll_Dump #[ptr S.b] w [stoF S] (fun v Fs => v = .string (mkS (d0 ++ sumL d0)) ∧ Fs = [stoF S]) := by
  have g := good_roll_Dump w (Un [stoF S])
  refine con_go (cx := cx_roll_Dump w (Un [stoF S])) g b_roll_Dump [.c (.v (ptr S.b))] [oddF 2, firstF 0] hm ?_
  refine call_con [] (fun β w' hs => rollLinesS_c w' S) ?_
  rintro v Fs ⟨bx, rfl, rfl⟩
  refine reify_rule g 0 (fun _ => [.pointer none, .slice none 0 0]) rfl rfl (fun _ => rfl) (fun b => ?_)
  refine range_rule (α := ByteArray) (ι := DSt) (κ := Unit) g rfl (cv := [.pointer (some ⟨bx, 0, none⟩)]) rfl (by kernel_rfl) 1 (Nat.le_refl 1) (fun pre i => i.l = lnB pre ∧ (i.p = .pointer none ∨ i.p = selfV b)) (fun _ => []) (fun i => bldF b i.p i.A i.l i.c) (fun _ => ⟨rfl, rfl, trivial⟩) (fun _ _ _ => False) (fun _ => []) (fun _ => []) (fun _ => trivial) [bkF bx ty_ptr_cred_Store [ptr S.b], stoF S] [] [oddF 2, firstF 0] ⟨rfl, rfl, trivial⟩ (fun g h => by
      simp only [List.mem_cons, List.not_mem_nil, or_false] at h
      rcases h with rfl | rfl <;> rfl) ⟨.pointer none, none, [], 0⟩ ⟨rfl, .inl rfl⟩ (fun β w hs => ⟨β, Agr.refl _ _, ?_⟩) insL0 (fun xs Fs' => xs = [last0] ∧ Fs' = [stoF S]) (fun pre Fs' => Fs' = [stoF S]) (fun l w f0 R J Jx h1 h2 h3 h4 h5 => (lines0_it l w bx S hS hS0 f0 R J Jx h1 h2 h3 h4 h5).mono fun _ _ h => h) ?_ ?_ ?_
  · exact (hs.nilRow ty_uint8 1).perm [2, 3, 1, 0, 4, 5]
  · rintro ⟨p, A, l, c⟩ pre x args X W S0 l0 bs pn pn' hbs ⟨hl, hp⟩ ⟨rfl, rfl, hx⟩
    simp only at hl hp
    have hxl : x = last0 ∧ pre = [] := by
      cases pre with
      | nil => exact ⟨(Option.some.inj hx).symm, rfl⟩
      | cons a t => cases hx
    obtain ⟨rfl, rfl⟩ := hxl
    obtain rfl : l = [] := hl
    refine ⟨_, rfl, ?_⟩
    refine ⟨by show 6 + 1 ≤ maxLen; rw [maxLen_eq]; decide, ?_⟩
    refine call_con [1, 2] (fun β w' hs => by
      have h := writeStr_c w' b p A [] c d0 hp (by decide) (by decide) (hs.mem.take (js := [1, 2]) rfl)
      rw [← last_d0] at h
      exact h) ?_
    rintro v Fs ⟨rfl, A2, c2, rfl⟩
    refine ⟨⟨selfV b, A2, d0, c2⟩, ⟨by show d0 = lnB [last0]; decide, .inr rfl⟩, Ent.mk' trivial rfl (fun β w' hs => ?_)⟩
    exact hs.perm [0, 1]
  · rintro xs ⟨p, A, l, c⟩ Fs ⟨hl, hp⟩ ⟨rfl, rfl⟩
    simp only at hl hp
    obtain rfl : l = d0 := hl.trans (by decide)
    refine call_con [1, 2] (fun β w' hs => text1_c w' b p A d0 c (by decide) (hs.mem.take (js := [1, 2]) rfl)) ?_
    rintro v Fs ⟨rfl, gb, rfl, h1, h2, rfl⟩
    refine call_con [0, 1] (fun β w' hs => text2_c w' b gb p d0 c (by decide) h1 h2 (hs.mem.take (js := [0, 1]) rfl)) ?_
    rintro v Fs ⟨rfl, rfl⟩
    refine call_pu (v := .string (mkS (sumL d0))) (fun β w' hs => rollSum_c w' d0 (by decide) (hs.get 3 rfl) (hs.get 4 rfl)) ?_
    refine ⟨by show 7 + (sumL d0).length ≤ maxLen; rw [sumL_len, maxLen_eq]; decide, ?_⟩
    intro β w' hs
    refine hs.fin [2] ⟨?_, rfl⟩
    show Value.string (mkS d0 ++ mkS (sumL d0)) = _
    rw [mkS_app]
  · rintro e pre j Fs h
    exact h.elim
def isIf : Option TypeDesc → Bool
  | some (.interface _) => true
  | _ => false
theorem eqIn_nil {P : Program} {t : TypeId} (ht : isIf (P.underlying t) = true) (w : World) : (Op.equalIn Op.maxDepth t .nilIface .nilIface).run P w = .ok true w := by
  obtain ⟨ms, hm⟩ : ∃ ms, P.underlying t = some (.interface ms) := by
    unfold isIf at ht
    split at ht
    · rename_i ms h; exact ⟨ms, h⟩
    · cases ht
  rw [show Op.maxDepth = 9999 + 1 from rfl]
  unfold Op.equalIn
  simp [run_underlying hm]
theorem neq_nil {P : Program} {t : TypeId} (ht : isIf (P.underlying t) = true) (x : Operand) (w : World) : (binSem .neq t x (.const .nilIface) .nilIface .nilIface).run P w = .ok (.bool false) w := by
  simp [binSem, eqGuard, binOp, Op.equal, eqIn_nil ht]
theorem eql_nil {P : Program} {t : TypeId} (ht : isIf (P.underlying t) = true) (x : Operand) (w : World) : (binSem .eql t x (.const .nilIface) .nilIface .nilIface).run P w = .ok (.bool true) w := by
  simp [binSem, eqGuard, binOp, Op.equal, eqIn_nil ht]
theorem dec_00 : decimS 0 = mkS [48] := by decide +kernel
theorem parseI_c (w : World) (t : ByteArray) (u : Nat) (ht : t.size ≤ 1000000) (h : Lib.parseUintB 64 t.data.toList = .ok u) : Pu Tryz.prog n_internal_strconv_ParseUint #[.string t, .int .i64 10, .int .i64 64] w (.tuple #[.int .u64 (u : Int), .nilIface]) := by
  refine pu_of (Calls.mono (Tryz.internal_strconv_ParseUint_10_at64 t (by omega) w) ?_)
  rintro e w' ⟨rfl, hw⟩
  refine ⟨_, rfl, by rw [h]; rfl, ?_⟩
  rcases hw with rfl | rfl
  · exact Chg.refl _ _
  · exact ⟨rfl, rfl, rfl, by rw [Lib.bytesWorld_size]; omega, fun k hk _ => Lib.bytesWorld_at_old w _ t k hk⟩
theorem parseU_c (w : World) (t : ByteArray) (u : Nat) (ht : t.size ≤ 1000000) (h : Lib.parseUintB 64 t.data.toList = .ok u) : Pu Tryz.prog n_strconv_ParseUint #[.string t, .int .i64 10, .int .i64 64] w (.tuple #[.int .u64 (u : Int), .nilIface]) := by
  have g := good_strconv_ParseUint w (Un [])
  refine con_of_sx (cx := cx_strconv_ParseUint w (Un [])) g b_strconv_ParseUint rfl rfl (β := Va.z) [.c (.v (.string t)), .c (.v (.int .i64 10)), .c (.v (.int .i64 64))] 0 [] [] rfl rfl (Sat.start rfl) ?_
  refine call_pu (v := .tuple #[.int .u64 (u : Int), .nilIface]) (fun β w' hs => parseI_c w' t u ht h) ?_
  refine ⟨false, fun w => neq_nil (by kernel_rfl) _ _, ?_⟩
  intro β w' hs
  exact hs.fin [] ⟨rfl, rfl⟩
theorem number0_c (w : World) : Pu Tryz.prog n_roll_number #[.string (mkS [48])] w (.tuple #[.int .u64 0, .bool true]) := by
  have g := good_roll_number w (Un [])
  refine con_of_sx (cx := cx_roll_number w (Un [])) g b_roll_number rfl rfl (β := Va.z) [.c (.v (.string (mkS [48])))] 0 [] [] rfl rfl (Sat.start rfl) ?_
  refine call_pu (v := .tuple #[.int .u64 ((0 : Nat) : Int), .nilIface]) (fun β w' hs => parseU_c w' (mkS [48]) 0 (by decide) (by decide)) ?_
  refine ⟨true, fun w => eql_nil (by kernel_rfl) _ _, ?_⟩
  refine call_pu (v := .string (mkS [48])) (fun β w' hs => by
    have h := rollDec_c w' 0 (by decide)
    rw [dec_00] at h
    exact h) ?_
  intro β w' hs
  exact hs.fin [] ⟨rfl, rfl⟩
theorem lnL_d0 : lnL d0 = [[108, 97, 115, 116, 32, 48]] := by decide
theorem fill0_c (w : World) (S : Sto) (hS : S.ts = []) (hS0 : S.last = 0) (hm : Mem w [stoF S, mlF]) : Con Tryz.prog n_roll_fill #[ptr S.b, .string (mkS d0)] w [stoF S] (fun v Fs => v = .bool true ∧ ∃ S', S'.b = S.b ∧ S'.ts = [] ∧ S'.last = 0 ∧ Fs = [stoF S']) := by
  have g := good_roll_fill w (Un [stoF S])
  refine con_go (cx := cx_roll_fill w (Un [stoF S])) g b_roll_fill [.c (.v (ptr S.b)), .c (.v (.string (mkS d0)))] [mlF] hm ?_
  refine call_con [] (fun β w' hs => rollLines_c w' (mkS d0)) ?_
  rintro v Fs ⟨bx, rfl, rfl⟩
  refine range_rule (α := List UInt8) (ι := Sto) (κ := Unit) g rfl (cv := [.pointer (some ⟨bx, 0, none⟩)]) rfl (by kernel_rfl) 4 (Nat.le_refl 4) (fun _ i => i.b = S.b ∧ i.ts = [] ∧ i.last = 0) (fun _ => [⟨3, 4, [.v (.bool false)]⟩, ⟨2, 9, [.v (.string ⟨#[]⟩)]⟩, ⟨1, 4, [.v (.bool false)]⟩, ⟨0, 25, [.v (ptr S.b)]⟩]) (fun i => [stoF i]) (fun _ => ⟨rfl, trivial⟩) (fun _ _ _ => False) (fun _ => []) (fun _ => []) (fun _ => trivial) [bkF bx ty_string [.string (mkS d0)]] [mlF] [mlF] ⟨rfl, trivial⟩ (fun g h => by obtain rfl := List.mem_singleton.1 h; rfl) S ⟨rfl, hS, hS0⟩ (fun β w hs => ⟨β, Agr.refl _ _, ?_⟩) (insLn (lnL d0)) (fun xs Fs' => xs = lnL d0 ∧ Fs' = []) (fun pre Fs' => Fs' = []) (fun l w f0 R J Jx h1 h2 h3 h4 h5 => (lines_it l w bx d0 (by decide) f0 R J Jx h1 h2 h3 h4 h5).mono fun _ _ h => h) ?_ ?_ ?_
  · exact (hs.sub 2 rfl rfl mlF rfl (hs.get 2 rfl) (fun _ h => h)).perm [1, 0, 2, 3]
  · rintro i pre x args X W S0 l0 bs pn pn' hbs ⟨hib, hit, hil⟩ ⟨rfl, rfl, hx⟩
    rw [lnL_d0] at hx
    have hxl : x = [108, 97, 115, 116, 32, 48] ∧ pre = [] := by
      cases pre with
      | nil => exact ⟨(Option.some.inj hx).symm, rfl⟩
      | cons a t => cases hx
    obtain ⟨rfl, rfl⟩ := hxl
    refine ⟨_, rfl, ?_⟩
    refine call_pu (v := .tuple #[.string (mkS [108, 97, 115, 116]), .string (mkS [48]), .bool true]) (fun β w' hs => cutD_c w' [108, 97, 115, 116, 32, 48] 32 (by decide) (hs.get 2 rfl)) ?_
    refine call_pu (v := .tuple #[.int .u64 0, .bool true]) (fun β w' hs => number0_c w') ?_
    refine call_con [1] (R := stoOut i (0, i.a)) (fun β w' hs => by
      have h := raise_c w' i 0 (hs.mem.take (js := [1]) rfl)
      have e : raiseA i.a 0 = (0, i.a) := by
        have : i.a.last = 0 := hil
        unfold raiseA
        rw [if_neg (by decide), this]
        cases hq : i.a with
        | mk a b c => rw [hq] at this; simp only at this; subst this; rfl
      rw [e, hib] at h
      exact h) ?_
    rintro v Fs ⟨S', rfl, ha, hb, rfl⟩
    have ht : S'.ts = [] := by
      have := congrArg ASto.ts ha
      simp [Sto.a, hit] at this
      exact this
    exact ⟨S', ⟨hb.trans hib, ht, (congrArg ASto.last ha).trans hil⟩, Ent.mk' trivial rfl (fun β w' hs => hs.perm [0])⟩
  · rintro xs i Fs ⟨hib, hit, hil⟩ ⟨rfl, rfl⟩
    intro β w' hs
    exact (hs.keepB (List.nil_sublist _)).fin [0] ⟨rfl, i, hib, hit, hil, rfl⟩
  · rintro e pre j Fs h
    exact h.elim
theorem cutPfx_c (w : World) (s p : ByteArray) : Pu Tryz.prog n_strings_CutPrefix #[.string s, .string p] w (.tuple #[.string ⟨(Lib.trimPrefix s.data.toList p.data.toList).toArray⟩, .bool (Lib.hasPrefix s.data.toList p.data.toList)]) := by
  refine pu_of (Calls.mono (Tryz.strings_CutPrefix s p w) ?_)
  rintro e w' ⟨rfl, rfl⟩
  exact ⟨_, rfl, rfl, Chg.refl _ _⟩
theorem hasSfx_c (w : World) (s p : ByteArray) (hs : s.size ≤ 1000000) : Pu Tryz.prog n_strings_HasSuffix #[.string s, .string p] w (.bool (Lib.hasSuffix s.data.toList p.data.toList)) := by
  refine pu_of (Calls.mono (Tryz.strings_HasSuffix s p w (by omega)) ?_)
  rintro e w' ⟨rfl, rfl⟩
  exact ⟨_, rfl, rfl, Chg.refl _ _⟩
theorem trimSfx_c (w : World) (s p : ByteArray) (hs : s.size ≤ 1000000) : Pu Tryz.prog n_strings_TrimSuffix #[.string s, .string p] w (.string ⟨(Lib.trimSuffix s.data.toList p.data.toList).toArray⟩) := by
  refine pu_of (Calls.mono (Tryz.strings_TrimSuffix s p w (by omega)) ?_)
  rintro e w' ⟨rfl, rfl⟩
  exact ⟨_, rfl, rfl, Chg.refl _ _⟩
def hx0 : List UInt8 := hexB (Sha.sum d0)
theorem hx0_len : hx0.length = 64 := by rw [hx0, hexB_len]; rfl
theorem pf1 : Lib.hasPrefix (sumL d0) [115, 117, 109, 32] = true := by
  show Lib.hasPrefix (115 :: 117 :: 109 :: 32 :: (hexB (Sha.sum d0) ++ [10])) [115, 117, 109, 32] = true
  simp [Lib.hasPrefix]
theorem pf2 : Lib.trimPrefix (sumL d0) [115, 117, 109, 32] = hx0 ++ [10] := by
  unfold Lib.trimPrefix
  rw [pf1]
  rfl
theorem pf3 : Lib.hasSuffix (hx0 ++ [10]) [10] = true := by simp [Lib.hasSuffix]
theorem pf4 : Lib.trimSuffix (hx0 ++ [10]) [10] = hx0 := by
  unfold Lib.trimSuffix
  rw [pf3]
  simp
theorem dig16 : ∀ k : Nat, k < 16 → digA (dgs.getD k 0) = some k := by decide
theorem unhex_hexB : ∀ l : List UInt8, unhexA (hexB l) = some l
  | [] => rfl
  | x :: r => by
    have ih := unhex_hexB r
    have hx := x.toNat_lt
    have h1 := dig16 (x.toNat / 16) (by omega)
    have h2 := dig16 (x.toNat % 16) (by omega)
    show unhexA (dgs.getD (x.toNat / 16) 0 :: dgs.getD (x.toNat % 16) 0 :: hexB r) = _
    unfold unhexA
    rw [h1, h2, ih]
    show some (u8n (x.toNat / 16 * 16 + x.toNat % 16) :: r) = _
    rw [Nat.div_add_mod']
    simp [u8n]
theorem load0T_c (w : World) (T : List UInt8) (hT : sumL d0 = T) (hm : Mem w [oddF 2, firstF 0, mlF]) : Con Tryz.prog n_roll_Load #[.string (mkS (d0 ++ T))] w [] (fun v Fs => ∃ S, v = .tuple #[ptr S.b, .int .i64 0] ∧ S.ts = [] ∧ S.last = 0 ∧ Fs = [stoF S]) := by
  have g := good_roll_Load w (Un [])
  have hml := maxLen_eq
  have hl : (d0 ++ T).length = 76 := by rw [← hT, List.length_append, sumL_len]; rfl
  refine con_go (cx := cx_roll_Load w (Un [])) g b_roll_Load [.c (.v (.string (mkS (d0 ++ T))))] [oddF 2, firstF 0, mlF] hm ?_
  refine BIf.dec (fun q => absurd (show (262144 : Int) < ((d0 ++ T).length : Int) from q) (by omega)) (fun _ => ?_)
  refine call_pu (v := .string (mkS (sumL []))) (fun β w' hs => rollSum_c w' [] (by decide) (hs.get 0 rfl) (hs.get 1 rfl)) ?_
  refine BIf.dec (fun q => absurd (show ((d0 ++ T).length : Int) < ((sumL []).length : Int) from q) (by rw [sumL_len]; omega)) (fun _ => ?_)
  refine draw_rule g p_roll_Load_6 (by kernel_rfl) [] [oddF 2, firstF 0, mlF] (Sub.of (List.Sublist.refl _) (List.Sublist.refl _)) ?_
  have e7 : IntKind.i64.wrap (((mkS (d0 ++ T)).size : Int) - ((mkS (sumL [])).size : Int)) = 7 := by
    show IntKind.i64.wrap (((d0 ++ T).length : Int) - ((sumL []).length : Int)) = 7
    rw [hl, sumL_len]
    decide
  have hsz : (mkS (d0 ++ T)).size = 76 := hl
  have x1 : (mkS (d0 ++ T)).extract 0 7 = mkS d0 := by rw [mkS_ext _ 0 7 (by omega)]; congr 1
  have x2 : (mkS (d0 ++ T)).extract 7 (mkS (d0 ++ T)).size = mkS T := by
    rw [hsz, mkS_ext _ 7 76 (by omega), List.take_of_length_le (by omega)]
    congr 1
  refine ⟨7, e7, ?_⟩
  refine ⟨7, 0, rfl, rfl, by omega, Nat.zero_le _, ?_⟩
  refine ⟨7, e7, ?_⟩
  refine ⟨(mkS (d0 ++ T)).size, 7, rfl, rfl, Nat.le_refl _, by omega, ?_⟩
  rw [x1, x2]
  refine call_pu (v := .tuple #[.string (mkS (hx0 ++ [10])), .bool true]) (fun β w' hs => by
    have h := cutPfx_c w' (mkS T) (mkS [115, 117, 109, 32])
    rw [mkSo, mkSo, ← hT, pf1, pf2] at h
    rw [← hT]
    exact h) ?_
  refine call_pu (v := .string (mkS hx0)) (fun β w' hs => by
    have h := trimSfx_c w' (mkS (hx0 ++ [10])) (mkS [10]) (by show (hx0 ++ [10]).length ≤ _; rw [List.length_append, hx0_len]; decide)
    rw [mkSo, mkSo, pf4] at h
    exact h) ?_
  refine call_con [] (fun β w' hs => Unhex_c w' hx0 (by rw [hx0_len]; decide)) ?_
  rintro v Fs ⟨A, l', c, e, rfl, hd, hlc, rfl⟩
  have hu := unhex_hexB (Sha.sum d0)
  obtain rfl : e = 0 := by
    rcases hd with ⟨h, _⟩ | ⟨_, h⟩
    · exact h
    · exact absurd (hu.symm.trans h) (by simp)
  clear hd hu
  refine call_pu (v := .bool true) (fun β w' hs => by
    have h := hasSfx_c w' (mkS (hx0 ++ [10])) (mkS [10]) (by show (hx0 ++ [10]).length ≤ _; rw [List.length_append, hx0_len]; decide)
    rw [mkSo, mkSo, pf3] at h
    exact h) ?_
  refine call_pu (v := .bool true) (fun β w' hs => by
    have h := hasSfx_c w' (mkS d0) (mkS [10]) (by decide)
    rw [mkSo, mkSo, show Lib.hasSuffix d0 [10] = true from by decide] at h
    exact h) ?_
  refine call_pu (v := .string (mkS T)) (fun β w' hs => by
    have h := rollSum_c w' d0 (by decide) (hs.get 1 rfl) (hs.get 2 rfl)
    rw [hT] at h
    exact h) ?_
  refine BIf.not (BIf.dec (fun _ => ?_) (fun h => absurd rfl h))
  refine call_con [] (fun β w' hs => cnew_c w') ?_
  rintro v Fs ⟨b, m, rfl, rfl⟩
  refine call_con [0] (fun β w' hs => fill0_c w' (sto0 b m) rfl rfl (hs.mem.take (js := [0, 4]) rfl)) ?_
  rintro v Fs ⟨rfl, S', hb, ht, hl0, rfl⟩
  replace hb : S'.b = b := hb
  refine call_con [0] (R := fun v Fs => v = .string (mkS (d0 ++ T)) ∧ Fs = [stoF S']) (fun β w' hs => by
    have h := dump0_c w' S' ht hl0 (hs.mem.take (js := [0, 2, 3]) rfl)
    rw [hT, hb] at h
    exact h) ?_
  rintro v Fs ⟨rfl, rfl⟩
  refine BIf.not (BIf.dec (fun _ => ?_) (fun h => absurd rfl h))
  intro β w' hs
  exact hs.fin [0] ⟨S', by rw [hb]; rfl, ht, hl0, rfl⟩
theorem awake15_c (w : World) (hm : Mem w [oddF 2, firstF 0, mlF, oddF 1]) : Pu Tryz.prog n_ostiarylaw15_awake #[] w (.bool true) := by
  have g := good_ostiarylaw15_awake w (Un [])
  obtain ⟨T, hT⟩ : ∃ T, sumL d0 = T := ⟨_, rfl⟩
  refine con_go (cx := cx_ostiarylaw15_awake w (Un [])) g b_ostiarylaw15_awake [] [oddF 2, firstF 0, mlF, oddF 1] hm ?_
  refine call_con [] (fun β w' hs => cnew_c w') ?_
  rintro v Fs ⟨b, m, rfl, rfl⟩
  refine call_con [0] (R := fun v Fs => v = .string (mkS (d0 ++ T)) ∧ Fs = [stoF (sto0 b m)]) (fun β w' hs => by
    have h := dump0_c w' (sto0 b m) rfl rfl (hs.mem.take (js := [0, 1, 2]) rfl)
    rw [hT] at h
    exact h) ?_
  rintro v Fs ⟨rfl, rfl⟩
  refine call_con [] (fun β w' hs => load0T_c w' T hT (hs.mem.take (js := [1, 2, 3]) rfl)) ?_
  rintro v Fs ⟨S, rfl, ht, hl0, rfl⟩
  refine call_pu (v := .string (mkS (d0 ++ T))) (fun β w' hs => by
    have h := rSealed_c w' d0 (by decide) (hs.get 5 rfl)
    rw [hT] at h
    exact h) ?_
  refine BIf.dec (fun _ => ?_) (fun h => absurd rfl h)
  refine call_con [0] (R := fun v Fs => v = .string (mkS (d0 ++ T)) ∧ Fs = [stoF S]) (fun β w' hs => by
    have h := dump0_c w' S ht hl0 (hs.mem.take (js := [0, 2, 3]) rfl)
    rw [hT] at h
    exact h) ?_
  rintro v Fs ⟨rfl, rfl⟩
  intro β w' hs
  refine hs.fin [] ⟨?_, rfl⟩
  show Value.bool (decide (mkS (d0 ++ T) = mkS (d0 ++ T))) = _
  simp
theorem cutTextB_c (w : World) (s : ByteArray) (k : Nat) (_hk : k ≤ 1000000) : Pu Tryz.prog n_ostiaryref01_CutText #[.string s, .int .i64 k] w (.string (mkS (s.data.toList.take k))) := by
  refine pu_of (calls_of_sx (cx := cx_ostiaryref01_CutText w None_) (good_ostiaryref01_CutText w None_) b_ostiaryref01_CutText rfl rfl (β := Va.z) [.c (.v (.string s)), .c (.v (.int .i64 k))] 0 [] [] rfl rfl (Sat.start rfl) ?_)
  refine ⟨((min s.size k : Nat) : Int), by dsimp only; omega, ?_⟩
  refine ⟨min s.size k, 0, rfl, rfl, by omega, Nat.zero_le _, ?_⟩
  intro β w' hs
  refine ⟨?_, hs.chg⟩
  have e : s.data.toList.take k = s.data.toList.take (min s.size k) := by
    rw [List.take_eq_take_min, show s.data.toList.length = s.size from rfl, Nat.min_comm]
  rw [e, ← mkS_take, mkS_of]
  rfl
theorem rollLinesL_c (w : World) (s : ByteArray) (u : UInt8) (hm : Mem w [oddF 2, firstF 0, mlF, oddF 1]) : Con Tryz.prog n_ostiarylaw15_RollLines #[.string s, .int .u8 u.toNat] w [] fun v Fs => v = .bool true ∧ Fs = [] := by
  have g := good_ostiarylaw15_RollLines w (Un [])
  refine con_go (cx := cx_ostiarylaw15_RollLines w (Un [])) g b_ostiarylaw15_RollLines [.c (.v (.string s)), .c (.v (.int .u8 u.toNat))] [oddF 2, firstF 0, mlF, oddF 1] hm ?_
  refine call_pu (fun β w' hs => awake15_c w' (hs.mem.take (js := [0, 1, 2, 3]) rfl)) ?_
  refine call_pu (fun β w' hs => cutTextB_c w' s 200 (by decide)) ?_
  have hl : (s.data.toList.take 200).length ≤ 200 := by rw [List.length_take]; omega
  generalize s.data.toList.take 200 = t at hl ⊢
  refine call_con [] (fun β w' hs => rLines_c w' t (by omega)) ?_
  rintro v Fs ⟨ad, c, X, rfl, hXo, hXp, rfl⟩
  refine ⟨by first | decide | omega, ?_⟩
  refine ⟨((u.toNat % 5 : Nat) : Int), Int.ofNat_tmod _ _, ?_⟩
  refine ⟨_, wrap_i64 (by omega) (by omega), ?_⟩
  obtain ⟨k, hk, hk1⟩ : ∃ k : Nat, k = 1 + u.toNat % 5 ∧ 0 < k ∧ k ≤ 5 := ⟨_, rfl, by omega, by omega⟩
  refine ⟨(k : Int), by rw [wrap_i64 (by omega) (by omega)]; omega, ?_⟩
  refine call_con [] (fun β w' hs => rollLines_c w' (mkS t)) ?_
  rintro v Fs ⟨bx, rfl, rfl⟩
  refine range_rule (α := List UInt8) (ι := Nat) (κ := Nat) g rfl (cv := [.pointer (some ⟨bx, 0, none⟩)]) rfl (by kernel_rfl) 4 (Nat.le_refl 4) (fun pre i => i = pre.length ∧ i < k) (fun i => [⟨3, 3, [.v (.int .i64 (i : Int))]⟩, ⟨2, 3, [.v (.int .i64 (k : Int))]⟩, ⟨1, 32, [.v (.slice (some ad) (lnL t).length c)]⟩, ⟨0, 4, [.v (.bool false)]⟩]) (fun _ => [X]) (fun _ => ⟨hXo, trivial⟩) (fun e pre i => e = .exit 0 ∧ i = k ∧ i ≤ (lnL t).length) (fun i => [⟨3, 3, [.v (.int .i64 (i : Int))]⟩, ⟨2, 3, [.v (.int .i64 (k : Int))]⟩, ⟨1, 32, [.v (.slice (some ad) (lnL t).length c)]⟩, ⟨0, 4, [.v (.bool false)]⟩]) (fun _ => [X]) (fun _ => ⟨hXo, trivial⟩) [bkF bx ty_string [.string (mkS t)]] [mlF] [] ⟨rfl, trivial⟩ (fun g h => by cases h) 0 ⟨rfl, hk1.1⟩ (fun β w hs => ⟨β, Agr.refl _ _, hs.perm [0, 4, 1]⟩) (insLn (lnL t)) (fun xs Fs' => xs = lnL t ∧ Fs' = []) (fun pre Fs' => Fs' = []) (fun l w f0 R J Jx h1 h2 h3 h4 h5 => (lines_it l w bx t (by omega) f0 R J Jx h1 h2 h3 h4 h5).mono fun _ _ h => h) ?_ ?_ ?_
  · rintro i pre x args X' W S0 l0 bs pn pn' hbs ⟨rfl, hik⟩ ⟨rfl, rfl, hx⟩
    have hpl : pre.length < (lnL t).length := (List.getElem?_eq_some_iff.1 hx).1
    refine ⟨_, rfl, ?_⟩
    refine ⟨(((pre.length + 1) : Nat) : Int), by rw [wrap_i64 (by omega) (by omega)]; rfl, ?_⟩
    refine BIf.not (BIf.dec (fun _ => ?_) (fun h => absurd (show (↑(pre.length + 1) : Int) = (↑(pre.length + 1) : Int) by omega) h))
    refine BIf.dec (fun q => absurd (show (((lnL t).length : Nat) : Int) < ((pre.length + 1 : Nat) : Int) from q) (by omega)) (fun _ => ?_)
    refine ⟨((pre.length : Nat) : Int), by rw [wrap_i64 (by omega) (by omega)]; omega, ?_⟩
    refine ⟨ad, pre.length, rfl, rfl, hpl, ?_⟩
    refine ⟨.string (mkS x), fun β w' hs => ?_, ?_⟩
    · exact Rd.cell1 (hXp _ (hs.get 1 rfl)) (by simp [hx])
    refine BIf.not (BIf.dec (fun _ => ?_) (fun h => absurd rfl h))
    have hpl1 : (pre ++ [x]).length = pre.length + 1 := by simp
    refine BIf.dec (fun q => ?_) (fun q => ?_)
    · have q0 : ((pre.length + 1 : Nat) : Int) = (k : Int) := q
      exact ⟨pre.length + 1, ⟨rfl, by omega, by omega⟩, Ent.mk' trivial rfl (fun β w' hs => hs.perm [1])⟩
    · have q0 : ¬ ((pre.length + 1 : Nat) : Int) = (k : Int) := q
      exact ⟨pre.length + 1, ⟨hpl1.symm, by omega⟩, Ent.mk' trivial rfl (fun β w' hs => hs.perm [1])⟩
  · rintro xs i Fs ⟨rfl, hik⟩ ⟨rfl, rfl⟩
    refine ⟨((lnL t).length : Int), by show min (k : Int) ((lnL t).length : Int) = _; omega, ?_⟩
    intro β w' hs
    refine (hs.keepB (List.nil_sublist _)).fin [] ⟨?_, rfl⟩
    show Value.bool (decide (((lnL t).length : Int) = ((lnL t).length : Int))) = _
    simp
  · rintro e pre i Fs ⟨rfl, rfl, hle⟩ rfl
    refine ⟨(i : Int), by show min (i : Int) ((lnL t).length : Int) = _; omega, ?_⟩
    intro β w' hs
    refine (hs.keepB (List.nil_sublist _)).fin [] ⟨?_, rfl⟩
    show Value.bool (decide ((i : Int) = (i : Int))) = _
    simp
end Go.Proofs.YtloeaiafphkjnaaGreatDoor.Sx

namespace Go.Proofs.YtloeaiafphkjnaaGreatDoor.Sx
open Go
theorem handed_shaped {H : Type} {enc : TypeId × Value → H} {a : Assume} {C : Checked} {os : Os} {f : FuncId} {fn : Func} {s : ChangeSpec} {conds : List PathCond} {apart fresh handsOn again : Bool} {X : World → Array Value → Prop}
    (hX : ∀ (w w' : World) (args : Array Value), w.heap = w'.heap → X w args → X w' args)
    (own : ownKnob C.prog.godebug = none) (started : os.Started) (noInit : C.prog.inits.idxOf? f = none) (hfn : C.prog.funcs[f]? = some fn)
    (witness : ∃ (w : World) (tape : Tape) (i : Input), w.os = os ∧ (w.forCall tape i).Shaped C.prog ∧ i.vars = [] ∧ Input.okWide C.prog (w.forCall tape i) .any w.heap.size f i ∧
      ((s.pre enc C.prog fn conds apart (w.forCall tape i).memory i.args ∧ X (w.forCall tape i).memory i.args) ∧ sizedMet enc C.prog fn (OpenSpec.ofChange s) apart (w.forCall tape i).memory i.args) ∧ a.holds C.prog (lone (Frame.enter C.prog f i.args .normal) [] (w.forCall tape i)))
    (key : ∀ (W : World) (base : Nat) (args : Array Value) (ds gs : List (DataW H)) (before : List MemPlace),
      (∀ (j : Nat) t v, fn.params[j]? = some t → args[j]? = some v → Value.okWide C.prog W .any base t v) →
      DataW.Whole enc C.prog fn.params.toList s.vars apart W args.toList ds gs before → X W args → W.ShapedOpen C.prog →
      Calls C.prog f args W fun e W' => ∃ v, e = .returned v ∧ s.post enc C.prog fn apart fresh handsOn again W args v W') :
    ReturnsInHanded a C os f .any (fun w args => (s.pre enc C.prog fn conds apart w args ∧ X w args) ∧ sizedMet enc C.prog fn (OpenSpec.ofChange s) apart w args) (s.post enc C.prog fn apart fresh handsOn again) := by
  refine returnsInHanded_of_calls own started noInit witness (fun w tape i _ hshape _ hin hp _ => ?_)
  obtain ⟨_, _, _, fn2, hfn2, _, _, _, _, hvals⟩ := hin
  obtain rfl : fn2 = fn := Option.some.inj (hfn2.symm.trans hfn)
  obtain ⟨⟨⟨ds, gs, before, hwh, _⟩, hx⟩, _⟩ := hp
  refine (key (w.forCall tape i) w.heap.size i.args ds gs before hvals (DataW.Whole.of_heap (w' := w.forCall tape i) (by rfl) hwh) (hX _ _ _ (by rfl) hx) hshape).mono fun e W' ⟨v, he, hq⟩ => ?_
  subst he
  exact ChangeSpec.post_blind hq
theorem ml_of {w : World} (h : w.ShapedOpen Tryz.prog) : mlF.p w :=
  cell_of_shapedOpen_int (P := Tryz.prog) (g := 3) (t := ty_int) (zero := #[.int .i64 0]) h (of_decide_eq_true (by kernel_rfl)) (by kernel_rfl) rfl (by kernel_rfl) (by kernel_rfl) (ok3.real (d := .int .i64) rfl rfl)
theorem ml_ok {w : World} (h : mlF.p w) : RoOk w mlF := by
  refine ⟨rfl, h, fun k hk => ?_⟩
  obtain ⟨m, hm⟩ := h
  obtain rfl : k = 3 := hk
  unfold World.cell? at hm
  rcases Nat.lt_or_ge 3 w.heap.size with q | q
  · exact q
  · simp [Array.getElem?_eq_none q] at hm
end Go.Proofs.YtloeaiafphkjnaaGreatDoor.Sx

namespace Go.Proofs.YtloeaiafphkjnaaGreatDoor.Sx
open Go Go.RowKit
theorem below_of {w w' : World} (h : Chg None_ w w') : Below w.heap.size w w' :=
  ⟨h.os, h.tape, h.output, h.size, fun k hk => h.same k hk (fun q => q)⟩
end Go.Proofs.YtloeaiafphkjnaaGreatDoor.Sx

namespace Go.Proofs.YtloeaiafphkjnaaGreatDoor.Sx
open Go
theorem rd_of_ints {H : Type} {enc : TypeId × Value → H} {P : Program} {W : World} {base : Nat} {sp : Nat → Bool} {held : Bool} {fuel g n : Nat} {t e : TypeId} {k : IntKind} {cs : Array Value} {zs : List Int} {q : List MemPlace}
    (ht : P.underlying t = some (.array n e)) (he : P.underlying e = some (.int k)) (hc : P.cellsOf e = 1) (hd : DataW.trod enc P W base sp held fuel t cs.toList = some (.agg (zs.map fun z => .lit (.int k z)), q)) (hcell : ∀ j, W.cell? ⟨g, j, none⟩ = cs[j]?) :
    Rd 1 (some ⟨g, 0, none⟩) zs.length (zs.map (Value.int k)) W := by
  obtain ⟨xs, m, _, hx, hlen, hn, hel⟩ := DataW.trod_array ht hd
  simp only [Prod.mk.injEq, DataW.agg.injEq] at hx
  have hzn : zs.length = n := by
    have h9 := congrArg List.length hx.1
    simp only [List.length_map] at h9
    omega
  refine ⟨by simp, fun hp => ⟨_, rfl, fun j u hu => ?_⟩⟩
  rw [List.getElem?_map] at hu
  obtain ⟨z, hz, rfl⟩ := Option.map_eq_some_iff.1 hu
  have hj : j < zs.length := (List.getElem?_eq_some_iff.1 hz).1
  have h1 := hel j (by omega)
  have h2 : (xs.map (·.1))[j]? = some (.lit (.int k z)) := by rw [← hx.1, List.getElem?_map, hz]; rfl
  rw [List.getElem?_map] at h2
  obtain ⟨x, hxj, hx1⟩ := Option.map_eq_some_iff.1 h2
  rw [hxj, hc, Nat.mul_one] at h1
  obtain ⟨y, e1, e2, _⟩ := DataW.trod_int he h1
  have hy : y = z := by
    rw [e2] at hx1
    simpa using hx1
  subst hy
  rw [add_none, Nat.zero_add, hcell j, ← Array.getElem?_toList]
  have h3 := congrArg (fun l => l[0]?) e1
  simpa [List.getElem?_drop] using h3
abbrev u32s (l : List UInt32) : List Int := l.map fun x => (x.toNat : Int)
theorem rd_u32 {g : Nat} {W : World} {l : List UInt32} (h : Rd 1 (some ⟨g, 0, none⟩) (u32s l).length ((u32s l).map (Value.int .u32)) W) : Rd 1 (some ⟨g, 0, none⟩) l.length (l.map u32) W := by
  have e : (u32s l).map (Value.int .u32) = l.map u32 := by rw [List.map_map]; rfl
  rw [e, List.length_map] at h
  exact h
end Go.Proofs.YtloeaiafphkjnaaGreatDoor.Sx

namespace Go.Proofs.YtloeaiafphkjnaaGreatDoor.Sx
open Go
mutual
def lits {H : Type} : DataW H → Option (List Value)
  | .lit (.int k n) => some [.int k n]
  | .lit (.bool b) => some [.bool b]
  | .lit (.string l) => some [.string ⟨l.toArray⟩]
  | .agg ps => litsL ps
  | _ => none
def litsL {H : Type} : List (DataW H) → Option (List Value)
  | [] => some []
  | d :: r => match lits d, litsL r with
    | some a, some b => some (a ++ b)
    | _, _ => none
end
def contig (P : Program) : List Field → Nat → Option Nat
  | [], o => some o
  | f :: r, o => if f.offset = o then contig P r (o + P.cellsOf f.type) else none
def flatB (P : Program) : Nat → TypeId → Bool
  | 0, _ => false
  | n + 1, t => match P.underlying t with
    | some (.int _) | some .bool | some .string => true
    | some (.struct fs) => (match contig P fs.toList 0 with | some e => Nat.beq e (P.cellsOf t) | none => false) && fs.toList.all fun f => flatB P n f.type
    | some (.array m e) => Nat.beq (m * P.cellsOf e) (P.cellsOf t) && flatB P n e
    | _ => false
section
variable {H : Type} {enc : TypeId × Value → H} {P : Program} {w : World} {base : Nat} {sp : Nat → Bool} {held : Bool}
theorem fields_cat (m : Nat) (cs : List Value) : ∀ (fs : List Field) (xs : List (DataW H × List MemPlace)) (o e : Nat), contig P fs o = some e → xs.length = fs.length →
    (∀ (i : Nat) (f : Field), fs[i]? = some f → DataW.trod enc P w base sp held m f.type ((cs.drop f.offset).take (P.cellsOf f.type)) = xs[i]?) →
    (∀ f ∈ fs, ∀ cs' x, DataW.trod enc P w base sp held m f.type cs' = some x → lits x.1 = some cs') → o ≤ e ∧ litsL (xs.map (·.1)) = some ((cs.drop o).take (e - o))
  | [], xs, o, e, hc, hl, _, _ => by
    obtain rfl := Option.some.inj hc
    obtain rfl := List.eq_nil_of_length_eq_zero hl
    exact ⟨Nat.le_refl _, by simp [litsL]⟩
  | f :: r, [], o, e, hc, hl, _, _ => by cases hl
  | f :: r, x :: xs, o, e, hc, hl, h, ih => by
    simp only [contig] at hc
    split at hc
    · rename_i ho
      have h0 := h 0 f rfl
      rw [ho] at h0
      have h1 := ih f List.mem_cons_self _ x h0
      obtain ⟨h2, h3⟩ := fields_cat m cs r xs _ e hc (by simpa using hl) (fun i g hg => by
        have := h (i + 1) g (by simpa using hg)
        simpa using this) (fun g hg => ih g (List.mem_cons_of_mem _ hg))
      refine ⟨by omega, ?_⟩
      simp only [List.map_cons, litsL, h1, h3]
      congr 1
      have e1 : e - o = P.cellsOf f.type + (e - (o + P.cellsOf f.type)) := by omega
      rw [e1, List.take_add, List.drop_drop]
    · cases hc
theorem elems_cat (m k : Nat) (ty : TypeId) (cs : List Value) (hk : P.cellsOf ty = k) : ∀ (n : Nat) (xs : List (DataW H × List MemPlace)) (o : Nat), xs.length = n →
    (∀ i, i < n → DataW.trod enc P w base sp held m ty ((cs.drop (o + i * k)).take k) = xs[i]?) →
    (∀ cs' x, DataW.trod enc P w base sp held m ty cs' = some x → lits x.1 = some cs') → litsL (xs.map (·.1)) = some ((cs.drop o).take (n * k))
  | 0, xs, o, hl, _, _ => by
    obtain rfl := List.eq_nil_of_length_eq_zero hl
    simp [litsL]
  | n + 1, [], o, hl, _, _ => by cases hl
  | n + 1, x :: xs, o, hl, h, ih => by
    have h0 := h 0 (Nat.succ_pos _)
    rw [Nat.zero_mul, Nat.add_zero] at h0
    have h1 := ih _ x h0
    have h3 := elems_cat m k ty cs hk n xs (o + k) (by simpa using hl) (fun i hi => by
      have := h (i + 1) (by omega)
      rw [Nat.succ_mul, Nat.add_comm (i * k) k, ← Nat.add_assoc] at this
      simpa using this) ih
    simp only [List.map_cons, litsL, h1, h3]
    congr 1
    rw [Nat.succ_mul, Nat.add_comm (n * k) k, List.take_add, List.drop_drop]
theorem cells_of : ∀ (k m : Nat) (t : TypeId) (cs : List Value) (x : DataW H × List MemPlace), flatB P k t = true → DataW.trod enc P w base sp held m t cs = some x → lits x.1 = some cs
  | 0, _, _, _, _, h, _ => by cases h
  | k + 1, m, t, cs, x, h, hd => by
    unfold flatB at h
    split at h
    · rename_i ht
      obtain ⟨n, rfl, rfl, _⟩ := DataW.trod_int ht hd
      rfl
    · rename_i ht
      obtain ⟨n, rfl, rfl⟩ := DataW.trod_bool ht hd
      rfl
    · rename_i ht
      obtain ⟨s, rfl, rfl, _⟩ := DataW.trod_string ht hd
      cases s with | mk a => simp [lits, ByteArray.toList_eq]
    · rename_i fs ht
      obtain ⟨xs, n, rfl, rfl, hl, hxl, hel⟩ := DataW.trod_struct ht hd
      simp only [Bool.and_eq_true] at h
      obtain ⟨hcon, hall⟩ := h
      cases hc : contig P fs.toList 0 with
      | none => rw [hc] at hcon; cases hcon
      | some e =>
        rw [hc] at hcon
        have he := Nat.eq_of_beq_eq_true hcon
        subst he
        have := (fields_cat n cs fs.toList xs 0 _ hc (by simpa using hxl) (fun i f hf => hel i f (by simpa using hf)) (fun f hf cs' x' hx => cells_of k n f.type cs' x' (List.all_eq_true.1 hall f hf) hx)).2
        simp only [lits, this, List.drop_zero, Nat.sub_zero]
        rw [← hl, List.take_length]
    · rename_i n e ht
      obtain ⟨xs, m', rfl, rfl, hl, hxl, hel⟩ := DataW.trod_array ht hd
      simp only [Bool.and_eq_true] at h
      have he := Nat.eq_of_beq_eq_true h.1
      have := elems_cat m' (P.cellsOf e) e cs rfl n xs 0 hxl (fun i hi => by rw [Nat.zero_add]; exact hel i hi) (fun cs' x' hx => cells_of k m' e cs' x' h.2 hx)
      simp only [lits, this, List.drop_zero, he]
      rw [← hl, List.take_length]
    · cases h
theorem rd_of_laid {g n size m : Nat} {t : TypeId} {cs : Array Value} {d : DataW H} {q : List MemPlace} {vs : List Value} (hf : flatB P 5 t = true) (hv : lits d = some vs) (hn : vs.length = n * size)
    (hd : DataW.trod enc P w base sp held m t cs.toList = some (d, q)) (hcell : ∀ j, w.cell? ⟨g, j, none⟩ = cs[j]?) : Rd size (some ⟨g, 0, none⟩) n vs w := by
  have h := cells_of 5 m t _ _ hf hd
  rw [hv] at h
  have h' := Option.some.inj h
  refine ⟨hn, fun _ => ⟨_, rfl, fun j u hu => ?_⟩⟩
  rw [add_none, Nat.zero_add, hcell j, ← Array.getElem?_toList, ← h']
  exact hu
end
end Go.Proofs.YtloeaiafphkjnaaGreatDoor.Sx
