/- Texts joined: Sha3, Sha4, Sha5, KyI, ColI, SrU, Shelf, SrU2, FmU, SxTri, Dec, Sha6, R1, Be, Sha7, Sha8, Sha9, Pd0, Pd4, Pd5, Box1, RgL, BoxL, Bk1, Bld, Bk2, Box2, Join, Bk3, Bk4, Bk5, Bk6, Bk7, Bk8, Bk9, RgK, MpI, StepG, SumJ, HmL, Rep, Rep2, RoF, Hm1, Srt, Xor, Hm2, Hm3, Hsh, Hsh2, Hsh3, Mac, Pie, Pie2, Str, Trn, Turn, Ak5, Ak6, BxP, Rf5. -/
import Derived.Test.YtjlpcjpeljlbeaaGreatDoorMRingPlays2
import Derived.Shelf.Strings.Builder1
import Derived.Shelf.Strings.Builder2
import Derived.Shelf.Small.Bits
import Derived.Shelf.Small.Strs
import Derived.Shelf.Small.Wraps
import Derived.Shelf.Strconv.Itoa0
import Derived.Shelf.Strconv.Itoa1
import Derived.Shelf.LaysM
import Derived.Shelf.Strings.Search1
import Derived.Shelf.Sort.Plain
import Derived.Shelf.Strings.Prefix
import Derived.Shelf.Bits.Mul64
import Derived.Shelf.Slices.Turned
import Derived.Ground.Names2Prog
import Derived.Shelf.Slices.ReverseS
import Derived.Shelf.Slices.Clone
import Derived.Shelf.Slices.SearchI
import Derived.Shelf.Slices.Delete
import Derived.Shelf.Slices.Cells
import Derived.Shelf.Bytes.SlIndexSmall
import Derived.Shelf.Slices.Empties
import Derived.Shelf.Bytes.SlIndexAt
import Derived.Shelf.Bytes.SlSearch0
import Derived.Ground.SlbCloneProg
import Derived.Shelf.Bytes.SlClone
import Derived.Ground.SlbNamesProg
import Derived.Shelf.Bytes.SlJoin
import Derived.Ground.SlgnProg
import Derived.Shelf.SlicesE.Clone
import Derived.Shelf.Bytes.SlEqualAll
import Derived.Shelf.Bytes.Small
import Derived.Shelf.Bytes.IndexByte
import Derived.Test.YtjlpcjpeljlbeaaGreatDoorProg
import Derived.Lib.MakeNoZero
import Derived.Laws.Externs
import Derived.Sort.OwnSortedInts
set_option linter.unusedVariables false
set_option linter.unusedSimpArgs false
/- A block's step. -/
namespace Go.Proofs.YtjlpcjpeljlbeaaGreatDoor.Sx
open Go Sha
attribute [local irreducible] Calls

/-- The table of the rounds' words. -/
def oddF (g : Nat) : Fact := rdF 1 (some ⟨g, 0, none⟩) 64 (K.map u32)
/-- A state's block. -/
def stF (b ty : Nat) (s : S8) : Fact := bkF b ty (s.l.map u32)

theorem rounds_succ (s : S8) (w : List UInt32) (n : Nat) : rounds s w (n + 1) = (rounds s w n).round (K.getD n 0) (w.getD n 0) := rfl
theorem K_len : K.length = 64 := rfl
theorem odd_cell {g : Nat} {w : World} (h : (oddF g).p w) {i : Nat} (hi : i < 64) : w.cell? ((⟨g, 0, none⟩ : Addr).add (i * 1)) = some (u32 (K.getD i 0)) := by
  obtain ⟨_, h2⟩ := h
  obtain ⟨ad, q, hc⟩ := h2 (by omega)
  obtain rfl := Option.some.inj q
  rw [Nat.mul_one]
  refine hc i _ ?_
  rw [List.getElem?_map, List.getElem?_eq_getElem (by rw [K_len]; exact hi)]
  simp [List.getD, List.getElem?_eq_getElem (show i < K.length by rw [K_len]; exact hi)]

def mix (s t : S8) (i : Nat) : List SL := ((s.add t).l.take i ++ s.l.drop i).map sl32
theorem mix_len (s t : S8) : ∀ i, i < 9 → (mix s t i).length = 8
  | 0, _ => rfl | 1, _ => rfl | 2, _ => rfl | 3, _ => rfl | 4, _ => rfl | 5, _ => rfl | 6, _ => rfl | 7, _ => rfl | 8, _ => rfl
  | n + 9, h => by omega
theorem mix_get (s t : S8) : ∀ i, i < 8 → nth (mix s t i) i = some (sl32 (s.l.getD i 0))
  | 0, _ => rfl | 1, _ => rfl | 2, _ => rfl | 3, _ => rfl | 4, _ => rfl | 5, _ => rfl | 6, _ => rfl | 7, _ => rfl
  | n + 8, h => by omega
theorem mix_set (s t : S8) : ∀ i, i < 8 → putAll (mix s t i) i [sl32 (s.l.getD i 0 + t.l.getD i 0)] = mix s t (i + 1)
  | 0, _ => rfl | 1, _ => rfl | 2, _ => rfl | 3, _ => rfl | 4, _ => rfl | 5, _ => rfl | 6, _ => rfl | 7, _ => rfl
  | n + 8, h => by omega
theorem l_get (t : S8) : ∀ i, i < 8 → (t.l.map sl32)[i]? = some (sl32 (t.l.getD i 0))
  | 0, _ => rfl | 1, _ => rfl | 2, _ => rfl | 3, _ => rfl | 4, _ => rfl | 5, _ => rfl | 6, _ => rfl | 7, _ => rfl
  | n + 8, h => by omega
theorem step_c (w : World) (b ty : Nat) (s : S8) (A : Option Addr) (l : List UInt8) (c : Nat) (hm : Mem w [stF b ty s, bsF A l, oddF 2]) (hc : l.length ≤ c) (hl : 64 ≤ l.length) (hcm : c ≤ maxLen) :
    Con Tryz.prog n_sha_state_step #[.pointer (some ⟨b, 0, none⟩), .slice A l.length c] w [stF b ty s] fun v Fs => v = .tuple #[] ∧ Fs = [stF b ty (Sha.step s l)] := by
  obtain ⟨ws, hws⟩ : ∃ ws, W l = ws := ⟨_, rfl⟩
  have hwl : ws.length = 64 := by rw [← hws]; exact W_len l
  have g := good_sha_state_step w (Un [stF b ty s]) (bs := [b])
  have hs0 : Sat (cx_sha_state_step w (Un [stF b ty s]) [b]) (Va.of fun _ => b) 1 [] [stF b ty s, bsF A l, oddF 2] w :=
    hm.sat rfl (ownIn (Gs := [stF b ty s]) (Rs := [bsF A l, oddF 2]) (fun g hg => by
      rcases List.mem_cons.1 hg with rfl | hg
      · rfl
      · obtain rfl := List.mem_singleton.1 hg; rfl)) ⟨Nat.le_refl _, fun i hi => by
        have hi1 : i < 1 := hi
        have hi0 : i = 0 := by omega
        rw [hi0]; rfl⟩
  have hs1 := hs0.toBk 0 rfl 0 Nat.zero_lt_one rfl
  refine con_of_sx (cx := cx_sha_state_step w (Un [stF b ty s]) [b]) g b_sha_state_step rfl rfl (β := Va.of fun _ => b) [.c (.p 0 0), .c (.v (.slice A l.length c))] 1 [⟨0, ty, s.l.map sl32⟩] [bsF A l, oddF 2] rfl rfl (by rw [List.map_map] at hs1; exact hs1) ?_
  refine call_pu (fun β w' hs => spread_c w' A l c (hs.get 0 rfl) hc hl hcm) ?_
  rw [hws]
  have ea : ofValue (.agg (ws.map u32).toArray) = .agg (ws.map sl32) := by simp only [ofValue, List.map_map]; rfl
  rw [ea]
  conv => whnf
  generalize h1 : Nat.beq _ _ = b1
  generalize h2 : allOne _ = b2
  obtain rfl : b1 = true := h1.symm.trans (by rw [List.length_map, hwl]; rfl)
  obtain rfl : b2 = true := h2.symm.trans (arr_one ws)
  clear h1 h2
  conv => whnf
  generalize h1 : Nat.ble _ _ = b1
  obtain rfl : b1 = true := h1.symm.trans (by rw [List.length_map, hwl]; rfl)
  clear h1
  refine draw_rule g p_sha_state_step_1 (by kernel_rfl) _ _ Sub.refl ?_
  refine ⟨0, rfl, by decide, ?_⟩
  refine ⟨1, rfl, by decide, ?_⟩
  refine ⟨2, rfl, by decide, ?_⟩
  refine ⟨3, rfl, by decide, ?_⟩
  refine ⟨4, rfl, by decide, ?_⟩
  refine ⟨5, rfl, by decide, ?_⟩
  refine ⟨6, rfl, by decide, ?_⟩
  refine ⟨7, rfl, by decide, ?_⟩
  have hp : putAll (ti344.zero.map SL.v) 0 (ws.map sl32) = ws.map sl32 := putAll_full (by rw [List.length_map, hwl]; rfl)
  refine loop_rule (ι := Nat) 2 (fun i => [(0, .c (.p 0 0)), (4, .c (.p 1 0)), (5, .c (sl32 (rounds s ws i).a)), (6, .c (sl32 (rounds s ws i).b)), (7, .c (sl32 (rounds s ws i).c)), (8, .c (sl32 (rounds s ws i).d)), (9, .c (sl32 (rounds s ws i).e)), (10, .c (sl32 (rounds s ws i).f)), (11, .c (sl32 (rounds s ws i).g)), (12, .c (sl32 (rounds s ws i).h)), (55, .c (.v (.int .i64 i)))])
    (fun _ => [⟨1, 344, ws.map sl32⟩, ⟨0, ty, s.l.map sl32⟩]) (fun _ => [bsF A l, oddF 2])
    (fun i => i ≤ 64) (fun i => 64 - i) 0 (Nat.zero_le _) (Ent.mk' ⟨rfl, rfl, rfl, rfl, rfl, rfl, rfl, rfl, rfl, rfl, rfl, trivial⟩ rfl (fun β w' hs => by rw [← hp]; exact hs)) g ?_
  intro i hi
  obtain ⟨r, hr⟩ : ∃ r, rounds s ws i = r := ⟨_, rfl⟩
  rw [hr]
  obtain ⟨xa, xb, xc, xd, xe, xf, xg, xh⟩ := r
  refine BIf.dec (fun hlt => ?_) (fun hge => ?_)
  · have hlt : i < 64 := by omega
    refine call_pu (fun β w' hs => rotl_c w' xe 6 (by omega) (by omega)) ?_
    refine call_pu (fun β w' hs => rotl_c w' xe 11 (by omega) (by omega)) ?_
    refine ⟨_, xor32 _ _, ?_⟩
    refine call_pu (fun β w' hs => rotl_c w' xe 25 (by omega) (by omega)) ?_
    refine ⟨_, xor32 _ _, ?_⟩
    refine ⟨_, and32 _ _, _, not32 _, _, and32 _ _, _, xor32 _ _, ?_⟩
    refine draw_rule g p_sha_state_step_7 (by kernel_rfl) _ _ Sub.refl ?_
    refine ⟨_, add32 _ _, _, add32 _ _, i, rfl, hlt, u32 (K.getD i 0), fun β w' hs => odd_cell (hs.get 1 rfl) hlt, _, add32 _ _, i, rfl, hlt, ?_⟩
    conv => whnf
    generalize hn : nth _ _ = o
    obtain rfl : o = some (sl32 (ws.getD i 0)) := hn.symm.trans (by
      show nth (ws.map sl32) (0 + i * 1) = _
      rw [nth_eq, Nat.zero_add, Nat.mul_one, List.getElem?_map, List.getElem?_eq_getElem (by omega)]
      simp [List.getD, List.getElem?_eq_getElem (show i < ws.length by omega)])
    clear hn
    refine ⟨_, add32 _ _, ?_⟩
    refine call_pu (fun β w' hs => rotl_c w' xa 2 (by omega) (by omega)) ?_
    refine call_pu (fun β w' hs => rotl_c w' xa 13 (by omega) (by omega)) ?_
    refine ⟨_, xor32 _ _, ?_⟩
    refine call_pu (fun β w' hs => rotl_c w' xa 22 (by omega) (by omega)) ?_
    refine ⟨_, xor32 _ _, ?_⟩
    refine ⟨_, and32 _ _, _, and32 _ _, _, xor32 _ _, _, and32 _ _, _, xor32 _ _, ?_⟩
    refine ⟨_, add32 _ _, _, add32 _ _, _, add32 _ _, ?_⟩
    refine ⟨((i + 1 : Nat) : Int), by rw [wrap_i64 (by omega) (by omega)]; rfl, ?_⟩
    refine ⟨i + 1, by omega, by omega, Ent.same ?_ rfl⟩
    rw [rounds_succ, hr]
    exact ⟨rfl, rfl, rfl, rfl, rfl, rfl, rfl, rfl, rfl, rfl, rfl, trivial⟩
  · obtain ⟨t, ht⟩ : ∃ t, (⟨xa, xb, xc, xd, xe, xf, xg, xh⟩ : S8) = t := ⟨_, rfl⟩
    have hst : Sha.step s l = s.add t := by
      have : i = 64 := by omega
      rw [Sha.step, hws, ← ht, ← hr, this]
    rw [hst]
    refine loop_rule (ι := Nat) 2 (fun i => [(0, .c (.p 0 0)), (129, .agg [sl32 xa, sl32 xb, sl32 xc, sl32 xd, sl32 xe, sl32 xf, sl32 xg, sl32 xh]), (130, .c (.v (.int .i64 i)))])
      (fun i => [⟨1, 344, ws.map sl32⟩, ⟨0, ty, mix s t i⟩]) (fun _ => [bsF A l, oddF 2])
      (fun i => i ≤ 8) (fun i => 8 - i) 0 (Nat.zero_le _) (Ent.same ⟨rfl, rfl, rfl, trivial⟩ rfl) g ?_
    intro j hj
    refine BIf.dec (fun hlt => ?_) (fun hge => ?_)
    · have hlt : j < 8 := by omega
      refine ⟨j, sl32 (t.l.getD j 0), rfl, hlt, by rw [← ht]; show ((⟨xa, xb, xc, xd, xe, xf, xg, xh⟩ : S8).l.map sl32)[j * 1]? = _; rw [Nat.mul_one]; exact l_get _ j hlt, ?_⟩
      refine draw_rule g p_sha_state_step_15 (by kernel_rfl) [] [bsF A l, oddF 2] (Sub.of (List.nil_sublist _) (List.Sublist.refl _)) ?_
      refine ⟨j, rfl, hlt, ?_⟩
      conv => whnf
      generalize hn : nth _ _ = o
      obtain rfl : o = some (sl32 (s.l.getD j 0)) := hn.symm.trans (by
        show nth (mix s t j) (0 + j * 1) = _
        rw [Nat.zero_add, Nat.mul_one]
        exact mix_get s t j hlt)
      clear hn
      refine ⟨Sub.of (List.nil_sublist _) (List.Sublist.refl _), _, add32 _ _, j, rfl, hlt, ?_⟩
      conv => whnf
      generalize h1 : Nat.ble _ _ = b1
      obtain rfl : b1 = true := h1.symm.trans (by
        show Nat.ble (0 + j * 1 + 1) (mix s t j).length = true
        rw [mix_len s t j (by omega), Nat.ble_eq]; omega)
      clear h1
      refine ⟨Sub.of (List.nil_sublist _) (List.Sublist.refl _), ?_⟩
      refine ⟨((j + 1 : Nat) : Int), by rw [wrap_i64 (by omega) (by omega)]; rfl, ?_⟩
      refine ⟨j + 1, by omega, by omega, Ent.mk' ⟨rfl, rfl, rfl, trivial⟩ rfl (fun β w' hs => ?_)⟩
      have e1 := mix_set s t j hlt
      rw [← e1]
      have e3 : 0 + j * 1 = j := by omega
      have hs2 : Sat (cx_sha_state_step w (Un [stF b ty s]) [b]) β 2 [⟨1, 344, ws.map sl32⟩, ⟨0, ty, putAll (mix s t j) (0 + j * 1) [sl32 (s.l.getD j 0 + t.l.getD j 0)]⟩] [bsF A l, oddF 2] w' := hs
      rw [e3] at hs2
      exact hs2
    · obtain rfl : j = 8 := by omega
      intro β w' hs
      have h1 := hs.weaken (List.sublist_cons_self _ _) (List.Sublist.refl _)
      have h2 := h1.ofBk
      have hb : β 0 = b := h2.fix.2 0 (Nat.zero_lt_one)
      refine h2.fin [0] ⟨rfl, ?_⟩
      show [bkF (β 0) ty ((mix s t 8).map (SL.val β))] = [stF b ty (s.add t)]
      rw [hb]
      rfl
end Go.Proofs.YtjlpcjpeljlbeaaGreatDoor.Sx

/- A state's bytes; a number's; what stands behind a text. -/
namespace Go.Proofs.YtjlpcjpeljlbeaaGreatDoor.Sx
open Go Sha
attribute [local irreducible] Calls

theorem u8_of32 (x : UInt32) : IntKind.u8.wrap (x.toNat : Int) = (x.toUInt8.toNat : Int) := by
  rw [show IntKind.u8.wrap (x.toNat : Int) = (x.toNat : Int) % 256 by simp [IntKind.wrap, IntKind.bits, IntKind.signed], UInt32.toNat_toUInt8]
  omega
def outN (s : S8) (i : Nat) : List UInt8 := (s.l.take i).flatMap b4
theorem outN_succ (s : S8) : ∀ i, i < 8 → outN s i ++ b4 (s.l.getD i 0) = outN s (i + 1)
  | 0, _ => rfl | 1, _ => rfl | 2, _ => rfl | 3, _ => rfl | 4, _ => rfl | 5, _ => rfl | 6, _ => rfl | 7, _ => rfl
  | n + 8, h => by omega

theorem stbytes_c (w : World) (b ty : Nat) (s : S8) (hm : Mem w [stF b ty s]) :
    Con Tryz.prog n_sha_state_bytes #[.pointer (some ⟨b, 0, none⟩)] w [stF b ty s] fun v Fs => ∃ A c, v = .slice A 32 c ∧ 32 ≤ c ∧ c ≤ maxLen ∧ Fs = [stF b ty s, browF ty_uint8 A (out s) c] := by
  have g := good_sha_state_bytes w (Un [stF b ty s]) (bs := [b])
  have hs0 : Sat (cx_sha_state_bytes w (Un [stF b ty s]) [b]) (Va.of fun _ => b) 1 [] [stF b ty s] w :=
    hm.sat rfl (ownIn (Gs := [stF b ty s]) (Rs := []) (fun g hg => by cases hg)) ⟨Nat.le_refl _, fun i hi => by
        have hi1 : i < 1 := hi
        have hi0 : i = 0 := by omega
        rw [hi0]; rfl⟩
  have hs1 := hs0.toBk 0 rfl 0 Nat.zero_lt_one rfl
  rw [List.map_map] at hs1
  refine con_of_sx (cx := cx_sha_state_bytes w (Un [stF b ty s]) [b]) g b_sha_state_bytes rfl rfl (β := Va.of fun _ => b) [.c (.p 0 0)] 1 [⟨0, ty, s.l.map sl32⟩] [browF ty_uint8 none [] 0] rfl rfl (hs1.nilRow _ _) ?_
  refine loop_rule (ι := Nat × Option Addr × Nat) 1 (fun i => [(6, .c (.p 0 0)), (7, .c (.v (.int .i64 i.1))), (3, .c (.v (.slice i.2.1 (4 * i.1) i.2.2)))]) (fun _ => [⟨0, ty, s.l.map sl32⟩])
    (fun i => [rowF ty_uint8 1 (.slice i.2.1 (4 * i.1) i.2.2) (4 * i.1) ((outN s i.1).map byte)])
    (fun i => i.1 ≤ 8 ∧ 4 * i.1 ≤ i.2.2 ∧ i.2.2 ≤ maxLen) (fun i => 8 - i.1) (0, none, 0) ⟨Nat.zero_le _, Nat.zero_le _, Nat.zero_le _⟩ (Ent.same ⟨rfl, rfl, rfl, trivial⟩ rfl) g ?_
  rintro ⟨i, A, c⟩ ⟨hi, hc, hcm⟩
  simp only at hi hc hcm
  refine BIf.dec (fun hlt => ?_) (fun hge => ?_)
  · have hlt : i < 8 := by omega
    obtain ⟨x, hx⟩ : ∃ x, s.l.getD i 0 = x := ⟨_, rfl⟩
    refine ⟨i, rfl, hlt, ?_⟩
    conv => whnf
    generalize hn : nth _ _ = o
    obtain rfl : o = some (sl32 x) := hn.symm.trans (by
      show nth (s.l.map sl32) (0 + i * 1) = _
      rw [Nat.zero_add, Nat.mul_one, ← hx, nth_eq]
      exact l_get s i hlt)
    clear hn
    refine ⟨by omega, _, shr32 x 24 (by omega), _, u8_of32 _, by omega, _, shr32 x 16 (by omega), _, u8_of32 _, by omega, _, shr32 x 8 (by omega), _, u8_of32 _, _, u8_of32 _, ?_⟩
    intro b2
    refine ⟨1, 4 * i, 4 * (i + 1), (outN s i).map byte, (b4 x).map byte, _, rfl, fun β w hs => row_rd (hs.get 0 rfl), bytes_one _, by omega, rfl, by rw [maxLen_eq]; omega, by show 4 * (i + 1) * 1 ≤ _; omega, ?_⟩
    intro A' c' h1 h2 _
    refine ⟨((i + 1 : Nat) : Int), by rw [wrap_i64 (by omega) (by omega)]; rfl, ?_⟩
    refine ⟨(i + 1, A', c'), ⟨by show i + 1 ≤ 8; omega, h1, h2⟩, by show 8 - (i + 1) < 8 - i; omega, Ent.mk' ⟨rfl, rfl, rfl, trivial⟩ rfl (fun β w' hs => ?_)⟩
    have e1 := outN_succ s i hlt
    rw [hx] at e1
    have h3 := hs.weaken (List.Sublist.refl _) (List.sublist_cons_self _ _)
    show Sat _ _ _ _ [rowF ty_uint8 1 (.slice A' (4 * (i + 1)) c') (4 * (i + 1)) ((outN s (i + 1)).map byte)] _
    rw [← e1, List.map_append]
    exact h3
  · obtain rfl : i = 8 := by omega
    intro β w' hs
    have h2 := hs.ofBk
    have hb : β 0 = b := h2.fix.2 0 (Nat.zero_lt_one)
    refine h2.fin [0, 1] ⟨A, c, rfl, hc, hcm, ?_⟩
    show [bkF (β 0) ty ((s.l.map sl32).map (SL.val β)), _] = [stF b ty s, _]
    rw [hb]
    rfl

theorem wrap_u8n (x : Nat) : IntKind.u8.wrap (x : Int) = ((UInt8.ofNat x).toNat : Int) := by
  rw [show IntKind.u8.wrap (x : Int) = (x : Int) % 256 by simp [IntKind.wrap, IntKind.bits, IntKind.signed], UInt8.toNat_ofNat']
  omega
theorem wrap_u64' (x : Int) : IntKind.u64.wrap x = x % 18446744073709551616 := by simp [IntKind.wrap, IntKind.bits, IntKind.signed]
theorem longN_succ (n : Nat) : ∀ i, i < 8 → (Sha.long n).take i ++ [UInt8.ofNat (n / 2 ^ (8 * (7 - i)))] = (Sha.long n).take (i + 1)
  | 0, _ => rfl | 1, _ => rfl | 2, _ => rfl | 3, _ => rfl | 4, _ => rfl | 5, _ => rfl | 6, _ => rfl | 7, _ => rfl
  | n + 8, h => by omega
theorem long_c (w : World) (n : Nat) :
    Con Tryz.prog n_sha_long #[.int .u64 n] w [] fun v Fs => ∃ A c, v = .slice A 8 c ∧ 8 ≤ c ∧ c ≤ maxLen ∧ Fs = [browF ty_uint8 A (Sha.long n) c] := by
  have g := good_sha_long w (Un [])
  refine con_of_sx (cx := cx_sha_long w (Un [])) g b_sha_long rfl rfl (β := Va.z) [.c (.v (.int .u64 n))] 0 [] [browF ty_uint8 none [] 0] rfl rfl ((Sat.start rfl).nilRow _ _) ?_
  refine loop_rule (ι := Nat × Option Addr × Nat) 0 (fun i => [(0, .c (.v (.int .u64 n))), (5, .c (.v (.int .i64 i.1))), (3, .c (.v (.slice i.2.1 i.1 i.2.2)))]) (fun _ => [])
    (fun i => [rowF ty_uint8 1 (.slice i.2.1 i.1 i.2.2) i.1 (((Sha.long n).take i.1).map byte)])
    (fun i => i.1 ≤ 8 ∧ i.1 ≤ i.2.2 ∧ i.2.2 ≤ maxLen) (fun i => 8 - i.1) (0, none, 0) ⟨Nat.zero_le _, Nat.zero_le _, Nat.zero_le _⟩ (Ent.same ⟨rfl, rfl, rfl, trivial⟩ rfl) g ?_
  rintro ⟨i, A, c⟩ ⟨hi, hc, hcm⟩
  simp only at hi hc hcm
  refine BIf.dec (fun hlt => ?_) (fun hge => ?_)
  · have hlt : i < 8 := by omega
    refine ⟨((7 - i : Nat) : Int), by rw [wrap_i64 (by omega) (by omega)]; omega, ((8 * (7 - i) : Nat) : Int), by rw [wrap_i64 (by omega) (by omega)]; omega, ?_⟩
    refine ⟨by omega, ((n / 2 ^ (8 * (7 - i)) : Nat) : Int), ?_, _, wrap_u8n _, ?_⟩
    · have h1 : min ((8 * (7 - i) : Nat) : Int).toNat IntKind.u64.bits = 8 * (7 - i) := by show min (8 * (7 - i)) 64 = _; omega
      rw [h1]
      have : (2 ^ (8 * (7 - i)) : Int) = ((2 ^ (8 * (7 - i)) : Nat) : Int) := by push_cast; rfl
      rw [this, Int.fdiv_eq_ediv_of_nonneg _ (Int.natCast_nonneg _)]
      exact (Int.natCast_ediv _ _).symm
    intro b2
    refine ⟨1, i, i + 1, ((Sha.long n).take i).map byte, [UInt8.ofNat (n / 2 ^ (8 * (7 - i)))].map byte, _, rfl, fun β w hs => row_rd (hs.get 0 rfl), bytes_one _, rfl, rfl, by rw [maxLen_eq]; omega, by show (i + 1) * 1 ≤ _; omega, ?_⟩
    intro A' c' h1 h2 _
    refine ⟨((i + 1 : Nat) : Int), by rw [wrap_i64 (by omega) (by omega)]; rfl, ?_⟩
    refine ⟨(i + 1, A', c'), ⟨by show i + 1 ≤ 8; omega, h1, h2⟩, by show 8 - (i + 1) < 8 - i; omega, Ent.mk' ⟨rfl, rfl, rfl, trivial⟩ rfl (fun β w' hs => ?_)⟩
    have h3 := hs.weaken (List.Sublist.refl _) (List.sublist_cons_self _ _)
    show Sat _ _ _ _ [rowF ty_uint8 1 (.slice A' (i + 1) c') (i + 1) (((Sha.long n).take (i + 1)).map byte)] _
    rw [← longN_succ n i hlt, List.map_append]
    exact h3
  · obtain rfl : i = 8 := by omega
    intro β w' hs
    exact hs.fin [0] ⟨A, c, rfl, hc, hcm, rfl⟩

theorem ends_c (w : World) (n : Nat) (hn : n ≤ 140737488355328) :
    Con Tryz.prog n_sha_ends #[.int .u64 n] w [] fun v Fs => ∃ A c, v = .slice A (Sha.ends n).length c ∧ (Sha.ends n).length ≤ c ∧ c ≤ maxLen ∧ Fs = [browF ty_uint8 A (Sha.ends n) c] := by
  have g := good_sha_ends w (Un [])
  have hz : zeros n < 64 := by unfold zeros; omega
  refine con_of_sx (cx := cx_sha_ends w (Un [])) g b_sha_ends rfl rfl (β := Va.z) [.c (.v (.int .u64 n))] 0 [] [] rfl rfl (Sat.start rfl) ?_
  intro b0
  refine loop_rule (ι := Nat × Option Addr × Nat) 0 (fun i => [(0, .c (.v (.int .u64 n))), (3, .c (.v (.slice i.2.1 (i.1 + 1) i.2.2)))]) (fun _ => [])
    (fun i => [rowF ty_uint8 1 (.slice i.2.1 (i.1 + 1) i.2.2) (i.1 + 1) (((0x80 : UInt8) :: List.replicate i.1 0).map byte)])
    (fun i => i.1 ≤ zeros n ∧ i.1 + 1 ≤ i.2.2 ∧ i.2.2 ≤ maxLen) (fun i => zeros n - i.1) (0, some ⟨b0, 0, none⟩, 1) ⟨Nat.zero_le _, Nat.le_refl _, by show 1 ≤ maxLen; decide⟩ (Ent.same ⟨rfl, rfl, trivial⟩ rfl) g ?_
  rintro ⟨i, A, c⟩ ⟨hi, hc, hcm⟩
  simp only at hi hc hcm
  obtain ⟨r, hr⟩ : ∃ r : Nat, (n + (i + 1) + 8) % 64 = r := ⟨_, rfl⟩
  refine ⟨((i + 1 : Nat) : Int), by rw [wrap_u64']; omega, ((n + (i + 1) : Nat) : Int), by rw [wrap_u64']; omega, ((n + (i + 1) + 8 : Nat) : Int), by rw [wrap_u64']; omega, by omega, (r : Int), by rw [Int.tmod_eq_emod_of_nonneg (by omega)]; omega, ?_⟩
  refine BIf.not (BIf.dec (fun h0 => ?_) (fun h0 => ?_))
  · have hiz : i = zeros n := by unfold zeros at *; omega
    refine ⟨((8 * n : Nat) : Int), by rw [wrap_u64']; omega, ?_⟩
    refine call_con [] (fun β w' hs => long_c w' (8 * n)) ?_
    rintro v Fs ⟨A2, c2, rfl, h1, h2, rfl⟩
    have hl : (Sha.ends n).length = i + 1 + 8 := by rw [Sha.ends_len, hiz]; omega
    refine ⟨1, i + 1, (Sha.ends n).length, _, (Sha.long (8 * n)).map byte, (Sha.ends n).map byte, rfl, fun β w hs => row_rd (hs.get 0 rfl), bytes_one _, hl.symm, by rw [← List.map_append, hiz]; rfl, by rw [maxLen_eq, hl]; omega, by show (Sha.ends n).length * 1 ≤ _; omega, ?_⟩
    intro A' c' h3 h4 _
    intro β w' hs
    exact hs.fin [1] ⟨A', c', rfl, h3, h4, rfl⟩
  · have hiz : i < zeros n := by
      rcases Nat.lt_or_ge i (zeros n) with h | h
      · exact h
      · exfalso
        apply h0
        have : i = zeros n := by omega
        subst this
        unfold zeros at hr
        omega
    intro b2
    refine ⟨1, i + 1, i + 1 + 1, ((0x80 : UInt8) :: List.replicate i 0).map byte, [(0 : UInt8)].map byte, _, rfl, fun β w hs => row_rd (hs.get 0 rfl), bytes_one _, rfl, rfl, by rw [maxLen_eq]; omega, by show (i + 1 + 1) * 1 ≤ _; omega, ?_⟩
    intro A' c' h1 h2 _
    refine ⟨(i + 1, A', c'), ⟨hiz, h1, h2⟩, by show zeros n - (i + 1) < zeros n - i; omega, Ent.mk' ⟨rfl, rfl, trivial⟩ rfl (fun β w' hs => ?_)⟩
    have h3 := hs.weaken (List.Sublist.refl _) (List.sublist_cons_self _ _)
    show Sat _ _ _ _ [rowF ty_uint8 1 (.slice A' (i + 1 + 1) c') (i + 1 + 1) (((0x80 : UInt8) :: List.replicate (i + 1) 0).map byte)] _
    rw [List.replicate_succ', ← List.cons_append, List.map_append]
    exact h3
end Go.Proofs.YtjlpcjpeljlbeaaGreatDoor.Sx

/- A text's blocks. -/
namespace Go.Proofs.YtjlpcjpeljlbeaaGreatDoor.Sx
open Go Sha
attribute [local irreducible] Calls

theorem clone_c (w : World) (A : Option Addr) (l : List UInt8) (c : Nat) (hr : Bs w A l) (hn : l.length ≤ 140737488355328) :
    Con Tryz.prog n_bytes_Clone #[.slice A l.length c] w [] fun v Fs => ∃ A' c', v = .slice A' l.length c' ∧ l.length ≤ c' ∧ c' ≤ maxLen ∧ Fs = [browF ty_uint8 A' l c'] := by
  refine con_of_sx (cx := cx_bytes_Clone w (Un [])) (good_bytes_Clone w (Un [])) b_bytes_Clone rfl rfl (β := Va.z) [.c (.v (.slice A l.length c))] 0 [] [bsF A l] rfl rfl ((Sat.start rfl).rd (fun _ h => by cases h) hr) ?_
  refine BIf.mk (fun h => ?_) (fun h => ?_)
  · intro β w' hs
    have hA : A = none := by simpa using h
    subst hA
    have hl : l = [] := by
      cases l with
      | nil => rfl
      | cons x r => obtain ⟨ad, q⟩ := Bs.addr hr (by simp); cases q
    subst hl
    exact (hs.nilRow ty_uint8 1).fin [0] ⟨none, 0, rfl, Nat.le_refl _, Nat.zero_le _, rfl⟩
  intro b
  refine ⟨0, 0, l.length, [], l.map byte, _, rfl, fun β w hs => hs.get 1 rfl, bytes_one l, Nat.zero_add _, rfl, by rw [maxLen_eq]; omega, by show l.length * 1 ≤ _; omega, ?_⟩
  intro A' c' h1 h2 h3 β w' hs
  exact hs.fin [0] ⟨A', c', rfl, h1, h2, rfl⟩

def blk (q : List UInt8) (i : Nat) : List UInt8 := (q.drop (64 * i)).take 64
def blks (q : List UInt8) (n : Nat) : List (List UInt8) := (List.range n).map (blk q)
theorem blks_succ (q : List UInt8) (n : Nat) : blks q (n + 1) = blks q n ++ [blk q n] := by simp [blks, List.range_succ]
theorem go_eq : ∀ (n : Nat) (s : S8) (q : List UInt8), go n s q = (blks q n).foldl Sha.step s
  | 0, s, q => rfl
  | n + 1, s, q => by
    rw [go, go_eq n]
    have : blks q (n + 1) = q.take 64 :: blks (q.drop 64) n := by
      simp only [blks, List.range_succ_eq_map, List.map_cons, List.map_map]
      congr 1
      refine List.map_congr_left fun i _ => ?_
      simp only [Function.comp, blk, List.drop_drop]
      rw [show 64 * (i + 1) = 64 + 64 * i by omega]
    rw [this, List.foldl_cons]

def insB (x : List UInt8) (args : Array Value) (X : Fact) : Prop := x.length = 64 ∧ ∃ B, args = #[.slice B 64 64] ∧ X = bsF B x

theorem blocks_it (l : Nat) (w : World) (bx : Nat) (A : Option Addr) (p : List UInt8) (c : Nat) (f0 R : Fact) (J Jx : List (List UInt8) → Fact → Prop) (hJ0 : J [] f0) (hJo : ∀ pre f, J pre f → f.own = true) (hRo : R.own = false) (hY : Yc Tryz.prog l J Jx R (fun _ => insB))
    (hp : p.length ≤ 70368744177664) (hm : Mem w (f0 :: R :: [bkF bx ty_sl_uint8 [.slice A p.length c], bsF A p])) :
    Con Tryz.prog n_sha_Blocks_1 #[.func (.yield l) #[] #[], .pointer (some ⟨bx, 0, none⟩)] w [f0, bkF bx ty_sl_uint8 [.slice A p.length c]]
      (fun _ Fs => ∃ f Fs', Fs = f :: Fs' ∧ ((∃ xs, J xs f ∧ xs = blks (p ++ ends p.length) ((p ++ ends p.length).length / 64) ∧ Fs' = []) ∨ (∃ pre, Jx pre f ∧ Fs' = []))) := by
  have g := good_sha_Blocks_1 w (Un [f0, bkF bx ty_sl_uint8 [.slice A p.length c]]) [bx]
  have hs0 : Sat (cx_sha_Blocks_1 w (Un [f0, bkF bx ty_sl_uint8 [.slice A p.length c]]) [bx]) (Va.of fun _ => bx) 1 [] (f0 :: R :: [bkF bx ty_sl_uint8 [.slice A p.length c], bsF A p]) w := by
    refine hm.sat rfl (fun f hf ho k hk => ?_) ⟨Nat.le_refl 1, fun i hi => by obtain rfl : i = 0 := Nat.lt_one_iff.1 hi; rfl⟩
    simp only [List.mem_cons, List.not_mem_nil, or_false] at hf
    rcases hf with rfl | rfl | rfl | rfl
    · exact ⟨_, by simp, hk⟩
    · rw [hRo] at ho; cases ho
    · exact ⟨_, by simp, hk⟩
    · cases ho
  have hs1 := hs0.toBk 2 rfl 0 Nat.zero_lt_one rfl
  have hf0 := hJo _ _ hJ0
  refine con_of_sx (cx := cx_sha_Blocks_1 w (Un [f0, bkF bx ty_sl_uint8 [.slice A p.length c]]) [bx]) g b_sha_Blocks_1 rfl rfl (β := Va.of fun _ => bx) [.c (.v (.func (.yield l) #[] #[])), .c (.p 0 0)] 1 [⟨0, ty_sl_uint8, [.v (.slice A p.length c)]⟩] [f0, R, bsF A p] rfl rfl hs1 ?_
  refine draw_rule g p_sha_Blocks_1_0 (by kernel_rfl) [⟨0, ty_sl_uint8, [.v (.slice A p.length c)]⟩] [f0, R, bsF A p] Sub.refl ?_
  refine ⟨((p.length : Nat) : Int), by rw [wrap_u64']; omega, ?_⟩
  refine call_con [] (fun β w' hs => clone_c w' A p c (hs.get 2 rfl) (by omega)) ?_
  rintro v Fs ⟨A1, c1, rfl, h1, h2, rfl⟩
  refine ⟨Sub.dropF 1 rfl, ?_⟩
  refine call_con [] (fun β w' hs => ends_c w' p.length (by omega)) ?_
  rintro v Fs ⟨A2, c2, rfl, h3, h4, rfl⟩
  refine ⟨Sub.dropF 2 rfl, ?_⟩
  obtain ⟨q, hq⟩ : ∃ q, p ++ ends p.length = q := ⟨_, rfl⟩
  have hql : q.length = p.length + (ends p.length).length := by rw [← hq, List.length_append]
  have hel : (ends p.length).length < 73 := by rw [Sha.ends_len]; unfold zeros; omega
  have hqm : q.length % 64 = 0 := by rw [← hq]; exact Sha.pad_mod p
  rw [hq]
  refine ⟨1, p.length, q.length, _, (ends p.length).map byte, q.map byte, rfl, fun β w hs => row_rd (hs.get 0 rfl), bytes_one _, hql.symm, by rw [← hq, List.map_append], by rw [maxLen_eq]; omega, by show q.length * 1 ≤ _; omega, ?_⟩
  intro A3 c3 h5 h6 _
  refine ⟨Sub.dropF 2 rfl, ?_⟩
  refine loop_rule (ι := Nat × Option Addr × Nat × Fact) 1 (fun i => [(0, .c (.v (.func (.yield l) #[] #[]))), (3, .c (.v (.slice i.2.1 (q.length - 64 * i.1) i.2.2.1)))]) (fun _ => [⟨0, ty_sl_uint8, [.v (.slice A p.length c)]⟩])
    (fun i => [browF ty_uint8 A3 q c3, i.2.2.2, R])
    (fun i => 64 * i.1 ≤ q.length ∧ q.length - 64 * i.1 ≤ i.2.2.1 ∧ i.2.2.1 ≤ maxLen ∧ J (blks q i.1) i.2.2.2 ∧ (∀ w, Bs w A3 q → Bs w i.2.1 (q.drop (64 * i.1))) ∧ (∀ ad, i.2.1 = some ad → ∃ ad3, A3 = some ad3 ∧ ad.block = ad3.block)) (fun i => q.length - 64 * i.1) (0, A3, c3, f0)
    ⟨Nat.zero_le _, h5, h6, hJ0, fun w h => h, fun ad h => ⟨ad, h, rfl⟩⟩ (Ent.mk' ⟨rfl, rfl, trivial⟩ rfl (fun β w' hs => hs.weaken (List.Sublist.refl _) (List.Sublist.cons _ (List.Sublist.cons_cons _ (List.Sublist.cons_cons _ (List.Sublist.cons_cons _ (List.nil_sublist _))))))) g ?_
  rintro ⟨i, B, cap, f⟩ ⟨hi, hcap, hcm, hJ, hB, hBD⟩
  simp only at hi hcap hcm hJ hB hBD
  have hfo := hJo _ _ hJ
  obtain ⟨m, hm⟩ : ∃ m, q.length - 64 * i = m := ⟨_, rfl⟩
  have hmc : m ≤ cap := by omega
  rw [hm]
  have hdl : (q.drop (64 * i)).length = m := by rw [List.length_drop]; omega
  refine BIf.dec (fun h0 => ?_) (fun h0 => ?_)
  · have hm64 : 64 ≤ m := by omega
    have hbl : (blk q i).length = 64 := by unfold blk; rw [List.length_take, hdl]; omega
    refine ⟨64, 64, 0, 64, 64, _, rfl, rfl, rfl, by show 64 ≤ cap; omega, by omega, by omega, rfl, rfl, rfl, ?_⟩
    have hcutD : ∀ k, (bsF (cutA B 64 0 1) (blk q i)).D k → (browF ty_uint8 A3 q c3).D k := by
      rintro k ⟨_, ad, had, rfl⟩
      simp only [cutA] at had
      rw [if_neg (by decide)] at had
      cases B with
      | none => cases had
      | some ad0 =>
        obtain rfl : ad0.add (0 * 1) = ad := by simpa using had
        obtain ⟨ad3, h7, h8⟩ := hBD ad0 rfl
        subst h7
        have : (ad0.add (0 * 1)).block = ad0.block := by unfold Addr.add; split <;> rfl
        show some ad3.block = some (ad0.add (0 * 1)).block
        rw [this, h8]
    refine yield_ro (x := blk q i) (X := bsF (cutA B 64 0 1) (blk q i)) hY 1 2 rfl hJ hfo rfl hRo (by decide) (fun β => ⟨hbl, _, rfl, rfl⟩) rfl (fun β w' hs => ⟨?_, fun k hk => hs.getLt 0 rfl k (hcutD k hk), fun k hk hk' => ?_⟩) ?_ ?_
    · have h7 := Bs.cut (hB w' (row_rd (hs.get 0 rfl))) (c := cap) (m := 64) (i := 0) (j := 64) (by omega) (.inr (Nat.le_refl _)) (by omega) (by omega) (by omega)
      have h8 : Rd 1 (cutA B 64 0 1) (blk q i).length ((blk q i).map byte) w' := by rw [hbl]; exact h7
      exact h8
    · exact hs.apart (i := 1) (j := 0) rfl rfl (by decide) (.inr rfl) k hk (hcutD k hk')
    · intro f2 hfo2 hJ2
      refine ⟨cap, m, 64, m - 64, cap - 64, _, rfl, rfl, rfl, Nat.le_refl _, hmc, hm64, rfl, rfl, rfl, ?_⟩
      refine ⟨(i + 1, cutA B cap 64 1, cap - 64, f2), ⟨by show 64 * (i + 1) ≤ _; omega, by show q.length - 64 * (i + 1) ≤ cap - 64; omega, by show cap - 64 ≤ _; omega, by show J (blks q (i + 1)) f2; rw [blks_succ]; exact hJ2, fun w' h => ?_, fun ad had => ?_⟩, by show q.length - 64 * (i + 1) < m; omega, Ent.mk' ⟨rfl, ?_, trivial⟩ rfl (fun β w' hs => ?_)⟩
      · have h7 := Bs.cutB (hB w' h) (c := cap) (i := 64) (j := m) (m := q.drop (64 * (i + 1))) (by omega) hm64 (by omega) (by
          rw [List.drop_drop, show 64 * i + 64 = 64 * (i + 1) by omega, List.take_of_length_le]
          rw [List.length_drop]; omega)
        exact h7
      · have had' : cutA B cap 64 1 = some ad := had
        unfold cutA at had'
        split at had'
        · exact hBD ad had'
        · cases B with
          | none => cases had'
          | some ad0 =>
            obtain rfl : ad0.add (64 * 1) = ad := by simpa using had'
            obtain ⟨ad3, h7, h8⟩ := hBD ad0 rfl
            refine ⟨ad3, h7, ?_⟩
            rw [← h8]
            unfold Addr.add; split <;> rfl
      · show _ = some (SV.c (.v (.slice _ (q.length - 64 * (i + 1)) _)))
        rw [show q.length - 64 * (i + 1) = m - 64 by omega]
        rfl
      · exact (hs.keepB (List.Sublist.refl _)).perm [1, 0, 2]
    · intro f2 hfo2 hJ2 β w' hs
      exact hs.fin [0] ⟨f2, [], rfl, .inr ⟨_, hJ2, rfl⟩⟩ rfl rfl rfl ⟨hfo2, trivial⟩
  · have hi2 : i = q.length / 64 := by omega
    intro β w' hs
    exact hs.fin [1] ⟨f, [], rfl, .inl ⟨_, hJ, by rw [hi2], rfl⟩⟩ rfl rfl rfl ⟨hfo, trivial⟩
end Go.Proofs.YtjlpcjpeljlbeaaGreatDoor.Sx

/- A map of numbers: its keys, one by one; collected. -/
namespace Go.Proofs.YtjlpcjpeljlbeaaGreatDoor.Sx
open Go
attribute [local irreducible] Calls

theorem Sat.endI {cx : Cx} {β : Va} {n : Nat} {H : List Bk} {F : List Fact} {w : World} {kk : IntKind} (h : Sat cx β n H F w) (j : Nat) {b r : Nat} {l ss : MLI} {cur : Option (Int × Value)} (hj : nth F j = some (itIF kk b r l ss cur)) : Sat cx β n H (putAt F j (mapIF kk b l)) w := by
  obtain ⟨es, ds, k, since, c0, seen, hb, hm, _⟩ := h.get j hj
  exact h.upd hj rfl (Chg.refl _ _) ⟨es, k, hb, hm⟩ (fun q hq => .inl (.inl hq))
theorem Sat.emptyI {cx : Cx} {β : Va} {n : Nat} {H : List Bk} {F : List Fact} {w : World} {kk : IntKind} (h : Sat cx β n H F w) (j : Nat) {b : Nat} (hj : nth F j = some (mapF b [])) : Sat cx β n H (putAt F j (mapIF kk b [])) w := by
  obtain ⟨es, k, hb, hm⟩ := h.get j hj
  obtain rfl : es = [] := List.map_eq_nil_iff.1 hm.cut
  exact h.upd hj rfl (Chg.refl _ _) ⟨[], k, hb, rfl, List.Pairwise.nil, fun _ q => by cases q⟩ (fun q hq => .inl hq)
def insK (n : Nat) (pre : List Int) (x : Int) (args : Array Value) (X : Fact) : Prop := args = #[.int .u64 x] ∧ X = noF ∧ pre.length < n
theorem keysI_c (w : World) (mb : Option Nat) : Con Tryz.prog 109 #[.map mb] w [] fun v Fs => ∃ B, v = .func (.func 174) #[] #[.pointer (some ⟨B, 0, none⟩)] ∧ Fs = [bkF B ty_map_uint64_sl_uint8 [.map mb]] := by
  refine con_of_sx (cx := cx_maps_Keys_map_uint64_byte_uint64_byte w (Un [])) (good_maps_Keys_map_uint64_byte_uint64_byte w (Un [])) b_maps_Keys_map_uint64_byte_uint64_byte rfl rfl (β := Va.z) [.c (.v (.map mb))] 0 [] [] rfl rfl (Sat.start rfl) ?_
  intro β w' hs
  exact hs.ofBk.fin [0] ⟨β 0, rfl, rfl⟩
theorem keysI_it (l : Nat) (w : World) (bx b : Nat) (lm : MLI) (f0 R : Fact) (J Jx : List Int → Fact → Prop) (hJ0 : J [] f0) (hJo : ∀ pre f, J pre f → f.own = true) (hRo : R.own = false) (hY : Yc Tryz.prog l J Jx R (insK lm.length))
    (hm : Mem w (f0 :: R :: [bkF bx ty_map_uint64_sl_uint8 [.map (some b)], mapIF .u64 b lm])) :
    Con Tryz.prog 174 #[.func (.yield l) #[] #[], .pointer (some ⟨bx, 0, none⟩)] w [f0, bkF bx ty_map_uint64_sl_uint8 [.map (some b)], mapIF .u64 b lm]
      (fun _ Fs => ∃ f Fs', Fs = f :: Fs' ∧ ((∃ xs, J xs f ∧ xs.Perm (lm.map (·.1)) ∧ Fs' = [mapIF .u64 b lm]) ∨ (∃ pre, Jx pre f ∧ Fs' = [mapIF .u64 b lm]))) := by
  have g := good_maps_Keys_map_uint64_byte_uint64_byte_1 w (Un [f0, bkF bx ty_map_uint64_sl_uint8 [.map (some b)], mapIF .u64 b lm]) [bx]
  have hs0 : Sat (cx_maps_Keys_map_uint64_byte_uint64_byte_1 w (Un [f0, bkF bx ty_map_uint64_sl_uint8 [.map (some b)], mapIF .u64 b lm]) [bx]) (Va.of fun _ => bx) 1 [] (f0 :: R :: [bkF bx ty_map_uint64_sl_uint8 [.map (some b)], mapIF .u64 b lm]) w := by
    refine hm.sat rfl (fun f hf ho k hk => ?_) ⟨Nat.le_refl 1, fun i hi => by obtain rfl : i = 0 := Nat.lt_one_iff.1 hi; rfl⟩
    simp only [List.mem_cons, List.not_mem_nil, or_false] at hf
    rcases hf with rfl | rfl | rfl | rfl
    · exact ⟨_, by simp, hk⟩
    · rw [hRo] at ho; cases ho
    · exact ⟨bkF bx ty_map_uint64_sl_uint8 [.map (some b)], by simp, hk⟩
    · exact ⟨mapIF .u64 b lm, by simp, hk⟩
  have hs1 := hs0.toBk 2 rfl 0 Nat.zero_lt_one rfl
  refine con_of_sx (cx := cx_maps_Keys_map_uint64_byte_uint64_byte_1 w (Un [f0, bkF bx ty_map_uint64_sl_uint8 [.map (some b)], mapIF .u64 b lm]) [bx]) g b_maps_Keys_map_uint64_byte_uint64_byte_1 rfl rfl (β := Va.of fun _ => bx) [.c (.v (.func (.yield l) #[] #[])), .c (.p 0 0)] 1 _ _ rfl rfl hs1 ?_
  refine ⟨Nat, fun r => .pointer (some ⟨r, 0, none⟩), fun r => [f0, R, itIF .u64 b r lm [] none], fun β w' ty hs => hs.rangeI g 2 rfl, fun r => ?_⟩
  refine loop_rule (ι := MLI × Fact × Option (Int × Value)) 1 (fun _ => [(0, .c (.v (.func (.yield l) #[] #[]))), (1, .c (.p 0 0)), (5, .c (.v (.pointer (some ⟨r, 0, none⟩))))]) (fun _ => [⟨0, ty_map_uint64_sl_uint8, [.v (.map (some b))]⟩]) (fun i => [i.2.1, R, itIF .u64 b r lm i.1 i.2.2])
    (fun i => J (i.1.map (·.1)) i.2.1) (fun i => lm.length - i.1.length) ([], f0, none) hJ0 (Ent.same ⟨rfl, rfl, rfl, trivial⟩ rfl) g ?_
  rintro ⟨ss, f, cur⟩ hJ
  simp only at hJ
  have hfo := hJo _ _ hJ
  simp only
  refine ⟨{o : Option (Int × Value) // NxtI lm ss o}, fun o => nxtV .u64 o.1, fun o => [f, R, nxtF .u64 b r lm ss cur o.1], fun β w' ty hs => hs.nextI 2 rfl ty, ?_⟩
  rintro ⟨o, ho⟩
  cases o with
  | none =>
    have hperm : ss.Perm lm := ho
    intro β w' hs
    exact ((hs.endI 2 rfl).keepB (List.nil_sublist _)).fin [0, 2] ⟨f, _, rfl, .inl ⟨_, hJ, hperm.map _, rfl⟩⟩ rfl rfl rfl ⟨hfo, rfl, trivial⟩
  | some x =>
    have hlt : ss.length < lm.length := ho.2
    refine ⟨Unit, fun _ => .tuple #[.int .u64 x.1, x.2], fun _ => [f, R, itIF .u64 b r lm (ss ++ [x]) (some x)], fun β w' ty hs => ⟨(), w', hs.entryI 2 rfl, hs⟩, fun _ => ?_⟩
    refine yield_ro (X := noF) (x := x.1) hY 0 1 rfl hJ hfo rfl hRo (by decide) (fun β => ⟨rfl, rfl, by rw [List.length_map]; exact hlt⟩) rfl (fun β w _ => ⟨trivial, fun k hk => hk.elim, fun k _ h => h.elim⟩) ?_ ?_
    · intro f2 hfo2 hJ2
      refine ⟨(ss ++ [x], f2, some x), by show J ((ss ++ [x]).map (·.1)) f2; rw [List.map_append]; exact hJ2, by show lm.length - (ss ++ [x]).length < lm.length - ss.length; rw [List.length_append]; show lm.length - (ss.length + 1) < _; omega, Ent.same ⟨rfl, rfl, rfl, trivial⟩ rfl⟩
    · intro f2 hfo2 hJ2 β w' hs
      exact ((hs.endI 2 rfl).keepB (List.nil_sublist _)).fin [0, 2] ⟨f2, _, rfl, .inr ⟨_, hJ2, rfl⟩⟩ rfl rfl rfl ⟨hfo2, rfl, trivial⟩
end Go.Proofs.YtjlpcjpeljlbeaaGreatDoor.Sx

/- Numbers that an iterator gives, collected. -/
namespace Go.Proofs.YtjlpcjpeljlbeaaGreatDoor.Sx
open Go
attribute [local irreducible] Calls

/-- A row of numbers. -/
abbrev urowF (A : Option Addr) (l : List Int) (c : Nat) : Fact := rowF ty_uint64 1 (.slice A l.length c) l.length (l.map (Value.int .u64))
structure ColN where
  A : Option Addr
  c : Nat
  l : List Int
/-- What an iterator over numbers, with something of its own, promises: it gives what P says, and leaves G'. -/
def GivesN (k : FuncId) (bx : Nat) (ty : TypeId) (cs : List Value) (G G' : Fact) (n : Nat) (P : List Int → Prop) : Prop :=
  ∀ (l : Nat) (w : World) (f0 R : Fact) (J Jx : List Int → Fact → Prop), J [] f0 → (∀ pre f, J pre f → f.own = true) → R.own = false → Yc Tryz.prog l J Jx R (insK n) → Mem w (f0 :: R :: [bkF bx ty cs, G]) →
    Con Tryz.prog k #[.func (.yield l) #[] #[], .pointer (some ⟨bx, 0, none⟩)] w [f0, bkF bx ty cs, G] (fun _ Fs => ∃ f Fs', Fs = f :: Fs' ∧ ((∃ xs, J xs f ∧ P xs ∧ Fs' = [G']) ∨ (∃ pre, Jx pre f ∧ Fs' = [G'])))
theorem appendN_c (w : World) (k : FuncId) (bx : Nat) (ty : TypeId) (cs : List Value) (G G' : Fact) (n : Nat) (P : List Int → Prop) (hcall : callable Tryz.prog k = true) (hG : G.own = true) (hG' : G'.own = true) (hn : n ≤ 1000) (hg : GivesN k bx ty cs G G' n P) (hm : Mem w [bkF bx ty cs, G]) :
    Con Tryz.prog 106 #[.slice none 0 0, .func (.func k) #[] #[.pointer (some ⟨bx, 0, none⟩)]] w [bkF bx ty cs, G] fun v Fs => ∃ A c l, v = .slice A l.length c ∧ P l ∧ l.length ≤ n ∧ (0 < l.length → ∃ ad, A = some ad) ∧ Fs = [urowF A l c, G'] := by
  have g := good_slices_AppendSeq_uint64_uint64 w (Un [bkF bx ty cs, G])
  have hml := maxLen_eq
  have hs0 : Sat (cx_slices_AppendSeq_uint64_uint64 w (Un [bkF bx ty cs, G])) Va.z 0 [] [bkF bx ty cs, G] w := hm.sat0 rfl (fun f hf _ k hk => ⟨f, hf, hk⟩)
  refine con_of_sx (cx := cx_slices_AppendSeq_uint64_uint64 w (Un [bkF bx ty cs, G])) g b_slices_AppendSeq_uint64_uint64 rfl rfl (β := Va.z) [.c (.v (.slice none 0 0)), .c (.v (.func (.func k) #[] #[.pointer (some ⟨bx, 0, none⟩)]))] 0 [] _ rfl rfl hs0 ?_
  refine range_rule (α := Int) (ι := ColN) (κ := Unit) g rfl (cv := [.pointer (some ⟨bx, 0, none⟩)]) rfl hcall 1 (Nat.le_refl 1)
    (fun pre i => i.l = pre ∧ pre.length ≤ n ∧ (0 < i.l.length → ∃ ad, i.A = some ad)) (fun i => [⟨0, ty_sl_uint64, [.v (.slice i.A i.l.length i.c)]⟩]) (fun i => [urowF i.A i.l i.c]) (fun i => ⟨rfl, trivial⟩)
    (fun _ _ _ => False) (fun _ => []) (fun _ => []) (fun _ => trivial)
    [bkF bx ty cs, G] [] [] ⟨rfl, hG, trivial⟩ (fun g h => by cases h) ⟨none, 0, []⟩ ⟨rfl, Nat.zero_le _, fun h => absurd h (by decide)⟩
    (fun β w hs => ⟨β, Agr.refl _ _, (hs.nilRow ty_uint64 1).perm [1, 2, 0]⟩) (insK n)
    (fun xs Fs' => P xs ∧ Fs' = [G']) (fun _ Fs' => Fs' = [G'])
    (fun l w f0 R J Jx hJ0 hJo hRo hY hm => (hg l w f0 R J Jx hJ0 hJo hRo hY hm).mono fun _ Fs h => h) ?_ ?_ ?_
  · rintro ⟨A, c, l⟩ pre x args X W S' lb bs pn pn' hbs ⟨rfl, hlen, hA⟩ ⟨rfl, rfl, hx⟩
    simp only at hA
    have hx0 : l.length < n := hx
    refine ⟨_, rfl, ?_⟩
    intro b2
    refine ⟨2, l.length, (l ++ [x]).length, l.map (Value.int .u64), [Value.int .u64 x], (l ++ [x]).map (Value.int .u64), rfl, fun β w hs => row_rd (hs.get 0 rfl), fun u hu => by obtain rfl := List.mem_singleton.1 hu; rfl, by simp, by simp, by rw [List.length_append, hml]; show l.length + 1 ≤ _; omega, by rw [List.length_append]; show (l.length + 1) * 8 ≤ _; omega, ?_⟩
    intro A' c' h1 h2 h3
    have e1 : (l ++ [x]).length = l.length + 1 := by rw [List.length_append]; rfl
    refine ⟨⟨A', c', l ++ [x]⟩, ⟨rfl, by rw [e1]; omega, fun _ => ?_⟩, Ent.mk' trivial rfl (fun β w hs => hs.perm [2])⟩
    cases A' with
    | none => exact absurd (h3 rfl).2 (by decide)
    | some ad => exact ⟨ad, rfl⟩
  · rintro xs ⟨A, c, l⟩ Fs ⟨rfl, hlen, hA⟩ ⟨hP, rfl⟩
    simp only at hA
    intro β w' hs
    exact (hs.keepB (List.nil_sublist _)).fin [1, 0] ⟨A, c, l, rfl, hP, hlen, hA, rfl⟩ rfl rfl rfl ⟨rfl, hG', trivial⟩
  · rintro e pre j Fs ⟨⟩
theorem collectN_c (w : World) (k : FuncId) (bx : Nat) (ty : TypeId) (cs : List Value) (G G' : Fact) (n : Nat) (P : List Int → Prop) (hcall : callable Tryz.prog k = true) (hG : G.own = true) (hG' : G'.own = true) (hn : n ≤ 1000) (hg : GivesN k bx ty cs G G' n P) (hm : Mem w [bkF bx ty cs, G]) :
    Con Tryz.prog 31 #[.func (.func k) #[] #[.pointer (some ⟨bx, 0, none⟩)]] w [bkF bx ty cs, G] fun v Fs => ∃ A c l, v = .slice A l.length c ∧ P l ∧ l.length ≤ n ∧ (0 < l.length → ∃ ad, A = some ad) ∧ Fs = [urowF A l c, G'] := by
  have g := good_slices_Collect_uint64 w (Un [bkF bx ty cs, G])
  have hs0 : Sat (cx_slices_Collect_uint64 w (Un [bkF bx ty cs, G])) Va.z 0 [] [bkF bx ty cs, G] w := hm.sat0 rfl (fun f hf _ k hk => ⟨f, hf, hk⟩)
  refine con_of_sx (cx := cx_slices_Collect_uint64 w (Un [bkF bx ty cs, G])) g b_slices_Collect_uint64 rfl rfl (β := Va.z) [.c (.v (.func (.func k) #[] #[.pointer (some ⟨bx, 0, none⟩)]))] 0 [] _ rfl rfl hs0 ?_
  refine call_con [0, 1] (hown := ⟨rfl, hG, trivial⟩) (fun β w' hs => appendN_c w' k bx ty cs G G' n P hcall hG hG' hn hg (hs.mem.take (js := [0, 1]) rfl)) ?_
  rintro v Fs ⟨A, c, l, rfl, hP, hlen, hA, rfl⟩
  intro β w' hs
  exact hs.fin [0, 1] ⟨A, c, l, rfl, hP, hlen, hA, rfl⟩ rfl rfl rfl ⟨rfl, hG', trivial⟩
theorem keysI_gives (bx b : Nat) (lm : MLI) : GivesN 174 bx ty_map_uint64_sl_uint8 [.map (some b)] (mapIF .u64 b lm) (mapIF .u64 b lm) lm.length (fun xs => xs.Perm (lm.map (·.1))) :=
  fun l w f0 R J Jx hJ0 hJo hRo hY hm => keysI_it l w bx b lm f0 R J Jx hJ0 hJo hRo hY hm
end Go.Proofs.YtjlpcjpeljlbeaaGreatDoor.Sx

/- slices.Sort at few numbers: the library's insertion sort, walked. -/
namespace Go.Proofs.YtjlpcjpeljlbeaaGreatDoor.Sx
open Go
attribute [local irreducible] Calls

theorem isNaNU_c (w : World) (x : Int) : Pu Tryz.prog n_cmp_isNaN_uint64 #[.int .u64 x] w (.bool false) := by
  have g := good_cmp_isNaN_uint64 w (Un [])
  refine con_of_sx (cx := cx_cmp_isNaN_uint64 w (Un [])) g b_cmp_isNaN_uint64 rfl rfl (β := Va.z) [.c (.v (.int .u64 x))] 0 [] [] rfl rfl (Sat.start rfl) ?_
  intro β w' hs
  refine hs.fin [] ⟨?_, rfl⟩
  show Value.bool (!decide (x = x)) = _
  simp
theorem lessU_c (w : World) (x y : Int) : Pu Tryz.prog n_cmp_Less_uint64 #[.int .u64 x, .int .u64 y] w (.bool (decide (x < y))) := by
  have g := good_cmp_Less_uint64 w (Un [])
  refine con_of_sx (cx := cx_cmp_Less_uint64 w (Un [])) g b_cmp_Less_uint64 rfl rfl (β := Va.z) [.c (.v (.int .u64 x)), .c (.v (.int .u64 y))] 0 [] [] rfl rfl (Sat.start rfl) ?_
  refine call_pu (fun β w' hs => isNaNU_c w' x) ?_
  intro β w' hs
  exact hs.fin [] ⟨rfl, rfl⟩
/-! ### plainly -/
def at0 (l : List Int) (q : Nat) : Int := l.getD q 0
def sw (l : List Int) (j : Nat) : List Int := (l.set j (at0 l (j - 1))).set (j - 1) (at0 l j)
theorem at0_some {l : List Int} {q : Nat} (h : q < l.length) : l[q]? = some (at0 l q) := by
  simp [at0, List.getD, h]
theorem sw_len (l : List Int) (j : Nat) : (sw l j).length = l.length := by simp [sw]
theorem sw_get {l : List Int} {j : Nat} (h1 : 1 ≤ j) (h2 : j < l.length) (q : Nat) : at0 (sw l j) q = if q = j - 1 then at0 l j else if q = j then at0 l (j - 1) else at0 l q := by
  unfold sw at0
  simp only [List.getD_eq_getElem?_getD, List.getElem?_set, List.length_set]
  by_cases a : j - 1 = q
  · have a' : q = j - 1 := a.symm
    rw [if_pos a, if_pos (by omega), if_pos a']
    rfl
  · have a' : ¬ q = j - 1 := fun e => a e.symm
    rw [if_neg a, if_neg a']
    by_cases b : j = q
    · have b' : q = j := b.symm
      rw [if_pos b, if_pos h2, if_pos b']
      rfl
    · have b' : ¬ q = j := fun e => b e.symm
      rw [if_neg b, if_neg b']
theorem sw_perm {l : List Int} {j : Nat} (h1 : 1 ≤ j) (h2 : j < l.length) : (sw l j).Perm l := by
  have e1 : at0 l (j - 1) = l[j - 1]'(by omega) := by simp [at0, List.getD, List.getElem?_eq_getElem (show j - 1 < l.length by omega)]
  have e2 : at0 l j = l[j] := by simp [at0, List.getD, List.getElem?_eq_getElem h2]
  unfold sw
  rw [e1, e2]
  exact List.set_set_perm h2 (by omega)
/-- All but what stands at j rise, up to i. -/
def But (l : List Int) (i j : Nat) : Prop := ∀ p q, p < q → q ≤ i → q ≠ j → at0 l p ≤ at0 l q
def Upto (l : List Int) (i : Nat) : Prop := ∀ p q, p < q → q < i → at0 l p ≤ at0 l q
theorem But.start {l : List Int} {i : Nat} (h : Upto l i) : But l i i := fun p q h1 h2 h3 => h p q h1 (by omega)
theorem But.swap {l : List Int} {i j : Nat} (h : But l i j) (h1 : 1 ≤ j) (h2 : j ≤ i) (h3 : i < l.length) (hlt : at0 l j < at0 l (j - 1)) : But (sw l j) i (j - 1) := by
  intro p q hpq hq hne
  rw [sw_get h1 (by omega), sw_get h1 (by omega), if_neg hne]
  by_cases b : q = j
  · subst b
    rw [if_pos rfl]
    by_cases a : p = q - 1
    · rw [if_pos a]
      omega
    · rw [if_neg a, if_neg (by omega)]
      exact h p (q - 1) (by omega) (by omega) (by omega)
  · rw [if_neg b]
    by_cases a : p = j - 1
    · rw [if_pos a]
      exact h j q (by omega) hq b
    · rw [if_neg a]
      by_cases c : p = j
      · rw [if_pos c]
        exact h (j - 1) q (by omega) hq b
      · rw [if_neg c]
        exact h p q hpq hq b
theorem But.done {l : List Int} {i j : Nat} (h : But l i j) (h2 : j ≤ i) (hj : 1 ≤ j → ¬ at0 l j < at0 l (j - 1)) : Upto l (i + 1) := by
  intro p q hpq hq
  by_cases b : q = j
  · subst b
    have h3 := hj (by omega)
    by_cases a : p = q - 1
    · subst a
      omega
    · have := h p (q - 1) (by omega) (by omega) (by omega)
      omega
  · exact h p q hpq (by omega) b
/-! ### the walk -/
theorem uset (l : List Int) (j : Nat) (x : Int) : putAll (l.map (Value.int .u64)) (j * 1) [.int .u64 x] = (l.set j x).map (Value.int .u64) := by
  rw [putAll, putAll, putAt_eq, Nat.mul_one, List.map_set]
theorem insU_c (w : World) (A : Option Addr) (l : List Int) (c : Nat) (hl : l.length ≤ 12) (hm : Mem w [urowF A l c]) :
    Con Tryz.prog n_slices_insertionSortOrdered_uint64 #[.slice A l.length c, .int .i64 0, .int .i64 (l.length : Int)] w [urowF A l c] fun v Fs => v = .tuple #[] ∧ ∃ l', l'.Perm l ∧ Upto l' l.length ∧ Fs = [urowF A l' c] := by
  have g := good_slices_insertionSortOrdered_uint64 w (Un [urowF A l c])
  have hs0 : Sat (cx_slices_insertionSortOrdered_uint64 w (Un [urowF A l c])) Va.z 0 [] [urowF A l c] w := hm.sat0 rfl (fun f hf _ k hk => ⟨f, hf, hk⟩)
  have hA : 0 < l.length → ∃ g0, A = some ⟨g0, 0, none⟩ := fun h => by
    have ho : w.ownsRow 0 ty_uint64 1 (.slice A l.length c) l.length (l.map (Value.int .u64)) := hm.fact _ List.mem_cons_self
    rcases ho.2 with ⟨_, h0⟩ | ⟨g0, cap, cur, hv, _⟩
    · exact absurd h0 (by omega)
    · injection hv with q _ _
      exact ⟨g0, q⟩
  obtain ⟨N, hN⟩ : ∃ N, l.length = N := ⟨_, rfl⟩
  rw [hN] at hl hA ⊢
  refine con_of_sx (cx := cx_slices_insertionSortOrdered_uint64 w (Un [urowF A l c])) g b_slices_insertionSortOrdered_uint64 rfl rfl (β := Va.z) [.c (.v (.slice A N c)), .c (.v (.int .i64 0)), .c (.v (.int .i64 (N : Int)))] 0 [] _ rfl rfl hs0 ?_
  refine ⟨1, rfl, ?_⟩
  refine loop_rule (ι := List Int × Nat) 0 (fun i => [(0, .c (.v (.slice A N c))), (1, .c (.v (.int .i64 0))), (2, .c (.v (.int .i64 (N : Int)))), (6, .c (.v (.int .i64 (i.2 : Int))))]) (fun _ => []) (fun i => [urowF A i.1 c])
    (fun i => i.1.Perm l ∧ 1 ≤ i.2 ∧ Upto i.1 i.2 ∧ i.2 ≤ N + 1) (fun i => N + 1 - i.2) (l, 1) ⟨List.Perm.refl _, Nat.le_refl _, fun p q h1 h2 => by omega, by omega⟩ (Ent.same ⟨rfl, rfl, rfl, rfl, trivial⟩ rfl) g ?_
  rintro ⟨xs, i⟩ ⟨hp, hi1, hu, hiN⟩
  simp only at hp hi1 hu hiN
  have hxl : xs.length = N := by rw [hp.length_eq, hN]
  refine BIf.dec (fun hlt => ?_) (fun hge => ?_)
  · have hlt0 : (i : Int) < N := hlt
    have hiN2 : i < N := by omega
    obtain ⟨g0, rfl⟩ := hA (by omega)
    refine loop_rule (ι := List Int × Nat) 0 (fun y => [(0, .c (.v (.slice (some ⟨g0, 0, none⟩) N c))), (1, .c (.v (.int .i64 0))), (2, .c (.v (.int .i64 (N : Int)))), (6, .c (.v (.int .i64 (i : Int)))), (7, .c (.v (.int .i64 (y.2 : Int))))]) (fun _ => []) (fun y => [urowF (some ⟨g0, 0, none⟩) y.1 c])
      (fun y => y.1.Perm l ∧ But y.1 i y.2 ∧ y.2 ≤ i) (fun y => y.2) (xs, i) ⟨hp, But.start hu, Nat.le_refl _⟩ (Ent.same ⟨rfl, rfl, rfl, rfl, rfl, trivial⟩ rfl) g ?_
    rintro ⟨ys, j⟩ ⟨hyp, hb, hji⟩
    simp only at hyp hb hji
    have hyl : ys.length = N := by rw [hyp.length_eq, hN]
    refine draw_rule g p_slices_insertionSortOrdered_uint64_4 (by kernel_rfl) _ _ Sub.refl ?_
    have hcell : ∀ q, q < N → ∀ {cx : Cx} {β : Va} {w' : World} {n : Nat} {H : List Bk}, Sat cx β n H [urowF (some ⟨g0, 0, none⟩) ys c] w' → w'.cell? ((⟨g0, 0, none⟩ : Addr).add (q * 1)) = some (.int .u64 (at0 ys q)) := by
      intro q hq cx β w' n H hs
      have h := row_rd (hs.get 0 rfl)
      exact Rd.cell1 h (by rw [List.getElem?_map, at0_some (by omega)]; rfl)
    refine BIf.dec (fun hj => ?_) (fun hj => ?_)
    · have hj0 : (0 : Int) < j := hj
      refine ⟨⟨g0, 0, none⟩, j, rfl, rfl, by omega, .int .u64 (at0 ys j), fun β w' hs => hcell j (by omega) hs, ?_⟩
      refine ⟨((j - 1 : Nat) : Int), by rw [wrap_i64 (by omega) (by omega)]; omega, ?_⟩
      refine ⟨⟨g0, 0, none⟩, j - 1, rfl, rfl, by omega, .int .u64 (at0 ys (j - 1)), fun β w' hs => hcell (j - 1) (by omega) hs, ?_⟩
      obtain ⟨bb, hbb⟩ : ∃ bb, decide (at0 ys j < at0 ys (j - 1)) = bb := ⟨_, rfl⟩
      refine call_pu (v := .bool bb) (fun β w' hs => by rw [← hbb]; exact lessU_c w' _ _) ?_
      refine ⟨Sub.refl, ?_⟩
      cases bb with
      | true =>
        have hlt2 : at0 ys j < at0 ys (j - 1) := of_decide_eq_true hbb
        have hS : ∀ {n : Nat} {H : List Bk} {F : List Fact}, Sub (cx_slices_insertionSortOrdered_uint64 w (Un [urowF (some ⟨g0, 0, none⟩) l c])) n H F [] [] := fun {n H F} => Sub.of (List.nil_sublist _) (List.nil_sublist _)
        refine draw_rule g p_slices_insertionSortOrdered_uint64_6 (by kernel_rfl) [] [] hS ?_
        refine ⟨((j - 1 : Nat) : Int), by rw [wrap_i64 (by omega) (by omega)]; omega, ?_⟩
        refine ⟨((j - 1 : Nat) : Int), by rw [wrap_i64 (by omega) (by omega)]; omega, ?_⟩
        refine ⟨⟨g0, 0, none⟩, j - 1, rfl, rfl, by omega, ?_⟩
        refine ⟨⟨g0, 0, none⟩, j, rfl, rfl, by omega, ?_⟩
        have hsl : (sw ys j).length = N := by rw [sw_len, hyl]
        refine ⟨?_, ?_⟩
        · skip
          refine ⟨.int .u64 (at0 ys (j - 1)), fun β w' hs => hcell (j - 1) (by omega) hs, ?_⟩
          refine ⟨hS, ?_⟩
          refine ⟨.int .u64 (at0 ys j), fun β w' hs => hcell j (by omega) hs, ?_⟩
          refine ⟨hS, ?_⟩
          refine ⟨⟨g0, 0, none⟩, j, rfl, rfl, by omega, ?_⟩
          refine ⟨_, fun β w' hs => Sat.rowSet hs (j := 0) (us := [.int .u64 (at0 ys (j - 1))]) rfl (by show j * 1 + 1 ≤ ys.length * 1; omega) (fun u hu => by obtain rfl := List.mem_singleton.1 hu; rfl), ?_⟩
          refine ⟨hS, ?_⟩
          refine ⟨⟨g0, 0, none⟩, j - 1, rfl, rfl, by omega, ?_⟩
          refine ⟨_, fun β w' hs => Sat.rowSet hs (j := 0) (us := [.int .u64 (at0 ys j)]) rfl (by show (j - 1) * 1 + 1 ≤ ys.length * 1; omega) (fun u hu => by obtain rfl := List.mem_singleton.1 hu; rfl), ?_⟩
          refine ⟨hS, ?_⟩
          refine ⟨((j - 1 : Nat) : Int), by rw [wrap_i64 (by omega) (by omega)]; omega, ?_⟩
          exact ⟨(sw ys j, j - 1), ⟨(sw_perm (by omega) (by omega)).trans hyp, hb.swap (by omega) hji (by omega) hlt2, by show j - 1 ≤ i; omega⟩, by show j - 1 < j; omega, Ent.mk' ⟨rfl, rfl, rfl, rfl, rfl, trivial⟩ rfl (fun β w' hs => by
            show Sat _ _ _ _ [rowF ty_uint64 1 (.slice (some ⟨g0, 0, none⟩) (sw ys j).length c) (sw ys j).length ((sw ys j).map (Value.int .u64))] _
            rw [sw_len]
            have e : (sw ys j).map (Value.int .u64) = putAll (putAll (ys.map (Value.int .u64)) (j * 1) [.int .u64 (at0 ys (j - 1))]) ((j - 1) * 1) [.int .u64 (at0 ys j)] := by rw [uset, uset]; rfl
            rw [e]
            exact hs)⟩
        · skip
          refine ⟨.int .u64 (at0 ys j), fun β w' hs => hcell j (by omega) hs, ?_⟩
          refine ⟨hS, ?_⟩
          refine ⟨.int .u64 (at0 ys (j - 1)), fun β w' hs => hcell (j - 1) (by omega) hs, ?_⟩
          refine ⟨hS, ?_⟩
          refine ⟨⟨g0, 0, none⟩, j, rfl, rfl, by omega, ?_⟩
          refine ⟨_, fun β w' hs => Sat.rowSet hs (j := 0) (us := [.int .u64 (at0 ys (j - 1))]) rfl (by show j * 1 + 1 ≤ ys.length * 1; omega) (fun u hu => by obtain rfl := List.mem_singleton.1 hu; rfl), ?_⟩
          refine ⟨hS, ?_⟩
          refine ⟨⟨g0, 0, none⟩, j - 1, rfl, rfl, by omega, ?_⟩
          refine ⟨_, fun β w' hs => Sat.rowSet hs (j := 0) (us := [.int .u64 (at0 ys j)]) rfl (by show (j - 1) * 1 + 1 ≤ ys.length * 1; omega) (fun u hu => by obtain rfl := List.mem_singleton.1 hu; rfl), ?_⟩
          refine ⟨hS, ?_⟩
          refine ⟨((j - 1 : Nat) : Int), by rw [wrap_i64 (by omega) (by omega)]; omega, ?_⟩
          exact ⟨(sw ys j, j - 1), ⟨(sw_perm (by omega) (by omega)).trans hyp, hb.swap (by omega) hji (by omega) hlt2, by show j - 1 ≤ i; omega⟩, by show j - 1 < j; omega, Ent.mk' ⟨rfl, rfl, rfl, rfl, rfl, trivial⟩ rfl (fun β w' hs => by
            show Sat _ _ _ _ [rowF ty_uint64 1 (.slice (some ⟨g0, 0, none⟩) (sw ys j).length c) (sw ys j).length ((sw ys j).map (Value.int .u64))] _
            rw [sw_len]
            have e : (sw ys j).map (Value.int .u64) = putAll (putAll (ys.map (Value.int .u64)) (j * 1) [.int .u64 (at0 ys (j - 1))]) ((j - 1) * 1) [.int .u64 (at0 ys j)] := by rw [uset, uset]; rfl
            rw [e]
            exact hs)⟩
      | false =>
        refine ⟨((i + 1 : Nat) : Int), by rw [wrap_i64 (by omega) (by omega)]; rfl, ?_⟩
        exact ⟨(ys, i + 1), ⟨hyp, by show 1 ≤ i + 1; omega, hb.done hji (fun _ => of_decide_eq_false hbb), by show i + 1 ≤ N + 1; omega⟩, by show N + 1 - (i + 1) < N + 1 - i; omega, Ent.same ⟨rfl, rfl, rfl, rfl, trivial⟩ rfl⟩
    · have hj0 : ¬ (0 : Int) < j := hj
      refine ⟨Sub.refl, ?_⟩
      refine ⟨((i + 1 : Nat) : Int), by rw [wrap_i64 (by omega) (by omega)]; rfl, ?_⟩
      exact ⟨(ys, i + 1), ⟨hyp, by show 1 ≤ i + 1; omega, hb.done hji (fun h => by omega), by show i + 1 ≤ N + 1; omega⟩, by show N + 1 - (i + 1) < N + 1 - i; omega, Ent.same ⟨rfl, rfl, rfl, rfl, trivial⟩ rfl⟩
  · have hge0 : ¬ (i : Int) < N := hge
    intro β w' hs
    exact hs.fin [0] ⟨rfl, xs, hp, fun p q h1 h2 => hu p q h1 (by omega), rfl⟩
end Go.Proofs.YtjlpcjpeljlbeaaGreatDoor.Sx

/-
  DERIVED: THE SHELF's CONTRACTS AT THIS DUMP, IN PLAIN WORDS (tools/lay-plain.mjs out of 'TryzShelf.lean', which tools/lay-shelf.mjs wrote): THE SAME DECLARATIONS UNDER THE SAME NAMES: 'import', 'namespace', 'open', 'def', 'theorem' AND NOTHING ELSE: no command of the shelf's: FOR A HAND-IN. Each laying: the table of numbers ('.._ren') and one theorem, a field a fact of the dump's own or the kernel's comparison; each contract: ONE APPLICATION.
-/
namespace Go.Proofs
open Go.Shelf
def Tryz.lays125_ren : Go.Shelf.Ren := ⟨fun | 125 => 221 | 128 => 278 | 129 => 279 | n => n, fun | 46 => 199 | 3 => 3 | 51 => 99 | 53 => 29 | 4 => 4 | 5 => 5 | 9 => 9 | n => n, fun | n => n⟩
theorem Tryz.lays125 : Go.Proofs.Lays.n125 Tryz.prog Tryz.lays125_ren := {
  mixed := by kernel_rfl
  f125 := Tryz.func221.trans (congrArg some (by kernel_rfl))
  f128 := Tryz.func278.trans (congrArg some (by kernel_rfl))
  f129 := Tryz.func279.trans (congrArg some (by kernel_rfl))
  t3 := Tryz.underlying3
  a3 := Tryz.isAgg3
  z3 := Tryz.sizeOf3
  v3 := Tryz.zeroValue3
  t4 := Tryz.underlying4
  a4 := Tryz.isAgg4
  z4 := Tryz.sizeOf4
  v4 := Tryz.zeroValue4
  t5 := Tryz.underlying5
  a5 := Tryz.isAgg5
  z5 := Tryz.sizeOf5
  v5 := Tryz.zeroValue5
  t9 := Tryz.underlying9
  a9 := Tryz.isAgg9
  z9 := Tryz.sizeOf9
  v9 := Tryz.zeroValue9
  t46 := Tryz.underlying199
  a46 := Tryz.isAgg199
  z46 := Tryz.sizeOf199
  v46 := Tryz.zeroValue199
  t51 := Tryz.underlying99
  a51 := Tryz.isAgg99
  z51 := Tryz.sizeOf99
  v51 := Tryz.zeroValue99
  t53 := Tryz.underlying29
  a53 := Tryz.isAgg29
  z53 := Tryz.sizeOf29
  v53 := Tryz.zeroValue29 }
/-- bits.Len: "Len returns the minimum number of bits required to represent x; the result is 0 for x == 0.": IT RETURNS 'Lib.bitLen x'; the world is as it was. (A uint has 64 bits in the model.) ITS CALLEE bits.Len64 IS MET BY ITS OWN CONTRACT OFF THE SHELF (lay that first). (LAID: no walk: one application.) -/
theorem Tryz.bits_Len (x : Int) (w : World) (h0 : 0 ≤ x) (h1 : x ≤ 18446744073709551615) :
    Calls Tryz.prog 221 #[.int .u64 x] w fun e w' => e = .returned (.int .i64 (Lib.bitLen x.toNat)) ∧ w' = w := Any.bits_Len Tryz.lays125 x w h0 h1
def Tryz.lays283_ren : Go.Shelf.Ren := ⟨fun | 283 => 263 | n => n, fun | 3 => 3 | 9 => 9 | 4 => 4 | n => n, fun | n => n⟩
theorem Tryz.lays283 : Go.Proofs.Lays.n283 Tryz.prog Tryz.lays283_ren := {
  mixed := by kernel_rfl
  f283 := Tryz.func263.trans (congrArg some (by kernel_rfl))
  t3 := Tryz.underlying3
  a3 := Tryz.isAgg3
  z3 := Tryz.sizeOf3
  v3 := Tryz.zeroValue3
  t4 := Tryz.underlying4
  a4 := Tryz.isAgg4
  z4 := Tryz.sizeOf4
  v4 := Tryz.zeroValue4
  t9 := Tryz.underlying9
  a9 := Tryz.isAgg9
  z9 := Tryz.sizeOf9
  v9 := Tryz.zeroValue9 }
open Go.Lib in
/-- internal/strconv.small: "small returns the string for an i with 0 <= i < nSmalls.": i's decimal numeral. The world is as it was. (LAID: no walk: one application.) -/
theorem Tryz.internal_strconv_small (i : Nat) (h : i < 100) (w : World) :
    Calls Tryz.prog 263 #[.int .i64 i] w fun e w' => e = .returned (.string ⟨(Lib.decDigits i).toArray⟩) ∧ w' = w := Any.internal_strconv_small Tryz.lays283 i h w
def Tryz.lays212_ren : Go.Shelf.Ren := ⟨fun | 212 => 233 | 263 => 286 | 264 => 287 | n => n, fun | 46 => 199 | 51 => 99 | 146 => 349 | 53 => 29 | 148 => 351 | n => n, fun | n => n⟩
theorem Tryz.lays212 : Go.Proofs.Lays.n212 Tryz.prog Tryz.lays212_ren := {
  mixed := by kernel_rfl
  f212 := Tryz.func233.trans (congrArg some (by kernel_rfl))
  f263 := Tryz.func286.trans (congrArg some (by kernel_rfl))
  f264 := Tryz.func287.trans (congrArg some (by kernel_rfl))
  t46 := Tryz.underlying199
  a46 := Tryz.isAgg199
  z46 := Tryz.sizeOf199
  v46 := Tryz.zeroValue199
  t51 := Tryz.underlying99
  a51 := Tryz.isAgg99
  z51 := Tryz.sizeOf99
  v51 := Tryz.zeroValue99
  t53 := Tryz.underlying29
  a53 := Tryz.isAgg29
  z53 := Tryz.sizeOf29
  v53 := Tryz.zeroValue29
  t146 := Tryz.underlying349
  a146 := Tryz.isAgg349
  z146 := Tryz.sizeOf349
  v146 := Tryz.zeroValue349
  t148 := Tryz.underlying351
  a148 := Tryz.isAgg351
  z148 := Tryz.sizeOf351
  v148 := Tryz.zeroValue351 }
open Go.RowKit Go.Lib in
/-- math/bits.Mul: "Mul returns the full-width product of x and y": on a machine of 64 bits: Mul64's. (LAID: no walk: one application.) -/
theorem Tryz.bits_Mul (x y : Nat) (hx : x < 18446744073709551616) (hy : y < 18446744073709551616) (w : World) :
    Calls Tryz.prog 233 #[.int .u64 x, .int .u64 y] w fun e w' => e = .returned (.tuple #[.int .u64 ((x * y / 18446744073709551616 : Nat) : Int), .int .u64 ((x * y % 18446744073709551616 : Nat) : Int)]) ∧ w' = w := Any.bits_Mul Tryz.lays212 x y hx hy w
def Tryz.laysSlJ14_ren : Go.Shelf.Ren := ⟨fun | 14 => 114 | 15 => 178 | n => n, fun | 26 => 88 | 22 => 33 | 3 => 3 | 4 => 4 | 0 => 0 | 9 => 9 | 20 => 20 | 5 => 5 | n => n, fun | n => n⟩
theorem Tryz.laysSlJ14 : Go.Proofs.SlLaysJ.n14 Tryz.prog Tryz.laysSlJ14_ren := {
  mixed := by kernel_rfl
  f14 := Tryz.func114.trans (congrArg some (by kernel_rfl))
  f15 := Tryz.func178.trans (congrArg some (by kernel_rfl))
  t0 := Tryz.underlying0
  a0 := Tryz.isAgg0
  z0 := Tryz.sizeOf0
  v0 := Tryz.zeroValue0
  t3 := Tryz.underlying3
  a3 := Tryz.isAgg3
  z3 := Tryz.sizeOf3
  v3 := Tryz.zeroValue3
  t4 := Tryz.underlying4
  a4 := Tryz.isAgg4
  z4 := Tryz.sizeOf4
  v4 := Tryz.zeroValue4
  t9 := Tryz.underlying9
  a9 := Tryz.isAgg9
  z9 := Tryz.sizeOf9
  v9 := Tryz.zeroValue9
  t20 := Tryz.underlying20
  a20 := Tryz.isAgg20
  z20 := Tryz.sizeOf20
  v20 := Tryz.zeroValue20
  t22 := Tryz.underlying33
  a22 := Tryz.isAgg33
  z22 := Tryz.sizeOf33
  v22 := Tryz.zeroValue33
  t26 := Tryz.underlying88
  a26 := Tryz.isAgg88
  z26 := Tryz.sizeOf88
  v26 := Tryz.zeroValue88
  t5 := Tryz.underlying5
  z5 := Tryz.sizeOf5
  i5 := by kernel_rfl }
open Go.RowKit Go.Lib in
theorem Tryz.bytes_Join_many (b o n c : Nat) (vs : List Value) (ls : List (List UInt8)) (sv : Value) (sep : List UInt8) (w : World) (hn : ls.length = n) (h2 : 2 ≤ n) (hP : Lib.PartsAt w ⟨b, o, none⟩ vs ls) (hcap : n ≤ c) (hS : Lib.HoldsBytes w sv sep) (hn47 : n ≤ 140737488355328) (hlen : Lib.lens ls + sep.length * (n - 1) ≤ 140737488355328) :
    Calls Tryz.prog 114 #[.slice (some ⟨b, o, none⟩) n c, sv] w fun e w' => ∃ v', e = .returned v' ∧ Lib.FreshBytes w.heap.size w' v' (Lib.join ls sep) ∧ Below w.heap.size w w' := Any.bytes_Join_many Tryz.laysSlJ14 b o n c vs ls sv sep w hn h2 hP hcap hS hn47 hlen
end Go.Proofs

/- slices.Sort and slices.Sorted at few numbers. -/
namespace Go.Proofs.YtjlpcjpeljlbeaaGreatDoor.Sx
open Go
attribute [local irreducible] Calls

theorem pdqU_c (w : World) (A : Option Addr) (l : List Int) (c : Nat) (m : Int) (hl : l.length ≤ 12) (hm : Mem w [urowF A l c]) :
    Con Tryz.prog n_slices_pdqsortOrdered_uint64 #[.slice A l.length c, .int .i64 0, .int .i64 (l.length : Int), .int .i64 m] w [urowF A l c] fun v Fs => v = .tuple #[] ∧ ∃ l', l'.Perm l ∧ Upto l' l.length ∧ Fs = [urowF A l' c] := by
  have g := good_slices_pdqsortOrdered_uint64 w (Un [urowF A l c])
  have hs0 : Sat (cx_slices_pdqsortOrdered_uint64 w (Un [urowF A l c])) Va.z 0 [] [urowF A l c] w := hm.sat0 rfl (fun f hf _ k hk => ⟨f, hf, hk⟩)
  refine con_of_sx (cx := cx_slices_pdqsortOrdered_uint64 w (Un [urowF A l c])) g b_slices_pdqsortOrdered_uint64 rfl rfl (β := Va.z) [.c (.v (.slice A l.length c)), .c (.v (.int .i64 0)), .c (.v (.int .i64 (l.length : Int))), .c (.v (.int .i64 m))] 0 [] _ rfl rfl hs0 ?_
  refine loop_rule 0 (fun _ : Unit => [(0, .c (.v (.slice A l.length c))), (1, .c (.v (.int .i64 0))), (2, .c (.v (.int .i64 (l.length : Int))))]) (fun _ => []) (fun _ => [urowF A l c]) (fun _ => True) (fun _ => 0) () trivial (Ent.same ⟨rfl, rfl, rfl, trivial⟩ rfl) g ?_
  rintro ⟨⟩ -
  refine ⟨(l.length : Int), by rw [Int.sub_zero, wrap_i64 (by omega) (by omega)], ?_⟩
  refine BIf.dec (fun _ => ?_) (fun h => absurd (show (l.length : Int) ≤ 12 by omega) h)
  refine call_con [0] (fun β w' hs => insU_c w' A l c hl (hs.mem.take (js := [0]) rfl)) ?_
  rintro v Fs ⟨rfl, l', h1, h2, rfl⟩
  intro β w' hs
  exact hs.fin [0] ⟨rfl, l', h1, h2, rfl⟩
theorem bitsU_c (x : Nat) (hx : x < 18446744073709551616) : ∃ r : Int, ∀ w, Pu Tryz.prog n_math_bits_Len #[.int .u64 (x : Int)] w (.int .i64 r) := by
  refine ⟨((Lib.bitLen (x : Int).toNat : Nat) : Int), fun w => pu_of (Calls.mono (Tryz.bits_Len (x : Int) w (by omega) (by omega)) ?_)⟩
  rintro e w' ⟨rfl, rfl⟩
  exact ⟨_, rfl, rfl, Chg.refl _ _⟩
theorem sortU_c (w : World) (A : Option Addr) (l : List Int) (c : Nat) (hl : l.length ≤ 12) (hm : Mem w [urowF A l c]) :
    Con Tryz.prog n_slices_Sort_uint64_uint64 #[.slice A l.length c] w [urowF A l c] fun v Fs => v = .tuple #[] ∧ ∃ l', l'.Perm l ∧ Upto l' l.length ∧ Fs = [urowF A l' c] := by
  have g := good_slices_Sort_uint64_uint64 w (Un [urowF A l c])
  have hs0 : Sat (cx_slices_Sort_uint64_uint64 w (Un [urowF A l c])) Va.z 0 [] [urowF A l c] w := hm.sat0 rfl (fun f hf _ k hk => ⟨f, hf, hk⟩)
  refine con_of_sx (cx := cx_slices_Sort_uint64_uint64 w (Un [urowF A l c])) g b_slices_Sort_uint64_uint64 rfl rfl (β := Va.z) [.c (.v (.slice A l.length c))] 0 [] _ rfl rfl hs0 ?_
  refine ⟨(l.length : Int), by rw [wrap_u64']; omega, ?_⟩
  obtain ⟨r, hr⟩ := bitsU_c l.length (by omega)
  refine call_pu (fun β w' hs => hr w') ?_
  refine call_con [0] (fun β w' hs => pdqU_c w' A l c r hl (hs.mem.take (js := [0]) rfl)) ?_
  rintro v Fs ⟨rfl, l', h1, h2, rfl⟩
  intro β w' hs
  exact hs.fin [0] ⟨rfl, l', h1, h2, rfl⟩
theorem rising_of {l : List Int} (h : Upto l l.length) : l.Pairwise (· ≤ ·) := by
  rw [List.pairwise_iff_getElem]
  intro p q hp hq hpq
  have := h p q hpq hq
  simpa [at0, List.getD, hp, hq] using this
theorem sortedN_c (w : World) (k : FuncId) (bx : Nat) (ty : TypeId) (cs : List Value) (G G' : Fact) (n : Nat) (P : List Int → Prop) (hcall : callable Tryz.prog k = true) (hG : G.own = true) (hG' : G'.own = true) (hn : n ≤ 12) (hg : GivesN k bx ty cs G G' n P) (hm : Mem w [bkF bx ty cs, G]) :
    Con Tryz.prog 108 #[.func (.func k) #[] #[.pointer (some ⟨bx, 0, none⟩)]] w [bkF bx ty cs, G] fun v Fs => ∃ A c l, v = .slice A l.length c ∧ (∃ l0, P l0 ∧ l.Perm l0) ∧ l.length ≤ n ∧ l.Pairwise (· ≤ ·) ∧ (0 < l.length → ∃ ad, A = some ad) ∧ Fs = [urowF A l c, G'] := by
  have g := good_slices_Sorted_uint64 w (Un [bkF bx ty cs, G])
  have hs0 : Sat (cx_slices_Sorted_uint64 w (Un [bkF bx ty cs, G])) Va.z 0 [] [bkF bx ty cs, G] w := hm.sat0 rfl (fun f hf _ k hk => ⟨f, hf, hk⟩)
  refine con_of_sx (cx := cx_slices_Sorted_uint64 w (Un [bkF bx ty cs, G])) g b_slices_Sorted_uint64 rfl rfl (β := Va.z) [.c (.v (.func (.func k) #[] #[.pointer (some ⟨bx, 0, none⟩)]))] 0 [] _ rfl rfl hs0 ?_
  refine call_con [0, 1] (hown := ⟨rfl, hG, trivial⟩) (fun β w' hs => collectN_c w' k bx ty cs G G' n P hcall hG hG' (by omega) hg (hs.mem.take (js := [0, 1]) rfl)) ?_
  rintro v Fs ⟨A, c, l, rfl, hP, hlen, hA, rfl⟩
  refine call_con [0] (fun β w' hs => sortU_c w' A l c (by omega) (hs.mem.take (js := [0]) rfl)) ?_
  rintro v Fs ⟨rfl, l', h1, h2, rfl⟩
  have hl := h1.length_eq
  intro β w' hs
  refine hs.fin [0, 1] ⟨A, c, l', by rw [hl]; rfl, ⟨l, hP, h1⟩, by omega, rising_of (by rw [hl]; exact h2), by rw [hl]; exact hA, rfl⟩ rfl rfl rfl ⟨rfl, hG', trivial⟩
end Go.Proofs.YtjlpcjpeljlbeaaGreatDoor.Sx

/- strconv.FormatUint at small numbers. -/
namespace Go.Proofs.YtjlpcjpeljlbeaaGreatDoor.Sx
open Go
attribute [local irreducible] Calls

/-- A number's decimal numeral. -/
def decS (u : Nat) : ByteArray := ⟨(Lib.decDigits u).toArray⟩
theorem smallU_c (w : World) (u : Nat) (hu : u < 100) : Pu Tryz.prog n_internal_strconv_small #[.int .i64 (u : Int)] w (.string (decS u)) := by
  refine pu_of (Calls.mono (Tryz.internal_strconv_small u hu w) ?_)
  rintro e w' ⟨rfl, rfl⟩
  exact ⟨_, rfl, rfl, Chg.refl _ _⟩
theorem fmtI_c (w : World) (u : Nat) (hu : u < 100) : Pu Tryz.prog n_internal_strconv_FormatUint #[.int .u64 (u : Int), .int .i64 10] w (.string (decS u)) := by
  obtain ⟨x, hx⟩ : ∃ x : Int, (u : Int) = x := ⟨_, rfl⟩
  rw [hx]
  refine con_of_sx (cx := cx_internal_strconv_FormatUint w (Un [])) (good_internal_strconv_FormatUint w (Un [])) b_internal_strconv_FormatUint rfl rfl (β := Va.z) [.c (.v (.int .u64 x)), .c (.v (.int .i64 10))] 0 [] [] rfl rfl (Sat.start rfl) ?_
  refine BIf.dec (fun _ => ?_) (fun h => absurd (show x < 100 by omega) h)
  refine ⟨x, by rw [wrap_i64 (by omega) (by omega)], ?_⟩
  refine call_pu (fun β w' hs => by rw [← hx]; exact smallU_c w' u hu) ?_
  intro β w' hs
  exact hs.fin [] ⟨rfl, rfl⟩
theorem fmtU_c (w : World) (u : Nat) (hu : u < 100) : Pu Tryz.prog n_strconv_FormatUint #[.int .u64 (u : Int), .int .i64 10] w (.string (decS u)) := by
  refine con_of_sx (cx := cx_strconv_FormatUint w (Un [])) (good_strconv_FormatUint w (Un [])) b_strconv_FormatUint rfl rfl (β := Va.z) [.c (.v (.int .u64 (u : Int))), .c (.v (.int .i64 10))] 0 [] [] rfl rfl (Sat.start rfl) ?_
  refine call_pu (fun β w' hs => fmtI_c w' u hu) ?_
  intro β w' hs
  exact hs.fin [] ⟨rfl, rfl⟩
end Go.Proofs.YtjlpcjpeljlbeaaGreatDoor.Sx

/- Statements one by one: so that a rule stands at each. -/
namespace Go.Proofs.YtjlpcjpeljlbeaaGreatDoor.Sx
open Go

section
variable {cx : Cx} {n : Nat} {H : List Bk} {F : List Fact} {w : World}
theorem calls_of_tri {f : FuncId} {fn : Func} {c : Code} {R : Value → World → Prop} (g : Good cx) (hf : cx.P.funcs[f]? = some fn) (hb : fn.body = some c) (hN : fn.ntmps = cx.N)
    {β : Va} (svs : List SV) (n : Nat) (H : List Bk) (F : List Fact) (hlen : Nat.ble svs.length cx.N = true) (hltB : allLt n svs = true) (hs : Sat cx β n H F w)
    (hw : Tri cx c (fnPost cx fn.results.toList R) n (pairs 0 svs) H F) (hr : cx.rnd = none := by rfl) (hm : β.marks = [] := by rfl) (hp0 : cx.pn = [] := by rfl) :
    Calls cx.P f (svs.map (SV.val β)).toArray w fun e w' => ∃ v, e = .returned v ∧ R v w' := by
  have hfe : cx.fence = Fence.wide := by unfold Cx.fence; rw [hr]
  refine (callsIn_wide (n := 0)).1 (callsIn_of_wp_marks hf hb trivial ?_)
  have hlt := allLt_mem hltB
  have hlen' : svs.length ≤ cx.N := Nat.le_of_ble_eq_true hlen
  have hi : Inv cx β n (pairs 0 svs) H F { tmps := (svs.map (SV.val β)).toArray ++ Array.replicate (fn.ntmps - (svs.map (SV.val β)).toArray.size) undef, defers := [] } w := by
    refine ⟨fun t s ht => ?_, ?_, by rw [hm]; rfl, fun t s ht => ?_, hs⟩
    · obtain ⟨j, rfl, hj⟩ := pairs_get svs 0 t s ht
      have hjl : j < svs.length := (List.getElem?_eq_some_iff.1 hj).1
      rw [Array.getElem?_append_left (by simp; omega)]
      simp [hj]
    · simp [hN]; omega
    · obtain ⟨j, rfl, hj⟩ := pairs_get svs 0 t s ht
      exact hlt s (List.mem_of_getElem? hj)
  have h0 := hw.run β _ w hi
  rw [hfe] at h0
  refine wpIn_mono h0 fun e a' w' hq => ?_
  have key : After cx (RetWP cx fn.results.toList R) a' w' → LeavesInM Fence.wide 0 cx.P fn a'.tmps (fun e w' => ∃ v, e = .returned v ∧ R v w') a'.defers .returning w' := by
    rintro ⟨β', n', env', H', F', h', hp⟩
    rw [← hfe]
    have hd := h'.df
    obtain ⟨tmps, defers⟩ := a'
    simp only at hd
    subst hd
    exact leaves_sx g hr hp0 _ β' w' rfl h' hp
  cases e with
  | normal => exact key hq
  | ret => exact key hq
  | exit id => obtain ⟨_, _, _, _, _, _, hq⟩ := hq; exact hq.elim
  | goto l => obtain ⟨_, _, _, _, _, _, hq⟩ := hq; exact hq.elim
  | panic ch => exact hq.elim
  | outgrown => exact hq.elim
theorem con_of_tri {f : FuncId} {fn : Func} {c : Code} {Gs : List Fact} {R : Value → List Fact → Prop} (g : Good cx) (hf : cx.P.funcs[f]? = some fn) (hb : fn.body = some c) (hN : fn.ntmps = cx.N)
    {β : Va} (svs : List SV) (n : Nat) (H : List Bk) (F : List Fact) (hlen : Nat.ble svs.length cx.N = true) (hltB : allLt n svs = true) (hs : Sat cx β n H F w)
    (hw : Tri cx c (fnPost cx fn.results.toList (Fin w Gs R)) n (pairs 0 svs) H F) (hr : cx.rnd = none := by rfl) (hm : β.marks = [] := by rfl) (hp0 : cx.pn = [] := by rfl) :
    Con cx.P f (svs.map (SV.val β)).toArray w Gs R := calls_of_tri g hf hb hN svs n H F hlen hltB hs hw hr hm hp0
theorem tri_seq (g : Good cx) {c1 c2 : Code} {Q : Exit → KT} {env : Env} (h : cwp cx c1 (andThen (fun n env H F => Tri cx c2 Q n env H F) Q) n env H F) : Tri cx (.seq c1 c2) Q n env H F := by
  refine ⟨fun β a w hi => wpIn_seq (wpIn_mono ((cwp_sound g c1 _ n env H F h).run β a w hi) fun e a w hq => ?_)⟩
  cases e with
  | normal =>
    obtain ⟨β', n', env', H', F', h', hq'⟩ := hq
    exact hq'.run β' a w h'
  | exit i => exact hq
  | goto l => exact hq
  | ret => exact hq
  | panic c => exact hq
  | outgrown => exact hq
theorem tri_of (g : Good cx) {c : Code} {Q : Exit → KT} {env : Env} (h : cwp cx c Q n env H F) : Tri cx c Q n env H F := cwp_sound g c Q n env H F h
end
theorem tri_seqJ {cx : Cx} {n : Nat} {H : List Bk} {F : List Fact} {ι : Type} (g : Good cx) {c1 c2 : Code} {Q : Exit → KT} {env : Env} (T : ι → Prop) (n' : Nat) (E : ι → Env) (HH : ι → List Bk) (FF : ι → List Fact) (hkey : ∀ i, T i → Tri cx c2 Q n' (E i) (HH i) (FF i))
    (h : cwp cx c1 (andThen (fun n env H F => EntX cx n env H F T n' E HH FF) Q) n env H F) : Tri cx (.seq c1 c2) Q n env H F := by
  refine ⟨fun β a w hi => wpIn_seq (wpIn_mono ((cwp_sound g c1 _ n env H F h).run β a w hi) fun e a w hq => ?_)⟩
  cases e with
  | normal =>
    obtain ⟨β', n', env', H', F', h', hq'⟩ := hq
    exact (tri_join T _ E HH FF hkey hq').run β' a w h'
  | exit i => exact hq
  | goto l => exact hq
  | ret => exact hq
  | panic c => exact hq
  | outgrown => exact hq
end Go.Proofs.YtjlpcjpeljlbeaaGreatDoor.Sx

/- The reference's numerals. -/
namespace Go.Proofs.YtjlpcjpeljlbeaaGreatDoor.Sx
open Go
attribute [local irreducible] Calls

def digS : ByteArray := ⟨#[48, 49, 50, 51, 52, 53, 54, 55, 56, 57]⟩
theorem digS_at : ∀ d : _root_.Fin 10, digS.extract d.1 (d.1 + 1) = ⟨#[UInt8.ofNat (48 + d.1)]⟩ := by decide +kernel
theorem decD_small {n : Nat} (h : n < 10) : Lib.decDigits n = [UInt8.ofNat (48 + n)] := by rw [Lib.decDigits, dif_pos h]
theorem decD_big {n : Nat} (h : ¬ n < 10) : Lib.decDigits n = Lib.decDigits (n / 10) ++ [UInt8.ofNat (48 + n % 10)] := by rw [Lib.decDigits, dif_neg h]
theorem decD_len : ∀ k n : Nat, n < 10 ^ (k + 1) → (Lib.decDigits n).length ≤ k + 1
  | 0, n, h => by rw [decD_small (by simpa using h)]; exact Nat.le_refl _
  | k + 1, n, h => by
    by_cases hn : n < 10
    · rw [decD_small hn]; show 1 ≤ _; omega
    · rw [decD_big hn, List.length_append]
      have := decD_len k (n / 10) (by rw [Nat.div_lt_iff_lt_mul (by decide)]; rw [Nat.pow_succ] at h; exact h)
      show _ + 1 ≤ _
      omega
theorem decS_len20 {n : Nat} (h : n < 18446744073709551616) : (decS n).size ≤ 20 := decD_len 19 n (Nat.lt_trans h (by decide))
structure DecJ where
  n : Nat
  s : ByteArray
theorem dec_c (w : World) (N : Nat) (hN : N < 18446744073709551616) : Pu Tryz.prog n_ostiaryref15_Dec #[.int .u64 (N : Int)] w (.string (decS N)) := by
  have g := good_ostiaryref15_Dec w (Un [])
  have hml := maxLen_eq
  obtain ⟨x0, hx0⟩ : ∃ x0 : Int, (N : Int) = x0 := ⟨_, rfl⟩
  rw [hx0]
  refine con_of_sx (cx := cx_ostiaryref15_Dec w (Un [])) g b_ostiaryref15_Dec rfl rfl (β := Va.z) [.c (.v (.int .u64 x0))] 0 [] [] rfl rfl (Sat.start rfl) ?_
  rw [← hx0]
  refine loop_rule (ι := DecJ) 0 (fun j => [(0, .c (.v (.int .u64 (j.n : Int)))), (3, .c (.v (.string j.s)))]) (fun _ => []) (fun _ => [])
    (fun j => j.n < 18446744073709551616 ∧ Lib.decDigits j.n ++ j.s.data.toList = Lib.decDigits N) (fun j => j.n) ⟨N, ⟨#[]⟩⟩ ⟨hN, by simp⟩ (Ent.same ⟨rfl, rfl, trivial⟩ rfl) g ?_
  rintro ⟨n, s⟩ ⟨hn, hd⟩
  simp only at hn hd
  have hsz : s.size ≤ 20 := by
    have h1 := decS_len20 hN
    have h2 : (decS N).size = (Lib.decDigits N).length := rfl
    rw [h2, ← hd, List.length_append] at h1
    have h3 : s.size = s.data.toList.length := rfl
    omega
  have hd10 : n % 10 < 10 := Nat.mod_lt _ (by decide)
  refine ⟨by decide, ((n % 10 : Nat) : Int), Int.ofNat_tmod _ _, ?_⟩
  refine ⟨by decide, ((n % 10 : Nat) : Int), Int.ofNat_tmod _ _, ?_⟩
  refine ⟨((n % 10 + 1 : Nat) : Int), by rw [wrap_u64']; omega, ?_⟩
  refine ⟨n % 10 + 1, n % 10, rfl, rfl, by show n % 10 + 1 ≤ 10; omega, by omega, ?_⟩
  have hex := digS_at ⟨n % 10, hd10⟩
  have hex2 : (⟨#[48, 49, 50, 51, 52, 53, 54, 55, 56, 57]⟩ : ByteArray).extract (n % 10) (n % 10 + 1) = ⟨#[UInt8.ofNat (48 + n % 10)]⟩ := hex
  rw [hex2]
  refine ⟨by show 1 + s.size ≤ maxLen; omega, ?_⟩
  refine ⟨by decide, ((n / 10 : Nat) : Int), by show IntKind.u64.wrap ((n : Int).tdiv 10) = _; rw [wrap_u64', Int.tdiv_eq_ediv_of_nonneg (by omega)]; omega, ?_⟩
  refine BIf.dec (fun h0 => ?_) (fun h0 => ?_)
  · have h00 : ((n / 10 : Nat) : Int) = 0 := h0
    intro β w' hs
    refine hs.fin [] ⟨?_, rfl⟩
    have h10 : n < 10 := by omega
    rw [Nat.mod_eq_of_lt h10]
    have e : (⟨#[UInt8.ofNat (48 + n)]⟩ ++ s : ByteArray) = decS N := by
      apply ByteArray.ext
      apply Array.ext'
      have e1 : (decS N).data.toList = Lib.decDigits N := rfl
      rw [e1, ← hd, decD_small h10, ByteArray.data_append]
      simp
    rw [e]
    rfl
  · have h00 : ¬ ((n / 10 : Nat) : Int) = 0 := h0
    refine ⟨⟨n / 10, ⟨#[UInt8.ofNat (48 + n % 10)]⟩ ++ s⟩, ⟨by show n / 10 < _; omega, ?_⟩, by show n / 10 < n; omega, Ent.same ⟨rfl, rfl, trivial⟩ rfl⟩
    show Lib.decDigits (n / 10) ++ (⟨#[UInt8.ofNat (48 + n % 10)]⟩ ++ s : ByteArray).data.toList = _
    rw [← hd, decD_big (n := n) (by omega), ByteArray.data_append]
    simp
end Go.Proofs.YtjlpcjpeljlbeaaGreatDoor.Sx

/- The sum of a text. -/
namespace Go.Proofs.YtjlpcjpeljlbeaaGreatDoor.Sx
open Go Sha
attribute [local irreducible] Calls

theorem rd_sub_row {e size k n c : Nat} {A : Option Addr} {xs ys : List Value} : ∀ g, (rdF size A k xs).D g → (rowF e size (.slice A n c) n ys).D g := by
  rintro g ⟨_, ad, rfl, rfl⟩
  rfl
/-- The last one is only read. -/
theorem Mem.lastRd {w : World} {f R X : Fact} {e c : Nat} {A : Option Addr} {l : List UInt8} (h : Mem w [f, R, X, browF e A l c]) : Mem w [f, R, X, bsF A l] := by
  have hp : Bs w A l := row_rd (h.fact (browF e A l c) (by simp))
  refine ⟨fun g hg => ?_, fun g hg k hk => ?_, ?_⟩
  · simp only [List.mem_cons, List.not_mem_nil, or_false] at hg
    rcases hg with rfl | rfl | rfl | rfl
    · exact h.fact _ (by simp)
    · exact h.fact _ (by simp)
    · exact h.fact _ (by simp)
    · exact hp
  · simp only [List.mem_cons, List.not_mem_nil, or_false] at hg
    rcases hg with rfl | rfl | rfl | rfl
    · exact h.flt g (by simp) k hk
    · exact h.flt g (by simp) k hk
    · exact h.flt g (by simp) k hk
    · exact h.flt (browF e A l c) (by simp) k (rd_sub_row k hk)
  · obtain ⟨h1, h2⟩ := List.pairwise_cons.1 h.sepf
    obtain ⟨h3, h4⟩ := List.pairwise_cons.1 h2
    obtain ⟨h5, _⟩ := List.pairwise_cons.1 h4
    refine List.pairwise_cons.2 ⟨fun g hg ho => ?_, List.pairwise_cons.2 ⟨fun g hg ho => ?_, List.pairwise_cons.2 ⟨fun g hg ho => ?_, List.pairwise_singleton _ _⟩⟩⟩
    · simp only [List.mem_cons, List.not_mem_nil, or_false] at hg
      rcases hg with rfl | rfl | rfl
      · exact h1 _ (by simp) ho
      · exact h1 _ (by simp) ho
      · exact fun k hk q => h1 (browF e A l c) (by simp) (.inr rfl) k hk (rd_sub_row k q)
    · simp only [List.mem_cons, List.not_mem_nil, or_false] at hg
      rcases hg with rfl | rfl
      · exact h3 _ (by simp) ho
      · exact fun k hk q => h3 (browF e A l c) (by simp) (.inr rfl) k hk (rd_sub_row k q)
    · obtain rfl := List.mem_singleton.1 hg
      exact fun k hk q => h5 (browF e A l c) (by simp) (.inr rfl) k hk (rd_sub_row k q)
theorem Blocks_c (w : World) (A : Option Addr) (n c : Nat) : Con Tryz.prog n_sha_Blocks #[.slice A n c] w [] (fun v Fs => ∃ bx, v = .func (.func n_sha_Blocks_1) #[] #[.pointer (some ⟨bx, 0, none⟩)] ∧ Fs = [bkF bx ty_sl_uint8 [.slice A n c]]) := by
  refine con_of_sx (cx := cx_sha_Blocks w (Un [])) (good_sha_Blocks w (Un [])) b_sha_Blocks rfl rfl (β := Va.z) [.c (.v (.slice A n c))] 0 [] [] rfl rfl (Sat.start rfl) ?_
  intro β w' hs
  exact hs.ofBk.fin [0] ⟨β 0, rfl, rfl⟩
/-- One part. -/
theorem join1_c (w : World) (P A : Option Addr) (cP c : Nat) (l : List UInt8) (hP : Rd 1 P 1 [.slice A l.length c] w) (hr : Bs w A l) (hn : l.length ≤ 140737488355328) :
    Con Tryz.prog n_bytes_Join #[.slice P 1 cP, .slice none 0 0] w [] fun v Fs => ∃ A' c', v = .slice A' l.length c' ∧ l.length ≤ c' ∧ c' ≤ maxLen ∧ Fs = [browF ty_uint8 A' l c'] := by
  have hs0 : Sat (cx_bytes_Join w (Un [])) Va.z 0 [] [oldF w] w := old_sat rfl
  refine con_of_sx (cx := cx_bytes_Join w (Un [])) (good_bytes_Join w (Un [])) b_bytes_Join rfl rfl (β := Va.z) [.c (.v (.slice P 1 cP)), .c (.v (.slice none 0 0))] 0 [] [browF ty_uint8 none [] 0, oldF w] rfl rfl (hs0.nilRow _ _) ?_
  obtain ⟨ad, rfl, hc⟩ := hP.2 (by decide)
  refine ⟨ad, 0, rfl, rfl, by decide, .slice A l.length c, fun β w' hs => ?_, ?_⟩
  · have h1 : Rd 1 (some ad) 1 [.slice A l.length c] w' := hP.old (hs.get 1 rfl)
    obtain ⟨ad', h2, h3⟩ := h1.2 (by decide)
    obtain rfl := Option.some.inj h2
    exact h3 0 _ rfl
  refine ⟨0, 0, l.length, [], l.map byte, _, rfl, fun β w' hs => hr.old (hs.get 1 rfl), bytes_one l, Nat.zero_add _, rfl, by rw [maxLen_eq]; omega, by show l.length * 1 ≤ _; omega, ?_⟩
  intro A' c' h1 h2 h3 β w' hs
  exact hs.fin [0] ⟨A', c', rfl, h1, h2, rfl⟩

theorem step64_c (w : World) (b ty : Nat) (s : S8) (A : Option Addr) (x : List UInt8) (hx : x.length = 64) (hm : Mem w [stF b ty s, bsF A x, oddF 2]) :
    Con Tryz.prog n_sha_state_step #[.pointer (some ⟨b, 0, none⟩), .slice A 64 64] w [stF b ty s] fun v Fs => v = .tuple #[] ∧ Fs = [stF b ty (Sha.step s x)] := by
  have := step_c w b ty s A x 64 hm (by omega) (by omega) (by decide)
  rw [hx] at this
  exact this

/-- The tables that are read. -/
def firstF (g : Nat) : Fact := rdF 1 (some ⟨g, 0, none⟩) 8 (Sha.first.l.map u32)
theorem sum1_c (w : World) (P A : Option Addr) (cP c : Nat) (l : List UInt8) (hP : Rd 1 P 1 [.slice A l.length c] w) (hr : Bs w A l) (hn : l.length ≤ 70368744177664) (h1 : (oddF 2).p w) (h0 : (firstF 0).p w) :
    Con Tryz.prog n_sha_Sum #[.slice P 1 cP] w [] fun v Fs => ∃ A' c', v = .slice A' 32 c' ∧ 32 ≤ c' ∧ c' ≤ maxLen ∧ Fs = [browF ty_uint8 A' (Sha.sum l) c'] := by
  have g := good_sha_Sum w (Un [])
  have hs0 : Sat (cx_sha_Sum w (Un [])) Va.z 0 [] [oldF w] w := old_sat rfl
  have hs1 : Sat (cx_sha_Sum w (Un [])) Va.z 0 [] [oddF 2, oldF w] w := hs0.sub 0 rfl rfl _ rfl h1 (rd_lt h1)
  refine con_of_sx (cx := cx_sha_Sum w (Un [])) g b_sha_Sum rfl rfl (β := Va.z) [.c (.v (.slice P 1 cP))] 0 [] [oddF 2, oldF w] rfl rfl hs1 ?_
  refine ⟨Sha.first.l.map u32, rfl, fun β w' hs j u hu => ?_, ?_⟩
  · have h2 : Rd 1 (some ⟨0, 0, none⟩) 8 (Sha.first.l.map u32) w' := Rd.old h0 (hs.get 1 rfl)
    obtain ⟨ad, h3, h4⟩ := h2.2 (by decide)
    obtain rfl := Option.some.inj h3
    exact h4 j u hu
  refine call_con [] (fun β w' hs => join1_c w' P A cP c l (hP.old (hs.get 1 rfl)) (hr.old (hs.get 1 rfl)) (by omega)) ?_
  rintro v Fs ⟨A1, c1, rfl, h2, h3, rfl⟩
  refine call_con [] (fun β w' hs => Blocks_c w' A1 l.length c1) ?_
  rintro v Fs ⟨bx, rfl, rfl⟩
  refine reify_rule g 0 (fun _ => Sha.first.l.map u32) rfl rfl (fun _ => rfl) (fun sb => ?_)
  obtain ⟨q, hq⟩ : ∃ q, l ++ ends l.length = q := ⟨_, rfl⟩
  have hsum : Sha.sum l = out ((blks q (q.length / 64)).foldl Sha.step Sha.first) := by rw [← go_eq, ← hq]; rfl
  rw [hsum]
  refine range_rule (α := List UInt8) (ι := S8) (κ := S8) g rfl (cv := [.pointer (some ⟨bx, 0, none⟩)]) rfl (by kernel_rfl) 1 (Nat.le_refl 1)
    (fun pre s => s = pre.foldl Sha.step Sha.first) (fun _ => []) (fun s => [stF sb 290 s]) (fun _ => ⟨rfl, trivial⟩)
    (fun _ _ _ => False) (fun _ => []) (fun _ => []) (fun _ => trivial)
    [bkF bx ty_sl_uint8 [.slice A1 l.length c1]] [browF ty_uint8 A1 l c1] [oddF 2] ⟨rfl, trivial⟩ (fun g hg => by obtain rfl := List.mem_singleton.1 hg; rfl)
    Sha.first rfl (fun β w' hs => ⟨β, Agr.refl _ _, hs.perm [1, 2, 0, 3]⟩) (fun _ => insB)
    (fun xs Fs' => xs = blks q (q.length / 64) ∧ Fs' = []) (fun _ Fs' => Fs' = [])
    (fun l' w' f0 R J Jx hJ0 hJo hRo hY hm => (blocks_it l' w' bx A1 l c1 f0 R J Jx hJ0 hJo hRo hY hn hm.lastRd).mono fun _ Fs h => by rw [hq] at h; exact h) ?_ ?_ ?_
  · rintro s pre x args X W S l' bs pn pn' hbs hpre ⟨hx, B, rfl, rfl⟩
    refine ⟨_, rfl, ?_⟩
    refine call_con [1] (fun β w' hs => step64_c w' sb 290 s B x hx (hs.mem.take (js := [1, 0, 2]) rfl)) ?_
    rintro v Fs ⟨rfl, rfl⟩
    refine ⟨Sha.step s x, by show Sha.step s x = (pre ++ [x]).foldl Sha.step Sha.first; rw [List.foldl_append, hpre]; rfl, Ent.mk' trivial rfl (fun β w' hs => ?_)⟩
    exact hs.weaken (List.Sublist.refl _) (List.Sublist.cons_cons _ (List.nil_sublist _))
  · rintro xs s Fs hpre ⟨rfl, rfl⟩
    refine call_con [0] (fun β w' hs => stbytes_c w' sb 290 s (hs.mem.take (js := [0]) rfl)) ?_
    rintro v Fs ⟨A3, c3, rfl, h5, h6, rfl⟩
    intro β w' hs
    refine hs.fin [1] ⟨A3, c3, rfl, h5, h6, ?_⟩
    rw [← hpre]
    rfl
  · rintro e pre s Fs h _
    exact h.elim
end Go.Proofs.YtjlpcjpeljlbeaaGreatDoor.Sx

/- The references' small words on bytes. -/
namespace Go.Proofs.YtjlpcjpeljlbeaaGreatDoor.Sx
open Go
attribute [local irreducible] Calls

theorem copy_c (w : World) (A : Option Addr) (l : List UInt8) (c : Nat) (hr : Bs w A l) (hn : l.length ≤ lim) :
    Calls Tryz.prog n_ostiaryref01_Copy #[.slice A l.length c] w fun e w' => ∃ v, e = .returned v ∧ ∃ A' c', v = .slice A' l.length c' ∧ Chg None_ w w' ∧ NewRow w w' A' l c' ty_uint8 := by
  refine calls_of_sx (cx := cx_ostiaryref01_Copy w None_) (good_ostiaryref01_Copy w None_) b_ostiaryref01_Copy rfl rfl (β := Va.z) [.c (.v (.slice A l.length c))] 0 [] [bsF A l] rfl rfl ((Sat.start rfl).rd (fun _ h => by cases h) hr) ?_
  intro b
  refine ⟨0, 0, l.length, [], l.map byte, _, rfl, fun β w hs => hs.get 1 rfl, bytes_one l, Nat.zero_add _, rfl, by rw [maxLen_eq]; rw [lim_eq] at hn; omega, by show l.length * 1 ≤ _; rw [lim_eq] at hn; omega, ?_⟩
  intro A' c' h1 h2 h3 β w' hs
  exact ⟨A', c', rfl, hs.chg, hs.newRow rfl 0 rfl h1 h2⟩

theorem cut_c (w : World) (A : Option Addr) (l : List UInt8) (c k : Nat) (hr : Bs w A l) (hc : l.length ≤ c) (hn : k ≤ lim) :
    Calls Tryz.prog n_ostiaryref01_Cut #[.slice A l.length c, .int .i64 k] w fun e w' => ∃ v, e = .returned v ∧ ∃ A' c', v = .slice A' (l.take k).length c' ∧ Chg None_ w w' ∧ NewRow w w' A' (l.take k) c' ty_uint8 := by
  have hk : (l.take k).length = min l.length k := by simp; omega
  refine calls_of_sx (cx := cx_ostiaryref01_Cut w None_) (good_ostiaryref01_Cut w None_) b_ostiaryref01_Cut rfl rfl (β := Va.z) [.c (.v (.slice A l.length c)), .c (.v (.int .i64 k))] 0 [] [bsF A l] rfl rfl ((Sat.start rfl).rd (fun _ h => by cases h) hr) ?_
  intro b
  refine ⟨_, mn _ _, ?_⟩
  refine ⟨c, min l.length k, 0, (l.take k).length, c, _, rfl, rfl, rfl, Nat.le_refl _, by omega, Nat.zero_le _, by omega, rfl, rfl, ?_⟩
  refine ⟨0, 0, (l.take k).length, [], (l.take k).map byte, _, rfl, fun β w hs => ?_, bytes_one _, Nat.zero_add _, rfl, by rw [maxLen_eq]; rw [lim_eq] at hn; omega, by show (l.take k).length * 1 ≤ _; rw [lim_eq] at hn; omega, ?_⟩
  · have h1 := Bs.cut (hs.get 1 rfl : Bs w A l) (c := c) (m := c) (i := 0) (j := (l.take k).length) hc (.inl rfl) (Nat.zero_le _) (by omega) (Nat.le_refl _)
    rw [Nat.sub_zero, List.drop_zero] at h1
    rw [show l.take (l.take k).length = l.take k by rw [hk]; simp [List.take_eq_take_iff, Nat.min_comm]] at h1
    exact h1
  intro A' c' h1 h2 h3 β w' hs
  exact ⟨A', c', rfl, hs.chg, hs.newRow rfl 0 rfl h1 h2⟩

theorem same_c (w : World) (A B : Option Addr) (l m : List UInt8) (c d : Nat) (hl : Bs w A l) (hm : Bs w B m) :
    Calls Tryz.prog n_ostiaryref01_Same #[.slice A l.length c, .slice B m.length d] w fun e w' => ∃ v, e = .returned v ∧ v = .bool (decide (l = m)) ∧ Chg None_ w w' := by
  refine calls_of_sx (cx := cx_ostiaryref01_Same w None_) (good_ostiaryref01_Same w None_) b_ostiaryref01_Same rfl rfl (β := Va.z) [.c (.v (.slice A l.length c)), .c (.v (.slice B m.length d))] 0 [] [bsF B m, bsF A l] rfl rfl (((Sat.start rfl).rd (fun _ h => by cases h) hl).rd (fun g h => by obtain rfl := List.mem_singleton.1 h; rfl) hm) ?_
  refine ⟨l, fun β w hs => hs.get 1 rfl, ?_⟩
  refine ⟨m, fun β w hs => hs.get 0 rfl, ?_⟩
  intro β w' hs
  refine ⟨?_, hs.chg⟩
  show Value.bool (decide ((⟨l.toArray⟩ : ByteArray) = ⟨m.toArray⟩)) = _
  congr 1
  simp

/-- Bytes as a number, the highest first. -/
def numB (l : List UInt8) : Nat := l.foldl (fun a x => (a * 256 + x.toNat) % 18446744073709551616) 0
theorem numB_snoc (l : List UInt8) (x : UInt8) : numB (l ++ [x]) = (numB l * 256 + x.toNat) % 18446744073709551616 := by simp [numB]
theorem take_snoc (l : List UInt8) (k : Nat) (h : k < l.length) : l.take (k + 1) = l.take k ++ [l[k]] := by rw [List.take_succ_eq_append_getElem h]
theorem wrap_u64 (x : Int) : IntKind.u64.wrap x = x % 18446744073709551616 := by simp [IntKind.wrap, IntKind.bits, IntKind.signed]

theorem num_c (w : World) (A : Option Addr) (l : List UInt8) (c : Nat) (hr : Bs w A l) (hn : l.length ≤ lim) :
    Calls Tryz.prog n_ostiaryref01_Num #[.slice A l.length c] w fun e w' => ∃ v, e = .returned v ∧ v = .int .u64 (numB l) ∧ Chg None_ w w' := by
  rw [lim_eq] at hn
  have g := good_ostiaryref01_Num w None_
  refine calls_of_sx (cx := cx_ostiaryref01_Num w None_) g b_ostiaryref01_Num rfl rfl (β := Va.z) [.c (.v (.slice A l.length c))] 0 [] [bsF A l] rfl rfl ((Sat.start rfl).rd (fun _ h => by cases h) hr) ?_
  refine loop_rule 0 (fun k : Nat => [(6, .c (.v (.slice A l.length c))), (7, .c (.v (.int .i64 l.length))), (8, .c (.v (.int .i64 k))), (3, .c (.v (.int .u64 (numB (l.take k)))))]) (fun _ => []) (fun _ => [bsF A l])
    (fun k => k ≤ l.length) (fun k => l.length - k) 0 (Nat.zero_le _) (Ent.same ⟨rfl, rfl, rfl, rfl, trivial⟩ rfl) g ?_
  intro k hk
  refine BIf.dec (fun hlt => ?_) (fun hge => ?_)
  · have hlt : k < l.length := by omega
    obtain ⟨ad, hA⟩ := Bs.addr hr (by omega)
    refine ⟨ad, k, hA, rfl, hlt, byte l[k], fun β w hs => Bs.cell (hs.get 0 rfl) hA hlt, ?_⟩
    refine ⟨_, wrap_u64 _, ?_⟩
    refine ⟨((l[k].toNat : Nat) : Int), by rw [wrap_u64]; have := l[k].toNat_lt; omega, ?_⟩
    refine ⟨(numB (l.take (k + 1)) : Int), by rw [wrap_u64, take_snoc l k hlt, numB_snoc]; omega, ?_⟩
    refine ⟨((k + 1 : Nat) : Int), by rw [wrap_i64 (by omega) (by omega)]; rfl, ?_⟩
    exact ⟨k + 1, hlt, by omega, Ent.same ⟨rfl, rfl, rfl, rfl, trivial⟩ rfl⟩
  · intro β w' hs
    refine ⟨?_, hs.chg⟩
    show Value.int .u64 (numB (l.take k)) = _
    rw [List.take_of_length_le (by omega)]
end Go.Proofs.YtjlpcjpeljlbeaaGreatDoor.Sx

/- The references' bytes of a number. -/
namespace Go.Proofs.YtjlpcjpeljlbeaaGreatDoor.Sx
open Go
attribute [local irreducible] Calls

/-- A number's bytes, the highest first. -/
def be : Nat → Nat → List UInt8
  | 0, _ => []
  | k + 1, n => be k (n / 256) ++ [UInt8.ofNat (n % 256)]
theorem be_length : ∀ k n, (be k n).length = k
  | 0, _ => rfl
  | k + 1, n => by simp [be, be_length k]
theorem ofNat_toNat (n : Nat) (h : n < 256) : (UInt8.ofNat n).toNat = n := by simp; omega
theorem byte_ofNat (n : Nat) (h : n < 256) : byte (UInt8.ofNat n) = .int .u8 (n : Int) := by simp only [byte, ofNat_toNat n h]
theorem wrap_u8 (x : Int) : IntKind.u8.wrap x = x % 256 := by simp [IntKind.wrap, IntKind.bits, IntKind.signed]

theorem NewRow.none (w w' : World) (e : Nat) : NewRow w w' none [] 0 e :=
  ⟨Nat.le_refl _, Nat.zero_le _, World.ownsRow_nil w' 0 e 1, fun k hk => by cases hk⟩
theorem NewRow.from {w w1 w' : World} {A : Option Addr} {l : List UInt8} {c e : Nat} (h : NewRow w1 w' A l c e) (hs : w.heap.size ≤ w1.heap.size) : NewRow w w' A l c e :=
  ⟨h.1, h.2.1, h.2.2.1, fun k hk => Nat.le_trans hs (h.2.2.2 k hk)⟩

theorem bytes_c (w : World) (n k : Nat) (hn : n < 18446744073709551616) (hk : k ≤ 4096) :
    Calls Tryz.prog n_ostiaryref01_Bytes #[.int .u64 n, .int .i64 k] w fun e w' => ∃ v, e = .returned v ∧ ∃ A' c', v = .slice A' (be k n).length c' ∧ Chg None_ w w' ∧ NewRow w w' A' (be k n) c' ty_uint8 := by
  have g := good_ostiaryref01_Bytes w None_
  refine calls_of_sx (cx := cx_ostiaryref01_Bytes w None_) g b_ostiaryref01_Bytes rfl rfl (β := Va.z) [.c (.v (.int .u64 n)), .c (.v (.int .i64 k))] 0 [] [] rfl rfl (Sat.start rfl) ?_
  refine ⟨k, k, rfl, rfl, Nat.le_refl _, by show 1 * k ≤ _; omega, by rw [maxLen_eq]; omega, ?_⟩
  intro b
  refine ⟨_, wrap_i64 (by omega) (by omega), ?_⟩
  refine loop_rule (ι := Nat × Nat × List UInt8) 0 (fun i => [(0, .c (.v (.int .u64 i.2.1))), (5, .c (.v (.slice (some ⟨b, 0, none⟩) k k))), (6, .c (.v (.int .i64 ((i.1 : Int) - 1))))]) (fun _ => [])
    (fun i => [rowF ty_uint8 1 (.slice (some ⟨b, 0, none⟩) k k) k (List.replicate i.1 (.int .u8 0) ++ i.2.2.map byte)])
    (fun i => i.2.1 < 18446744073709551616 ∧ i.1 ≤ k ∧ i.1 + i.2.2.length = k ∧ be i.1 i.2.1 ++ i.2.2 = be k n) (fun i => i.1) (k, n, []) ⟨hn, Nat.le_refl _, by simp, by simp⟩ (Ent.mk' ⟨rfl, rfl, rfl, trivial⟩ rfl ?_) g ?_
  · intro β w' hs
    have e : repl ti5.zero k = List.replicate k (.int .u8 0) ++ List.map byte [] := by
      have : ∀ k, repl [Value.int .u8 0] k = List.replicate k (.int .u8 0) := fun k => by
        induction k with
        | zero => rfl
        | succ k ih => simp [repl, ih, List.replicate_succ]
      simp only [List.map_nil, List.append_nil]
      exact this k
    rw [← e]
    exact hs
  rintro ⟨i, m, suf⟩ ⟨hm, hik, hlen, hbe⟩
  simp only at hm hik hlen hbe
  refine BIf.dec (fun h0 => ?_) (fun h0 => ?_)
  · obtain ⟨j, rfl⟩ : ∃ j, i = j + 1 := ⟨i - 1, by omega⟩
    refine ⟨by omega, ((m % 256 : Nat) : Int), by dsimp only; rw [Int.tmod_eq_emod_of_nonneg (by omega)]; omega, ?_⟩
    refine ⟨((m % 256 : Nat) : Int), by rw [wrap_u8]; omega, ?_⟩
    refine ⟨⟨b, 0, none⟩, j, rfl, by omega, by omega, ?_⟩
    refine ⟨_, fun β w' hs => Sat.rowSet hs (j := 0) (us := [.int .u8 ((m % 256 : Nat) : Int)]) rfl (by show j * 1 + 1 ≤ k * 1; omega) (fun u hu => by obtain rfl := List.mem_singleton.1 hu; rfl), ?_⟩
    refine ⟨by omega, ((m / 256 : Nat) : Int), by dsimp only; rw [wrap_u64, Int.tdiv_eq_ediv_of_nonneg (by omega)]; omega, ?_⟩
    refine ⟨((j : Int) - 1), by rw [wrap_i64 (by omega) (by omega)]; omega, ?_⟩
    refine ⟨(j, m / 256, UInt8.ofNat (m % 256) :: suf), ⟨by show m / 256 < _; omega, by show j ≤ k; omega, by show j + (suf.length + 1) = k; omega, by
      show be j (m / 256) ++ (UInt8.ofNat (m % 256) :: suf) = _
      rw [← hbe]; simp [be]⟩, by show j < j + 1; omega, Ent.mk' ⟨rfl, rfl, rfl, trivial⟩ rfl ?_⟩
    intro β w' hs
    have e : putAll (List.replicate (j + 1) (Value.int .u8 0) ++ suf.map byte) (j * 1) [.int .u8 ((m % 256 : Nat) : Int)] = List.replicate j (.int .u8 0) ++ (UInt8.ofNat (m % 256) :: suf).map byte := by
      rw [putAll, putAll, putAt_eq, Nat.mul_one, List.replicate_succ', List.append_assoc, List.set_append_right _ _ (by simp)]
      simp [byte_ofNat _ (Nat.mod_lt m (by omega : 0 < 256))]
    rw [← e]
    exact hs
  · intro β w' hs
    have hi : i = 0 := by omega
    subst hi
    simp only [be, List.nil_append] at hbe
    refine ⟨some ⟨b, 0, none⟩, k, by rw [be_length]; rfl, hs.chg, hs.newRow rfl 0 ?_ (by rw [be_length]; omega) (by rw [maxLen_eq]; omega)⟩
    rw [← hbe] at *
    show some (rowF _ 1 (.slice _ k k) k _) = some (rowF _ 1 (.slice _ suf.length k) suf.length _)
    rw [show suf.length = k by omega]
    rfl
end Go.Proofs.YtjlpcjpeljlbeaaGreatDoor.Sx

/- The document's words for sums. -/
namespace Go.Proofs.YtjlpcjpeljlbeaaGreatDoor.Sx
open Go Sha
attribute [local irreducible] Calls

def stV (s : S8) : Value := .agg (s.l.map u32).toArray
theorem be4 (x : UInt32) : be 4 x.toNat = b4 x := by
  have hx := x.toNat_lt
  simp only [be, b4, List.nil_append, List.cons_append]
  have e : ∀ n, n < 256 → ∀ y : UInt8, y.toNat = n → UInt8.ofNat n = y := fun n _ y h => by rw [← h, UInt8.ofNat_toNat]
  have h1 : ∀ k : Nat, k < 32 → (x >>> UInt32.ofNat k).toNat = x.toNat / 2 ^ k := fun k hk => by
    rw [UInt32.toNat_shiftRight, UInt32.toNat_ofNat', Nat.mod_eq_of_lt (show k < 2 ^ 32 by omega), Nat.mod_eq_of_lt hk, Nat.shiftRight_eq_div_pow]
  congr 1
  · exact e _ (by omega) _ (by rw [UInt32.toNat_toUInt8, show (24 : UInt32) = UInt32.ofNat 24 from rfl, h1 24 (by omega)] <;> omega)
  congr 1
  · exact e _ (by omega) _ (by rw [UInt32.toNat_toUInt8, show (16 : UInt32) = UInt32.ofNat 16 from rfl, h1 16 (by omega)] <;> omega)
  congr 1
  · exact e _ (by omega) _ (by rw [UInt32.toNat_toUInt8, show (8 : UInt32) = UInt32.ofNat 8 from rfl, h1 8 (by omega)] <;> omega)
  congr 1
  exact e _ (by omega) _ (by rw [UInt32.toNat_toUInt8])
theorem ofNat_mod (n : Nat) : UInt8.ofNat (n % 256) = UInt8.ofNat n := by
  apply UInt8.toNat_inj.1
  rw [UInt8.toNat_ofNat', UInt8.toNat_ofNat']
  omega
theorem be8 (n : Nat) : be 8 n = Sha.long n := by
  simp only [be, Sha.long, List.nil_append, List.cons_append, ofNat_mod, List.map_cons, List.map_nil, Nat.div_div_eq_div_mul]
  simp

theorem first_c (w : World) : Pu Tryz.prog n_ostiaryref01_First #[] w (stV Sha.first) := by
  refine pu_of (calls_of_sx (cx := cx_ostiaryref01_First w None_) (good_ostiaryref01_First w None_) b_ostiaryref01_First rfl rfl (β := Va.z) [] 0 [] [] rfl rfl (Sat.start rfl) ?_)
  intro β w' hs
  exact ⟨rfl, hs.chg⟩

theorem be_con (w : World) (n k : Nat) (hn : n < 18446744073709551616) (hk : k ≤ 4096) :
    Con Tryz.prog n_ostiaryref01_Bytes #[.int .u64 n, .int .i64 k] w [] fun v Fs => ∃ A c, v = .slice A (be k n).length c ∧ (be k n).length ≤ c ∧ c ≤ maxLen ∧ Fs = [browF ty_uint8 A (be k n) c] := con_row (bytes_c w n k hn hk)
theorem tail_c (w : World) (n : Nat) (hn : n ≤ 140737488355328) :
    Con Tryz.prog n_ostiaryref01_Tail #[.int .u64 n] w [] fun v Fs => ∃ A c, v = .slice A (Sha.ends n).length c ∧ (Sha.ends n).length ≤ c ∧ c ≤ maxLen ∧ Fs = [browF ty_uint8 A (Sha.ends n) c] := by
  have g := good_ostiaryref01_Tail w (Un [])
  have hz : zeros n < 64 := by unfold zeros; omega
  refine con_of_sx (cx := cx_ostiaryref01_Tail w (Un [])) g b_ostiaryref01_Tail rfl rfl (β := Va.z) [.c (.v (.int .u64 n))] 0 [] [] rfl rfl (Sat.start rfl) ?_
  intro b0
  refine ⟨by decide, ((n % 64 : Nat) : Int), by rw [Int.tmod_eq_emod_of_nonneg (by omega)]; omega, ((n % 64 + 1 : Nat) : Int), by rw [wrap_u64']; omega, ?_⟩
  refine loop_rule (ι := Nat × Option Addr × Nat) 0 (fun i => [(0, .c (.v (.int .u64 n))), (4, .c (.v (.int .u64 ((n % 64 + 1 + i.1 : Nat) : Int)))), (3, .c (.v (.slice i.2.1 (i.1 + 1) i.2.2)))]) (fun _ => [])
    (fun i => [rowF ty_uint8 1 (.slice i.2.1 (i.1 + 1) i.2.2) (i.1 + 1) (((0x80 : UInt8) :: List.replicate i.1 0).map byte)])
    (fun i => i.1 ≤ zeros n ∧ i.1 + 1 ≤ i.2.2 ∧ i.2.2 ≤ maxLen) (fun i => zeros n - i.1) (0, some ⟨b0, 0, none⟩, 1) ⟨Nat.zero_le _, Nat.le_refl _, by show 1 ≤ maxLen; decide⟩ (Ent.same ⟨rfl, rfl, rfl, trivial⟩ rfl) g ?_
  rintro ⟨i, A, c⟩ ⟨hi, hc, hcm⟩
  simp only at hi hc hcm
  obtain ⟨r, hr⟩ : ∃ r : Nat, (n % 64 + 1 + i) % 64 = r := ⟨_, rfl⟩
  refine ⟨by decide, (r : Int), by dsimp only; rw [Int.tmod_eq_emod_of_nonneg (by omega)]; omega, ?_⟩
  refine BIf.not (BIf.dec (fun h0 => ?_) (fun h0 => ?_))
  · have hiz : i = zeros n := by unfold zeros at *; omega
    refine ⟨((8 * n : Nat) : Int), by rw [wrap_u64']; omega, ?_⟩
    refine call_con [] (fun β w' hs => be_con w' (8 * n) 8 (by omega) (by omega)) ?_
    rintro v Fs ⟨A2, c2, rfl, h1, h2, rfl⟩
    have hl : (Sha.ends n).length = i + 1 + 8 := by rw [Sha.ends_len, hiz]; omega
    refine ⟨1, i + 1, (Sha.ends n).length, _, (be 8 (8 * n)).map byte, (Sha.ends n).map byte, rfl, fun β w hs => row_rd (hs.get 0 rfl), bytes_one _, by rw [be_length]; exact hl.symm, by rw [← List.map_append, be8, hiz]; rfl, by rw [maxLen_eq, hl]; omega, by show (Sha.ends n).length * 1 ≤ _; omega, ?_⟩
    intro A' c' h3 h4 _
    intro β w' hs
    exact hs.fin [1] ⟨A', c', rfl, h3, h4, rfl⟩
  · have hiz : i < zeros n := by
      rcases Nat.lt_or_ge i (zeros n) with h | h
      · exact h
      · exfalso
        apply h0
        have : i = zeros n := by omega
        subst this
        unfold zeros at hr
        omega
    intro b2
    refine ⟨1, i + 1, i + 1 + 1, ((0x80 : UInt8) :: List.replicate i 0).map byte, [(0 : UInt8)].map byte, _, rfl, fun β w hs => row_rd (hs.get 0 rfl), bytes_one _, rfl, rfl, by rw [maxLen_eq]; omega, by show (i + 1 + 1) * 1 ≤ _; omega, ?_⟩
    intro A' c' h1 h2 _
    refine ⟨((n % 64 + 1 + (i + 1) : Nat) : Int), by dsimp only; rw [wrap_u64']; omega, ?_⟩
    refine ⟨(i + 1, A', c'), ⟨hiz, h1, h2⟩, by show zeros n - (i + 1) < zeros n - i; omega, Ent.mk' ⟨rfl, rfl, rfl, trivial⟩ rfl (fun β w' hs => ?_)⟩
    have h3 := hs.weaken (List.Sublist.refl _) (List.sublist_cons_self _ _)
    show Sat _ _ _ _ [rowF ty_uint8 1 (.slice A' (i + 1 + 1) c') (i + 1 + 1) (((0x80 : UInt8) :: List.replicate (i + 1) 0).map byte)] _
    rw [List.replicate_succ', ← List.cons_append, List.map_append]
    exact h3

theorem out_c (w : World) (s : S8) :
    Con Tryz.prog n_ostiaryref01_Out #[stV s] w [] fun v Fs => ∃ A c, v = .slice A 32 c ∧ 32 ≤ c ∧ c ≤ maxLen ∧ Fs = [browF ty_uint8 A (out s) c] := by
  have g := good_ostiaryref01_Out w (Un [])
  refine con_of_sx (cx := cx_ostiaryref01_Out w (Un [])) g b_ostiaryref01_Out rfl rfl (β := Va.z) [.agg (s.l.map sl32)] 0 [] [browF ty_uint8 none [] 0] rfl rfl ((Sat.start rfl).nilRow _ _) ?_
  refine loop_rule (ι := Nat × Option Addr × Nat) 1 (fun i => [(6, .agg (s.l.map sl32)), (7, .c (.v (.int .i64 i.1))), (3, .c (.v (.slice i.2.1 (4 * i.1) i.2.2)))]) (fun _ => [⟨0, 360, s.l.map sl32⟩])
    (fun i => [rowF ty_uint8 1 (.slice i.2.1 (4 * i.1) i.2.2) (4 * i.1) ((outN s i.1).map byte)])
    (fun i => i.1 ≤ 8 ∧ 4 * i.1 ≤ i.2.2 ∧ i.2.2 ≤ maxLen) (fun i => 8 - i.1) (0, none, 0) ⟨Nat.zero_le _, Nat.zero_le _, Nat.zero_le _⟩ (Ent.same ⟨rfl, rfl, rfl, trivial⟩ rfl) g ?_
  rintro ⟨i, A, c⟩ ⟨hi, hc, hcm⟩
  simp only at hi hc hcm
  refine BIf.dec (fun hlt => ?_) (fun hge => ?_)
  · have hlt : i < 8 := by omega
    obtain ⟨x, hx⟩ : ∃ x, s.l.getD i 0 = x := ⟨_, rfl⟩
    have hxl := x.toNat_lt
    refine ⟨i, sl32 x, rfl, hlt, by show (s.l.map sl32)[i * 1]? = _; rw [Nat.mul_one, ← hx]; exact l_get s i hlt, ?_⟩
    refine ⟨(x.toNat : Int), by rw [wrap_u64']; omega, ?_⟩
    refine call_con [] (fun β w' hs => be_con w' x.toNat 4 (by omega) (by omega)) ?_
    rintro v Fs ⟨A2, c2, rfl, h1, h2, rfl⟩
    refine ⟨1, 4 * i, 4 * (i + 1), (outN s i).map byte, (b4 x).map byte, _, rfl, fun β w hs => by rw [← be4]; exact row_rd (hs.get 0 rfl), bytes_one _, by rw [be_length]; omega, rfl, by rw [maxLen_eq]; omega, by show 4 * (i + 1) * 1 ≤ _; omega, ?_⟩
    intro A' c' h3 h4 _
    refine ⟨((i + 1 : Nat) : Int), by rw [wrap_i64 (by omega) (by omega)]; rfl, ?_⟩
    refine ⟨(i + 1, A', c'), ⟨by show i + 1 ≤ 8; omega, h3, h4⟩, by show 8 - (i + 1) < 8 - i; omega, Ent.mk' ⟨rfl, rfl, rfl, trivial⟩ rfl (fun β w' hs => ?_)⟩
    have e1 := outN_succ s i hlt
    rw [hx] at e1
    have h5 := hs.weaken (List.Sublist.refl _) (List.sublist_cons_self _ _)
    show Sat _ _ _ _ [rowF ty_uint8 1 (.slice A' (4 * (i + 1)) c') (4 * (i + 1)) ((outN s (i + 1)).map byte)] _
    rw [← e1, List.map_append]
    exact h5
  · obtain rfl : i = 8 := by omega
    intro β w' hs
    exact (hs.keepB (List.nil_sublist _)).fin [0] ⟨A, c, rfl, hc, hcm, rfl⟩
end Go.Proofs.YtjlpcjpeljlbeaaGreatDoor.Sx

/- The document's step. -/
namespace Go.Proofs.YtjlpcjpeljlbeaaGreatDoor.Sx
open Go Sha
attribute [local irreducible] Calls

theorem take4 (l : List UInt8) (k : Nat) (h : k + 4 ≤ l.length) : (l.drop k).take 4 = [l.getD k 0, l.getD (k + 1) 0, l.getD (k + 2) 0, l.getD (k + 3) 0] := by
  refine List.ext_getElem? fun j => ?_
  rw [List.getElem?_take]
  have g : ∀ j, j < 4 → (l.drop k)[j]? = some (l.getD (k + j) 0) := fun j hj => getD_drop l k j (by omega)
  match j with
  | 0 => simpa using g 0 (by omega)
  | 1 => simpa using g 1 (by omega)
  | 2 => simpa using g 2 (by omega)
  | 3 => simpa using g 3 (by omega)
  | n + 4 => simp; omega
theorem numB4 (a b c d : UInt8) : IntKind.u32.wrap (numB [a, b, c, d] : Int) = ((word a b c d).toNat : Int) := by
  have h1 := a.toNat_lt
  have h2 := b.toNat_lt
  have h3 := c.toNat_lt
  have h4 := d.toNat_lt
  have : numB [a, b, c, d] = a.toNat * 16777216 + b.toNat * 65536 + c.toNat * 256 + d.toNat := by
    simp only [numB, List.foldl_cons, List.foldl_nil]
    omega
  rw [this, wrap32_nat]
  rfl
theorem nxt_ac (a b c d : UInt32) : ((d + c) + b) + a = a + b + c + d := by ac_rfl

theorem odd_cell3 {g : Nat} {w : World} (h : (oddF g).p w) {i : Nat} (hi : i < 64) : w.cell? ((⟨g, 0, none⟩ : Addr).add (i * 1)) = some (u32 (K.getD i 0)) := odd_cell h hi
theorem rstep_c (w : World) (s : S8) (A : Option Addr) (l : List UInt8) (c : Nat) (hr : Bs w A l) (hk : (oddF 8).p w) (hc : l.length ≤ c) (hl : 64 ≤ l.length) (hm : c ≤ maxLen) :
    Pu Tryz.prog n_ostiaryref01_Step #[stV s, .slice A l.length c] w (stV (Sha.step s l)) := by
  have g := good_ostiaryref01_Step w (Un [])
  obtain ⟨ws, hws⟩ : ∃ ws, W l = ws := ⟨_, rfl⟩
  have hwl : ws.length = 64 := by rw [← hws]; exact W_len l
  have hst0 : Sha.step s l = s.add (rounds s ws 64) := by rw [Sha.step, hws]
  rw [hst0]
  have hs0 : Sat (cx_ostiaryref01_Step w (Un [])) Va.z 0 [] [oldF w] w := old_sat rfl
  have hs1 : Sat (cx_ostiaryref01_Step w (Un [])) Va.z 0 [] [bsF A l, oddF 8, oldF w] w := (hs0.sub 0 rfl rfl (oddF 8) rfl hk (rd_lt hk)).sub 1 rfl rfl (bsF A l) rfl hr (rd_lt hr)
  rw [maxLen_eq] at hm
  refine con_of_sx (cx := cx_ostiaryref01_Step w (Un [])) g b_ostiaryref01_Step rfl rfl (β := Va.z) [.agg (s.l.map sl32), .c (.v (.slice A l.length c))] 0 [] [bsF A l, oddF 8, oldF w] rfl rfl hs1 ?_
  have e0 : arr 64 [] = ti344.zero.map SL.v := by simp only [arr, List.nil_append, List.length_nil, List.map_replicate]; rfl
  refine loop_rule (ι := Nat) 3 (fun i => [(1, .c (.v (.slice A l.length c))), (2, .c (.p 0 0)), (4, .c (.p 1 0)), (5, .c (.p 2 0)), (6, .c (.v (.int .i64 i)))]) (fun i => [⟨2, 344, arr 64 (sched l i)⟩, ⟨1, 360, ti360.zero.map SL.v⟩, ⟨0, 360, s.l.map sl32⟩]) (fun _ => [bsF A l, oddF 8, oldF w])
    (fun i => i ≤ 64) (fun i => 64 - i) 0 (Nat.zero_le _) (Ent.mk' ⟨rfl, rfl, rfl, rfl, rfl, trivial⟩ rfl (fun β w' hs => by rw [show sched l 0 = [] from rfl, e0]; exact hs)) g ?_
  intro i hi
  refine BIf.dec (fun hlt => ?_) (fun hge => ?_)
  · have hlt : i < 64 := by omega
    have hsl : (sched l i).length = i := sched_len l i
    have ld : ∀ {k : Nat}, k < i → nth (arr 64 (sched l i)) (0 + k * 1) = some (sl32 ((sched l i).getD k 0)) := fun {k} hk => by
      rw [nth_eq, Nat.zero_add, Nat.mul_one]; exact arr_get (by omega)
    have fin : ∀ (x : UInt32), (if i < 16 then wordAt l i else nxt (sched l i) i) = x → putAll (arr 64 (sched l i)) (0 + i * 1) [sl32 x] = arr 64 (sched l (i + 1)) := fun x hx => by
      rw [putAll, putAll, putAt_eq, Nat.zero_add, Nat.mul_one]
      have := arr_set (n := 64) (ws := sched l i) (by omega) x
      rw [hsl] at this
      rw [this, sched, hx]
    have ble : Nat.ble (0 + i * 1 + 1) (arr 64 (sched l i)).length = true := by rw [arr_len (by omega), Nat.ble_eq]; omega
    refine BIf.dec (fun h16 => ?_) (fun h16 => ?_)
    · have h16 : i < 16 := by omega
      refine ⟨((4 * i : Nat) : Int), by rw [wrap_i64 (by omega) (by omega)]; omega, ((4 * i : Nat) : Int), by rw [wrap_i64 (by omega) (by omega)]; omega, ((4 * i + 4 : Nat) : Int), by rw [wrap_i64 (by omega) (by omega)]; omega, ?_⟩
      refine ⟨c, 4 * i + 4, 4 * i, 4, c - 4 * i, _, rfl, rfl, rfl, Nat.le_refl _, by omega, by omega, by omega, rfl, rfl, ?_⟩
      refine call_pu (fun β w' hs => pu_of (num_c w' (cutA A c (4 * i) 1) [l.getD (4 * i) 0, l.getD (4 * i + 1) 0, l.getD (4 * i + 2) 0, l.getD (4 * i + 3) 0] (c - 4 * i) ?_ (by show 4 ≤ lim; decide))) ?_
      · have h7 := Bs.cut (hs.get 0 rfl : Bs w' A l) (c := c) (m := c) (i := 4 * i) (j := 4 * i + 4) hc (.inl rfl) (by omega) (by omega) (Nat.le_refl _)
        rw [show 4 * i + 4 - 4 * i = 4 by omega, take4 l (4 * i) (by omega)] at h7
        exact h7
      refine ⟨_, numB4 _ _ _ _, i, rfl, by omega, ?_⟩
      conv => whnf
      generalize h1 : Nat.ble _ _ = b1
      obtain rfl : b1 = true := h1.symm.trans ble
      clear h1
      refine ⟨((i + 1 : Nat) : Int), by rw [wrap_i64 (by omega) (by omega)]; rfl, ?_⟩
      refine ⟨i + 1, by omega, by omega, Ent.mk' ⟨rfl, rfl, rfl, rfl, rfl, trivial⟩ rfl (fun β w' hs => ?_)⟩
      rw [← fin _ (if_pos h16)]
      exact hs
    · have h16 : ¬ i < 16 := by omega
      obtain ⟨xa, hxa⟩ : ∃ xa, (sched l i).getD (i - 15) 0 = xa := ⟨_, rfl⟩
      obtain ⟨xb, hxb⟩ : ∃ xb, (sched l i).getD (i - 2) 0 = xb := ⟨_, rfl⟩
      refine draw_rule g p_ostiaryref01_Step_7 (by kernel_rfl) _ _ Sub.refl ?_
      refine ⟨((i - 15 : Nat) : Int), by rw [wrap_i64 (by omega) (by omega)]; omega, i - 15, rfl, by omega, ?_⟩
      conv => whnf
      generalize hn : nth _ _ = o
      obtain rfl : o = some (sl32 xa) := hn.symm.trans (by rw [← hxa]; exact ld (by omega))
      clear hn
      refine ⟨((i - 15 : Nat) : Int), by rw [wrap_i64 (by omega) (by omega)]; omega, i - 15, rfl, by omega, ?_⟩
      conv => whnf
      generalize hn : nth _ _ = o
      obtain rfl : o = some (sl32 xa) := hn.symm.trans (by rw [← hxa]; exact ld (by omega))
      clear hn
      refine ⟨((i - 15 : Nat) : Int), by rw [wrap_i64 (by omega) (by omega)]; omega, i - 15, rfl, by omega, ?_⟩
      conv => whnf
      generalize hn : nth _ _ = o
      obtain rfl : o = some (sl32 xa) := hn.symm.trans (by rw [← hxa]; exact ld (by omega))
      clear hn
      refine ⟨by omega, _, shr32 xa 3 (by omega), ?_⟩
      refine call_pu (fun β w' hs => turn_c w' xa 7 (by omega) (by omega)) ?_
      refine ⟨Sub.refl, ?_⟩
      refine call_pu (fun β w' hs => turn_c w' xa 18 (by omega) (by omega)) ?_
      refine ⟨Sub.refl, _, xor32 _ _, _, xor32 _ _, ?_⟩
      refine draw_rule g p_ostiaryref01_Step_8 (by kernel_rfl) _ _ Sub.refl ?_
      refine ⟨((i - 2 : Nat) : Int), by rw [wrap_i64 (by omega) (by omega)]; omega, i - 2, rfl, by omega, ?_⟩
      conv => whnf
      generalize hn : nth _ _ = o
      obtain rfl : o = some (sl32 xb) := hn.symm.trans (by rw [← hxb]; exact ld (by omega))
      clear hn
      refine ⟨((i - 2 : Nat) : Int), by rw [wrap_i64 (by omega) (by omega)]; omega, i - 2, rfl, by omega, ?_⟩
      conv => whnf
      generalize hn : nth _ _ = o
      obtain rfl : o = some (sl32 xb) := hn.symm.trans (by rw [← hxb]; exact ld (by omega))
      clear hn
      refine ⟨((i - 2 : Nat) : Int), by rw [wrap_i64 (by omega) (by omega)]; omega, i - 2, rfl, by omega, ?_⟩
      conv => whnf
      generalize hn : nth _ _ = o
      obtain rfl : o = some (sl32 xb) := hn.symm.trans (by rw [← hxb]; exact ld (by omega))
      clear hn
      refine ⟨by omega, _, shr32 xb 10 (by omega), ?_⟩
      refine call_pu (fun β w' hs => turn_c w' xb 17 (by omega) (by omega)) ?_
      refine ⟨Sub.refl, ?_⟩
      refine call_pu (fun β w' hs => turn_c w' xb 19 (by omega) (by omega)) ?_
      refine ⟨Sub.refl, _, xor32 _ _, _, xor32 _ _, ?_⟩
      refine draw_rule g p_ostiaryref01_Step_9 (by kernel_rfl) _ _ Sub.refl ?_
      refine ⟨((i - 7 : Nat) : Int), by rw [wrap_i64 (by omega) (by omega)]; omega, i - 7, rfl, by omega, ?_⟩
      conv => whnf
      generalize hn : nth _ _ = o
      obtain rfl : o = some (sl32 ((sched l i).getD (i - 7) 0)) := hn.symm.trans (ld (by omega))
      clear hn
      refine ⟨_, add32 _ _, _, add32 _ _, ?_⟩
      refine ⟨((i - 16 : Nat) : Int), by rw [wrap_i64 (by omega) (by omega)]; omega, i - 16, rfl, by omega, ?_⟩
      conv => whnf
      generalize hn : nth _ _ = o
      obtain rfl : o = some (sl32 ((sched l i).getD (i - 16) 0)) := hn.symm.trans (ld (by omega))
      clear hn
      refine ⟨_, add32 _ _, i, rfl, by omega, ?_⟩
      conv => whnf
      generalize h1 : Nat.ble _ _ = b1
      obtain rfl : b1 = true := h1.symm.trans ble
      clear h1
      refine ⟨((i + 1 : Nat) : Int), by rw [wrap_i64 (by omega) (by omega)]; rfl, ?_⟩
      refine ⟨i + 1, by omega, by omega, Ent.mk' ⟨rfl, rfl, rfl, rfl, rfl, trivial⟩ rfl (fun β w' hs => ?_)⟩
      rw [← fin (((s1 xb + (sched l i).getD (i - 7) 0) + s0 xa) + (sched l i).getD (i - 16) 0) (by rw [if_neg h16, nxt, hxa, hxb, nxt_ac])]
      exact hs
  · have e2 : arr 64 (sched l i) = ws.map sl32 := by
      have hi64 : i = 64 := by omega
      rw [← hws, hi64]
      exact arr_full (sched_len l 64)
    clear hge hi
    rw [e2]
    clear e2
    have ldw : ∀ {k : Nat}, k < 64 → nth (ws.map sl32) (0 + k * 1) = some (sl32 (ws.getD k 0)) := fun {k} hk => by
      rw [nth_eq, Nat.zero_add, Nat.mul_one, List.getElem?_map, List.getElem?_eq_getElem (by omega)]
      simp [List.getD, List.getElem?_eq_getElem (show k < ws.length by omega)]
    refine loop_rule (ι := Nat) 4 (fun i => [(2, .c (.p 0 0)), (4, .c (.p 1 0)), (5, .c (.p 2 0)), (9, .c (.p 3 0)), (10, .c (.v (.int .i64 i)))]) (fun i => [⟨3, 360, (rounds s ws i).l.map sl32⟩, ⟨2, 344, ws.map sl32⟩, ⟨1, 360, ti360.zero.map SL.v⟩, ⟨0, 360, s.l.map sl32⟩]) (fun _ => [bsF A l, oddF 8, oldF w])
      (fun i => i ≤ 64) (fun i => 64 - i) 0 (Nat.zero_le _) (Ent.same ⟨rfl, rfl, rfl, rfl, rfl, trivial⟩ rfl) g ?_
    intro j hj
    obtain ⟨r, hr⟩ : ∃ r, rounds s ws j = r := ⟨_, rfl⟩
    rw [hr]
    obtain ⟨xa, xb, xc, xd, xe, xf, xg, xh⟩ := r
    refine BIf.dec (fun hlt => ?_) (fun hge => ?_)
    · have hlt : j < 64 := by omega
      refine ⟨4, rfl, by decide, ?_⟩
      refine draw_rule g p_ostiaryref01_Step_15 (by kernel_rfl) _ _ Sub.refl ?_
      refine ⟨7, rfl, by decide, 5, rfl, by decide, _, and32 _ _, _, not32 _, 6, rfl, by decide, _, and32 _ _, _, xor32 _ _, ?_⟩
      refine ⟨j, rfl, hlt, u32 (K.getD j 0), fun β w' hs => odd_cell3 (hs.get 1 rfl) hlt, j, rfl, hlt, ?_⟩
      conv => whnf
      generalize hn : nth _ _ = o
      obtain rfl : o = some (sl32 (ws.getD j 0)) := hn.symm.trans (ldw hlt)
      clear hn
      refine call_pu (fun β w' hs => turn_c w' xe 6 (by omega) (by omega)) ?_
      refine ⟨Sub.refl, ?_⟩
      refine call_pu (fun β w' hs => turn_c w' xe 11 (by omega) (by omega)) ?_
      refine ⟨Sub.refl, _, xor32 _ _, ?_⟩
      refine call_pu (fun β w' hs => turn_c w' xe 25 (by omega) (by omega)) ?_
      refine ⟨Sub.refl, _, xor32 _ _, _, add32 _ _, _, add32 _ _, _, add32 _ _, _, add32 _ _, ?_⟩
      refine ⟨0, rfl, by decide, ?_⟩
      refine draw_rule g p_ostiaryref01_Step_17 (by kernel_rfl) _ _ Sub.refl ?_
      refine ⟨1, rfl, by decide, _, and32 _ _, 2, rfl, by decide, _, and32 _ _, _, xor32 _ _, 1, rfl, by decide, 2, rfl, by decide, _, and32 _ _, _, xor32 _ _, ?_⟩
      refine call_pu (fun β w' hs => turn_c w' xa 2 (by omega) (by omega)) ?_
      refine ⟨Sub.refl, ?_⟩
      refine call_pu (fun β w' hs => turn_c w' xa 13 (by omega) (by omega)) ?_
      refine ⟨Sub.refl, _, xor32 _ _, ?_⟩
      refine call_pu (fun β w' hs => turn_c w' xa 22 (by omega) (by omega)) ?_
      refine ⟨Sub.refl, _, xor32 _ _, _, add32 _ _, ?_⟩
      refine ⟨_, add32 _ _, 0, rfl, by decide, 1, rfl, by decide, 2, rfl, by decide, 3, rfl, by decide, _, add32 _ _, 4, rfl, by decide, 5, rfl, by decide, 6, rfl, by decide, ?_⟩
      refine ⟨((j + 1 : Nat) : Int), by rw [wrap_i64 (by omega) (by omega)]; rfl, ?_⟩
      refine ⟨j + 1, by omega, by omega, Ent.mk' ⟨rfl, rfl, rfl, rfl, rfl, trivial⟩ rfl (fun β w' hs => ?_)⟩
      have e1 : (rounds s ws (j + 1)).l.map sl32 = (⟨(⟨xa, xb, xc, xd, xe, xf, xg, xh⟩ : S8).x (K.getD j 0) (ws.getD j 0) + ((⟨xa, xb, xc, xd, xe, xf, xg, xh⟩ : S8).y + (⟨xa, xb, xc, xd, xe, xf, xg, xh⟩ : S8).z), xa, xb, xc, xd + (⟨xa, xb, xc, xd, xe, xf, xg, xh⟩ : S8).x (K.getD j 0) (ws.getD j 0), xe, xf, xg⟩ : S8).l.map sl32 := by
        rw [rounds_succ, hr, S8.round, UInt32.add_assoc]
      rw [e1]
      exact hs
    · obtain ⟨t, ht⟩ : ∃ t, (⟨xa, xb, xc, xd, xe, xf, xg, xh⟩ : S8) = t := ⟨_, rfl⟩
      have hst : rounds s ws 64 = t := by
        have : j = 64 := by omega
        rw [← ht, ← hr, this]
      rw [hst, ht]
      clear hst ht hr hge hj
      refine loop_rule (ι := Nat) 4 (fun i => [(2, .c (.p 0 0)), (4, .c (.p 1 0)), (9, .c (.p 3 0)), (165, .c (.v (.int .i64 i)))]) (fun i => [⟨3, 360, t.l.map sl32⟩, ⟨2, 344, ws.map sl32⟩, ⟨1, 360, ti360.zero.map SL.v⟩, ⟨0, 360, mix s t i⟩]) (fun _ => [bsF A l, oddF 8, oldF w])
        (fun i => i ≤ 8) (fun i => 8 - i) 0 (Nat.zero_le _) (Ent.same ⟨rfl, rfl, rfl, rfl, trivial⟩ rfl) g ?_
      intro j hj
      refine BIf.dec (fun hlt => ?_) (fun hge => ?_)
      · have hlt : j < 8 := by omega
        refine draw_rule g p_ostiaryref01_Step_22 (by kernel_rfl) _ _ Sub.refl ?_
        refine ⟨j, rfl, hlt, ?_⟩
        conv => whnf
        generalize hn : nth _ _ = o
        obtain rfl : o = some (sl32 (s.l.getD j 0)) := hn.symm.trans (by
          show nth (mix s t j) (0 + j * 1) = _
          rw [Nat.zero_add, Nat.mul_one]
          exact mix_get s t j hlt)
        clear hn
        refine ⟨j, rfl, hlt, ?_⟩
        conv => whnf
        generalize hn : nth _ _ = o
        obtain rfl : o = some (sl32 (t.l.getD j 0)) := hn.symm.trans (by
          show nth (t.l.map sl32) (0 + j * 1) = _
          rw [Nat.zero_add, Nat.mul_one, nth_eq]
          exact l_get t j hlt)
        clear hn
        refine ⟨_, add32 _ _, j, rfl, hlt, ?_⟩
        conv => whnf
        generalize h1 : Nat.ble _ _ = b1
        obtain rfl : b1 = true := h1.symm.trans (by
          show Nat.ble (0 + j * 1 + 1) (mix s t j).length = true
          rw [mix_len s t j (by omega), Nat.ble_eq]; omega)
        clear h1
        refine ⟨((j + 1 : Nat) : Int), by rw [wrap_i64 (by omega) (by omega)]; rfl, ?_⟩
        refine ⟨j + 1, by omega, by omega, Ent.mk' ⟨rfl, rfl, rfl, rfl, trivial⟩ rfl (fun β w' hs => ?_)⟩
        have e3 : 0 + j * 1 = j := by omega
        rw [← mix_set s t j hlt]
        have hs2 : Sat (cx_ostiaryref01_Step w (Un [])) β 4 [⟨3, 360, t.l.map sl32⟩, ⟨2, 344, ws.map sl32⟩, ⟨1, 360, ti360.zero.map SL.v⟩, ⟨0, 360, putAll (mix s t j) (0 + j * 1) [sl32 (s.l.getD j 0 + t.l.getD j 0)]⟩] [bsF A l, oddF 8, oldF w] w' := hs
        rw [e3] at hs2
        exact hs2
      · obtain rfl : j = 8 := by omega
        intro β w' hs
        exact hs.fin [] ⟨rfl, rfl⟩
end Go.Proofs.YtjlpcjpeljlbeaaGreatDoor.Sx

/- The document's sum. -/
namespace Go.Proofs.YtjlpcjpeljlbeaaGreatDoor.Sx
open Go Sha
attribute [local irreducible] Calls

theorem rstep64_c (w : World) (s : S8) (A : Option Addr) (x : List UInt8) (c : Nat) (hx : x.length = 64) (hr : Bs w A x) (hk : (oddF 8).p w) (hc : 64 ≤ c) (hm : c ≤ maxLen) :
    Pu Tryz.prog n_ostiaryref01_Step #[stV s, .slice A 64 c] w (stV (Sha.step s x)) := by
  have := rstep_c w s A x c hr hk (by omega) (by omega) hm
  rw [hx] at this
  exact this
theorem rgo_c (w : World) (s : S8) (A : Option Addr) (l : List UInt8) (c : Nat) (hr : Bs w A l) (hk : (oddF 8).p w) (hc : l.length ≤ c) (hm : c ≤ maxLen) :
    Con Tryz.prog n_ostiaryref01_Go #[stV s, .slice A l.length c] w [] fun v Fs => ∃ A' n' c', v = .tuple #[stV (go (l.length / 64) s l), .slice A' n' c'] ∧ Fs = [] := by
  have g := good_ostiaryref01_Go w (Un [])
  rw [go_eq]
  have hs0 : Sat (cx_ostiaryref01_Go w (Un [])) Va.z 0 [] [oldF w] w := old_sat rfl
  have hs1 : Sat (cx_ostiaryref01_Go w (Un [])) Va.z 0 [] [bsF A l, oddF 8, oldF w] w := (hs0.sub 0 rfl rfl (oddF 8) rfl hk (rd_lt hk)).sub 1 rfl rfl (bsF A l) rfl hr (rd_lt hr)
  have hm' := hm
  rw [maxLen_eq] at hm'
  refine con_of_sx (cx := cx_ostiaryref01_Go w (Un [])) g b_ostiaryref01_Go rfl rfl (β := Va.z) [.agg (s.l.map sl32), .c (.v (.slice A l.length c))] 0 [] [bsF A l, oddF 8, oldF w] rfl rfl hs1 ?_
  refine loop_rule (ι := Nat × Option Addr × Nat) 2 (fun i => [(1, .c (.v (.slice i.2.1 (l.length - 64 * i.1) i.2.2))), (2, .c (.p 0 0)), (4, .c (.p 1 0))]) (fun i => [⟨1, 360, ti360.zero.map SL.v⟩, ⟨0, 360, ((blks l i.1).foldl Sha.step s).l.map sl32⟩]) (fun _ => [bsF A l, oddF 8, oldF w])
    (fun i => 64 * i.1 ≤ l.length ∧ l.length - 64 * i.1 ≤ i.2.2 ∧ i.2.2 ≤ 9223372036854775807 ∧ (∀ w, Bs w A l → Bs w i.2.1 (l.drop (64 * i.1)))) (fun i => l.length - 64 * i.1) (0, A, c)
    ⟨Nat.zero_le _, hc, hm', fun w h => h⟩ (Ent.same ⟨rfl, rfl, rfl, trivial⟩ rfl) g ?_
  rintro ⟨i, B, cap⟩ ⟨hi, hcap, hcm, hB⟩
  simp only at hi hcap hcm hB
  obtain ⟨m, hm2⟩ : ∃ m, l.length - 64 * i = m := ⟨_, rfl⟩
  have hmc : m ≤ cap := by omega
  rw [hm2]
  have hdl : (l.drop (64 * i)).length = m := by rw [List.length_drop]; omega
  obtain ⟨st, hst⟩ : ∃ st, (blks l i).foldl Sha.step s = st := ⟨_, rfl⟩
  rw [hst]
  refine BIf.dec (fun h0 => ?_) (fun h0 => ?_)
  · have hm64 : 64 ≤ m := by omega
    have hbl : (blk l i).length = 64 := by unfold blk; rw [List.length_take, hdl]; omega
    have hS : ∀ {H : List Bk} {n : Nat}, Sub (cx_ostiaryref01_Go w (Un [])) n H [bsF A l, oddF 8, oldF w] [] [bsF A l, oddF 8, oldF w] := fun {H n} => Sub.of (List.nil_sublist _) (List.Sublist.refl _)
    refine draw_rule g p_ostiaryref01_Go_2 (by kernel_rfl) [] [bsF A l, oddF 8, oldF w] hS ?_
    refine ⟨cap, 64, 0, 64, cap, _, rfl, rfl, rfl, Nat.le_refl _, by show 64 ≤ cap; omega, by omega, rfl, rfl, rfl, ?_⟩
    refine ⟨cap, m, 64, m - 64, cap - 64, _, rfl, rfl, rfl, Nat.le_refl _, hmc, hm64, rfl, rfl, rfl, ?_⟩
    refine ⟨hS, ?_⟩
    refine call_pu (fun β w' hs => rstep64_c w' st (cutA B cap 0 1) (blk l i) cap hbl ?_ (hs.get 1 rfl) (by omega) (by rw [maxLen_eq]; exact hcm)) ?_
    · have h7 := Bs.cut (hB w' (hs.get 0 rfl)) (c := cap) (m := cap) (i := 0) (j := 64) (by omega) (.inl rfl) (by omega) (by omega) (by omega)
      have h8 : Rd 1 (cutA B cap 0 1) (blk l i).length ((blk l i).map byte) w' := by rw [hbl]; exact h7
      exact h8
    refine ⟨hS, ?_⟩
    refine ⟨hS, ?_⟩
    refine ⟨(i + 1, cutA B cap 64 1, cap - 64), ⟨by show 64 * (i + 1) ≤ _; omega, by show l.length - 64 * (i + 1) ≤ cap - 64; omega, by show cap - 64 ≤ _; omega, fun w' h => ?_⟩, by show l.length - 64 * (i + 1) < m; omega, Ent.mk' ⟨?_, rfl, rfl, trivial⟩ rfl (fun β w' hs => ?_)⟩
    · have h7 := Bs.cutB (hB w' h) (c := cap) (i := 64) (j := m) (m := l.drop (64 * (i + 1))) (by omega) hm64 (by omega) (by
        rw [List.drop_drop, show 64 * i + 64 = 64 * (i + 1) by omega, List.take_of_length_le]
        rw [List.length_drop]; omega)
      exact h7
    · show _ = some (SV.c (.v (.slice _ (l.length - 64 * (i + 1)) _)))
      rw [show l.length - 64 * (i + 1) = m - 64 by omega]
      rfl
    · rw [blks_succ, List.foldl_append, hst]
      exact hs
  · have hi2 : i = l.length / 64 := by omega
    intro β w' hs
    rw [← hi2, hst]
    exact hs.fin [] ⟨B, m, cap, rfl, rfl⟩

theorem rsum_c (w : World) (A : Option Addr) (l : List UInt8) (c : Nat) (hr : Bs w A l) (hk : (oddF 8).p w) (hn : l.length ≤ 70368744177664) :
    Con Tryz.prog n_ostiaryref01_Sum #[.slice A l.length c] w [] fun v Fs => ∃ A' c', v = .slice A' 32 c' ∧ 32 ≤ c' ∧ c' ≤ maxLen ∧ Fs = [browF ty_uint8 A' (Sha.sum l) c'] := by
  have g := good_ostiaryref01_Sum w (Un [])
  have hs0 : Sat (cx_ostiaryref01_Sum w (Un [])) Va.z 0 [] [oldF w] w := old_sat rfl
  have hs1 : Sat (cx_ostiaryref01_Sum w (Un [])) Va.z 0 [] [bsF A l, oddF 8, oldF w] w := (hs0.sub 0 rfl rfl (oddF 8) rfl hk (rd_lt hk)).sub 1 rfl rfl (bsF A l) rfl hr (rd_lt hr)
  refine con_of_sx (cx := cx_ostiaryref01_Sum w (Un [])) g b_ostiaryref01_Sum rfl rfl (β := Va.z) [.c (.v (.slice A l.length c))] 0 [] [bsF A l, oddF 8, oldF w] rfl rfl hs1 ?_
  obtain ⟨q, hq⟩ : ∃ q, l ++ ends l.length = q := ⟨_, rfl⟩
  have hql : q.length = l.length + (ends l.length).length := by rw [← hq, List.length_append]
  have hel : (ends l.length).length < 73 := by rw [Sha.ends_len]; unfold zeros; omega
  have hsum : Sha.sum l = out (go (q.length / 64) Sha.first q) := by rw [← hq]; rfl
  rw [hsum]
  refine call_pu (fun β w' hs => first_c w') ?_
  intro b
  refine ⟨0, 0, l.length, [], l.map byte, _, rfl, fun β w' hs => hs.get 1 rfl, bytes_one l, Nat.zero_add _, rfl, by rw [maxLen_eq]; omega, by show l.length * 1 ≤ _; omega, ?_⟩
  intro A1 c1 h1 h2 _
  refine ⟨(l.length : Int), by rw [wrap_u64']; omega, ?_⟩
  refine call_con [] (fun β w' hs => tail_c w' l.length (by omega)) ?_
  rintro v Fs ⟨A2, c2, rfl, h3, h4, rfl⟩
  refine ⟨1, l.length, q.length, _, (ends l.length).map byte, q.map byte, rfl, fun β w hs => row_rd (hs.get 0 rfl), bytes_one _, hql.symm, by rw [← hq, List.map_append]; rfl, by rw [maxLen_eq]; omega, by show q.length * 1 ≤ _; omega, ?_⟩
  intro A3 c3 h5 h6 _
  refine call_con [] (fun β w' hs => rgo_c w' Sha.first A3 q c3 (row_rd (hs.get 1 rfl)) (hs.get 3 rfl) h5 h6) ?_
  rintro v Fs ⟨A4, n4, c4, rfl, rfl⟩
  generalize go (q.length / 64) Sha.first q = st
  refine call_con [] (fun β w' hs => out_c w' st) ?_
  rintro v Fs ⟨A5, c5, rfl, h7, h8, rfl⟩
  intro β w' hs
  exact (hs.keepB (List.nil_sublist _)).fin [0] ⟨A5, c5, rfl, h7, h8, rfl⟩
end Go.Proofs.YtjlpcjpeljlbeaaGreatDoor.Sx

/- Texts as bytes. -/
namespace Go.Proofs.YtjlpcjpeljlbeaaGreatDoor.Sx
open Go Sha
attribute [local irreducible] Calls

end Go.Proofs.YtjlpcjpeljlbeaaGreatDoor.Sx

/- Secrets compared; texts cut; bytes compared. -/
namespace Go.Proofs.YtjlpcjpeljlbeaaGreatDoor.Sx
open Go Sha
attribute [local irreducible] Calls

/-- A secret as it lies in memory. -/
structure SecA where
  A0 : Option Addr
  A1 : Option Addr
  A2 : Option Addr
  A3 : Option Addr
  c0 : Nat
  c1 : Nat
  c2 : Nat
  c3 : Nat
  s0 : List UInt8
  s1 : List UInt8
  s2 : List UInt8
  s3 : List UInt8
  it : Int
def SecA.val (x : SecA) : Value := .agg #[.slice x.A0 x.s0.length x.c0, .int .i64 x.it, .slice x.A1 x.s1.length x.c1, .slice x.A2 x.s2.length x.c2, .slice x.A3 x.s3.length x.c3]
def SecA.cells (x : SecA) : List SL := [.v (.slice x.A0 x.s0.length x.c0), .v (.int .i64 x.it), .v (.slice x.A1 x.s1.length x.c1), .v (.slice x.A2 x.s2.length x.c2), .v (.slice x.A3 x.s3.length x.c3)]
structure SecA.Rd (x : SecA) (w : World) : Prop where
  h0 : Bs w x.A0 x.s0
  h1 : Bs w x.A1 x.s1
  h2 : Bs w x.A2 x.s2
  h3 : Bs w x.A3 x.s3

end Go.Proofs.YtjlpcjpeljlbeaaGreatDoor.Sx

/- Bytes compared without haste. -/
namespace Go.Proofs.YtjlpcjpeljlbeaaGreatDoor.Sx
open Go Sha
attribute [local irreducible] Calls

theorem ofInt8 (a : UInt8) : BitVec.ofInt 8 (a.toNat : Int) = a.toBitVec := by
  apply BitVec.eq_of_toNat_eq
  rw [BitVec.toNat_ofInt]
  have := a.toNat_lt
  have e : a.toBitVec.toNat = a.toNat := rfl
  rw [e]
  omega
theorem back8 (x : BitVec 8) : IntKind.u8.wrap (x.toNat : Int) = ((UInt8.ofBitVec x).toNat : Int) := by
  rw [wrap_u8]
  have := x.isLt
  have e : (UInt8.ofBitVec x).toNat = x.toNat := rfl
  rw [e]
  omega
theorem xor8 (a b : UInt8) : bits .xor .u8 (a.toNat : Int) (b.toNat : Int) = ((a ^^^ b).toNat : Int) := by
  show IntKind.u8.wrap (((BitVec.ofInt 8 (a.toNat : Int)) ^^^ (BitVec.ofInt 8 (b.toNat : Int))).toNat : Int) = _
  rw [ofInt8, ofInt8, back8]
  rfl
theorem or8 (a b : UInt8) : bits .or .u8 (a.toNat : Int) (b.toNat : Int) = ((a ||| b).toNat : Int) := by
  show IntKind.u8.wrap (((BitVec.ofInt 8 (a.toNat : Int)) ||| (BitVec.ofInt 8 (b.toNat : Int))).toNat : Int) = _
  rw [ofInt8, ofInt8, back8]
  rfl

theorem equal_c (w : World) (A B : Option Addr) (l m : List UInt8) (c d : Nat) (hl : Bs w A l) (hm : Bs w B m) (hn : l.length ≤ 70368744177664) : Pu Tryz.prog n_hmac_Equal #[.slice A l.length c, .slice B m.length d] w (.bool (decide (l = m))) := by
  have g := good_hmac_Equal w None_
  refine pu_of (calls_of_sx (cx := cx_hmac_Equal w None_) g b_hmac_Equal rfl rfl (β := Va.z) [.c (.v (.slice A l.length c)), .c (.v (.slice B m.length d))] 0 [] [oldF w] rfl rfl (old_sat rfl) ?_)
  refine BIf.not (BIf.dec (fun h0 => ?_) (fun h0 => ?_))
  · have hlen : m.length = l.length := by omega
    refine loop_rule (ι := Nat × UInt8) 0 (fun i => [(0, .c (.v (.slice A l.length c))), (1, .c (.v (.slice B m.length d))), (13, .c (.v (.int .i64 l.length))), (14, .c (.v (.int .i64 i.1))), (5, .c (.v (byte i.2)))]) (fun _ => []) (fun _ => [oldF w])
      (fun i => i.1 ≤ l.length ∧ (i.2 = 0 ↔ l.take i.1 = m.take i.1)) (fun i => l.length - i.1) (0, 0) ⟨Nat.zero_le _, by simp⟩ (Ent.same ⟨rfl, rfl, rfl, rfl, rfl, trivial⟩ rfl) g ?_
    rintro ⟨i, acc⟩ ⟨hi, hacc⟩
    simp only at hi hacc
    refine BIf.dec (fun hlt => ?_) (fun hge => ?_)
    · have hlt : i < l.length := by omega
      have hlt2 : i < m.length := by omega
      obtain ⟨ad, hA⟩ := Bs.addr hl (by omega)
      obtain ⟨bd, hB⟩ := Bs.addr hm (by omega)
      refine draw_rule g p_hmac_Equal_7 (by kernel_rfl) _ _ Sub.refl ?_
      refine ⟨ad, i, hA, rfl, hlt, byte l[i], fun β w' hs => Bs.cell (Rd.old hl (hs.get 0 rfl)) hA hlt, ?_⟩
      refine ⟨bd, i, hB, rfl, hlt2, byte m[i], fun β w' hs => Bs.cell (Rd.old hm (hs.get 0 rfl)) hB hlt2, ?_⟩
      refine ⟨_, xor8 _ _, _, or8 _ _, ?_⟩
      refine ⟨((i + 1 : Nat) : Int), by rw [wrap_i64 (by omega) (by omega)]; rfl, ?_⟩
      refine ⟨(i + 1, acc ||| (l[i] ^^^ m[i])), ⟨hlt, ?_⟩, by show l.length - (i + 1) < l.length - i; omega, Ent.same ⟨rfl, rfl, rfl, rfl, rfl, trivial⟩ rfl⟩
      show acc ||| (l[i] ^^^ m[i]) = 0 ↔ l.take (i + 1) = m.take (i + 1)
      rw [take_snoc l i hlt, take_snoc m i hlt2, UInt8.or_eq_zero_iff, UInt8.xor_eq_zero_iff, hacc]
      constructor
      · rintro ⟨h1, h2⟩; rw [h1, h2]
      · intro h
        have := List.append_inj' h rfl
        exact ⟨this.1, by simpa using this.2⟩
    · have hi2 : i = l.length := by omega
      intro β w' hs
      refine ⟨?_, hs.chg⟩
      show Value.bool (decide ((acc.toNat : Int) = 0)) = _
      congr 1
      rw [hi2, List.take_length, List.take_of_length_le (by omega)] at hacc
      refine decide_eq_decide.2 ⟨fun h => hacc.1 (UInt8.toNat_inj.1 (by show acc.toNat = 0; omega)), fun h => by rw [hacc.2 h]; rfl⟩
  · intro β w' hs
    refine ⟨?_, hs.chg⟩
    show Value.bool false = _
    congr 1
    exact (decide_eq_false (fun h => h0 (by rw [h]))).symm
end Go.Proofs.YtjlpcjpeljlbeaaGreatDoor.Sx

/- Boxes: a new one; how many terms it has. -/
namespace Go.Proofs.YtjlpcjpeljlbeaaGreatDoor.Sx
open Go Sha
attribute [local irreducible] Calls

end Go.Proofs.YtjlpcjpeljlbeaaGreatDoor.Sx

/- A ring in memory; its epochs, one by one. -/
namespace Go.Proofs.YtjlpcjpeljlbeaaGreatDoor.Sx
open Go
attribute [local irreducible] Calls

/-- A key: its epoch, its row. -/
structure RKey where
  e : Nat
  A : Option Addr
  c : Nat
  p : List UInt8
structure Rg where
  b : Nat
  bx : Nat
  mA : Option Addr
  mc : Nat
  master : List UInt8
  room : Nat
  m : Nat
  ks : List RKey
  epoch : Nat
def RKey.v (k : RKey) : Value := .slice k.A k.p.length k.c
def RKey.f (k : RKey) : Fact := browF ty_uint8 k.A k.p k.c
def Rg.vs (r : Rg) : List Value := [.pointer (some ⟨r.bx, 0, none⟩), .slice r.mA r.master.length r.mc, .int .i64 (r.room : Int), .map (some r.m), .int .u64 (r.epoch : Int)]
def Rg.ml (r : Rg) : MLI := r.ks.map fun k => ((k.e : Int), k.v)
/-- A ring, whole. -/
def rgF (r : Rg) : Fact := sepF [bkF r.b ty_ring_Ring r.vs, browF ty_uint8 r.mA r.master r.mc, mapIF .u64 r.m r.ml, sepF (r.ks.map RKey.f)]
theorem rg_bk {r : Rg} {w : World} (h : (rgF r).p w) : (bkF r.b ty_ring_Ring r.vs).p w := h.1 _ (by simp)
theorem rg_map {r : Rg} {w : World} (h : (rgF r).p w) : mapIP .u64 r.m r.ml w := h.1 (mapIF .u64 r.m r.ml) (by simp)
def ptrR (b : Nat) : Value := .pointer (some ⟨b, 0, none⟩)
theorem cell_bk {b ty : Nat} {cs : List Value} {w : World} (h : (bkF b ty cs).p w) {o : Nat} {v : Value} (ho : cs[o]? = some v) : w.cell? ⟨b, o, none⟩ = some v := by
  have hb : w.heap[b]? = some (.cells cs.toArray ty (0, 0)) := h
  rw [cell_of_row w b o _ _ _ hb]
  simpa using ho
def Rg.es (r : Rg) : List Int := r.ks.map fun k => (k.e : Int)
theorem Rg.ml_es (r : Rg) : r.ml.map (·.1) = r.es := by simp [Rg.ml, Rg.es]
def onFst {α β : Type} (pre : List α) (a b : β) : β := match pre with | [] => a | _ :: _ => b
/-- What the epochs' iterator hands over: the ring at the first, nothing then; the epochs rise. -/
def insE (r : Rg) (L : List Int) (pre : List Int) (x : Int) (args : Array Value) (X : Fact) : Prop :=
  args = #[.int .u64 x] ∧ X = onFst pre (rgF r) noF ∧ L[pre.length]? = some x
/-- The epochs, rising. -/
def Rg.rise (r : Rg) : List Int := r.es.mergeSort fun x y => decide (x ≤ y)
theorem rise_of {r : Rg} {l : List Int} (h : l.Perm r.es) (hs : l.Pairwise (· ≤ ·)) : l = r.rise := by
  have h2 := List.pairwise_mergeSort (le := fun x y : Int => decide (x ≤ y)) (fun a b c p q => by simp only [decide_eq_true_eq] at *; omega) (fun a b => by simp only [Bool.or_eq_true, decide_eq_true_eq]; omega) r.es
  refine List.Perm.eq_of_pairwise (le := fun x y => x ≤ y) (fun a b _ _ p q => by omega) hs (h2.imp fun p => of_decide_eq_true p) (h.trans (List.mergeSort_perm _ _).symm)
theorem ep_it (l : Nat) (w : World) (bx : Nat) (r : Rg) (f0 R : Fact) (J Jx : List Int → Fact → Prop) (hL : r.ks.length ≤ 12) (hJ0 : J [] f0) (hJo : ∀ pre f, J pre f → f.own = true) (hRo : R.own = false) (hY : Yc Tryz.prog l J Jx R (insE r r.rise))
    (hm : Mem w (f0 :: R :: [bkF bx ty_ptr_ring_Ring [ptrR r.b], rgF r])) :
    Con Tryz.prog n_ring_Ring_Epochs_1 #[.func (.yield l) #[] #[], .pointer (some ⟨bx, 0, none⟩)] w [f0, bkF bx ty_ptr_ring_Ring [ptrR r.b], rgF r]
      (fun _ Fs => ∃ f Fs', Fs = f :: Fs' ∧ ((∃ xs, J xs f ∧ xs = r.rise ∧ Fs' = onFst r.rise [rgF r] []) ∨ (∃ pre, Jx pre f ∧ Fs' = []))) := by
  have g := good_ring_Ring_Epochs_1 w (Un [f0, bkF bx ty_ptr_ring_Ring [ptrR r.b], rgF r]) [bx]
  have hs0 : Sat (cx_ring_Ring_Epochs_1 w (Un [f0, bkF bx ty_ptr_ring_Ring [ptrR r.b], rgF r]) [bx]) (Va.of fun _ => bx) 1 [] (f0 :: R :: [bkF bx ty_ptr_ring_Ring [ptrR r.b], rgF r]) w := by
    refine hm.sat rfl (fun f hf ho k hk => ?_) ⟨Nat.le_refl 1, fun i hi => by obtain rfl : i = 0 := Nat.lt_one_iff.1 hi; rfl⟩
    simp only [List.mem_cons, List.not_mem_nil, or_false] at hf
    rcases hf with rfl | rfl | rfl | rfl
    · exact ⟨_, by simp, hk⟩
    · rw [hRo] at ho; cases ho
    · exact ⟨bkF bx ty_ptr_ring_Ring [ptrR r.b], by simp, hk⟩
    · exact ⟨rgF r, by simp, hk⟩
  have hs1 := ((hs0.toBk 2 rfl 0 Nat.zero_lt_one rfl).unsep 2 rfl)
  refine con_of_sx (cx := cx_ring_Ring_Epochs_1 w (Un [f0, bkF bx ty_ptr_ring_Ring [ptrR r.b], rgF r]) [bx]) g b_ring_Ring_Epochs_1 rfl rfl (β := Va.of fun _ => bx) [.c (.v (.func (.yield l) #[] #[])), .c (.p 0 0)] 1 _ _ rfl rfl hs1 ?_
  have hml : r.ml.length = r.ks.length := by rw [Rg.ml, List.length_map]
  refine ⟨.map (some r.m), fun β w' hs => cell_bk (hs.get 0 rfl) (o := 3) rfl, ?_⟩
  refine call_con [] (fun β w' hs => keysI_c w' (some r.m)) ?_
  rintro v Fs ⟨B, rfl, rfl⟩
  refine call_conS [0, 3] (fun β w' hs => sortedN_c w' _ B _ _ _ _ r.ml.length _ (by kernel_rfl) rfl rfl (by omega) (keysI_gives B r.m r.ml) (hs.mem.take (js := [0, 3]) rfl)) ?_
  rintro v Fs ⟨A, c, L, rfl, ⟨l0, hp0, hp1⟩, hLl, hris, hA0, rfl⟩
  have hLr : L = r.rise := rise_of ((hp1.trans hp0).trans (by rw [Rg.ml_es])) hris
  subst hLr
  refine ⟨_, _, fun β w' hs => (hs.sep [2, 3, 1, 4] rfl ⟨rfl, rfl, rfl, rfl, trivial⟩).perm [1, 2, 3, 0], ?_⟩
  generalize hN : r.rise = L at *
  have hL12 : L.length ≤ 12 := by omega
  refine loop_rule (ι := List Int × Fact) 1 (fun i => [(0, .c (.v (.func (.yield l) #[] #[]))), (1, .c (.p 0 0)), (12, .c (.v (.slice A L.length c))), (13, .c (.v (.int .i64 (L.length : Int)))), (14, .c (.v (.int .i64 (i.1.length : Int))))]) (fun _ => [⟨0, ty_ptr_ring_Ring, [.v (ptrR r.b)]⟩]) (fun i => urowF A L c :: i.2 :: R :: onFst i.1 [rgF r] [])
    (fun i => J i.1 i.2 ∧ i.1 = L.take i.1.length ∧ i.1.length ≤ L.length) (fun i => L.length - i.1.length) ([], f0) ⟨hJ0, rfl, Nat.zero_le _⟩ (Ent.same ⟨rfl, rfl, rfl, rfl, rfl, trivial⟩ rfl) g ?_
  rintro ⟨pre, f⟩ ⟨hJ, hpre, hi⟩
  simp only at hJ hpre hi
  have hfo := hJo _ _ hJ
  simp only
  refine BIf.dec (fun hlt => ?_) (fun hge => ?_)
  · have hlt0 : (pre.length : Int) < L.length := hlt
    have hkl : pre.length < L.length := by omega
    obtain ⟨x, hx, _⟩ := at_lt hkl
    obtain ⟨ad, hAd⟩ := hA0 (by omega)
    have hnext : pre ++ [x] = L.take (pre ++ [x]).length := by
      have e : (pre ++ [x]).length = pre.length + 1 := by rw [List.length_append]; rfl
      rw [e, List.take_add_one, hx, ← hpre]
      rfl
    have e : (pre ++ [x]).length = pre.length + 1 := by rw [List.length_append]; rfl
    refine ⟨ad, pre.length, hAd, rfl, hkl, .int .u64 x, fun β w' hs => ?_, ?_⟩
    · have h := row_rd (hs.get 0 rfl)
      rw [hAd] at h
      exact Rd.cell1 h (by simp [hx])
    cases pre with
    | nil =>
      refine yield_own (X := rgF r) (x := x) hY 1 2 3 rfl hJ hfo rfl rfl rfl (by decide) (by decide) (by decide) (fun β => ⟨rfl, rfl, hx⟩) ?_ ?_
      · intro f2 hfo2 hJ2
        refine ⟨1, by rw [wrap_i64 (by omega) (by omega)]; rfl, ?_⟩
        refine ⟨([x], f2), ⟨hJ2, hnext, by show 1 ≤ L.length; exact hkl⟩, by show L.length - 1 < L.length - 0; have : 0 < L.length := hkl; omega, ?_⟩
        exact Ent.mk' ⟨rfl, rfl, rfl, rfl, rfl, trivial⟩ rfl (fun β w' hs => hs.perm [1, 0, 2])
      · intro f2 hfo2 hJ2 β w' hs
        exact (hs.keepB (List.nil_sublist _)).fin [0] ⟨f2, _, rfl, .inr ⟨_, hJ2, rfl⟩⟩ rfl rfl rfl ⟨hfo2, trivial⟩
    | cons y ys =>
      refine yield_ro (X := noF) (x := x) hY 1 2 rfl hJ hfo rfl hRo (by decide) (fun β => ⟨rfl, rfl, hx⟩) rfl (fun β w _ => ⟨trivial, fun k hk => hk.elim, fun k _ h => h.elim⟩) ?_ ?_
      · intro f2 hfo2 hJ2
        refine ⟨(((y :: ys).length + 1 : Nat) : Int), by rw [wrap_i64 (by omega) (by omega)]; rfl, ?_⟩
        refine ⟨(y :: ys ++ [x], f2), ⟨hJ2, hnext, by show (y :: ys ++ [x]).length ≤ _; rw [e]; omega⟩, by show L.length - (y :: ys ++ [x]).length < L.length - (y :: ys).length; rw [e]; omega, ?_⟩
        simp only [e]
        exact Ent.mk' ⟨rfl, rfl, rfl, rfl, rfl, trivial⟩ rfl (fun β w' hs => hs.perm [1, 0, 2])
      · intro f2 hfo2 hJ2 β w' hs
        exact (hs.keepB (List.nil_sublist _)).fin [0] ⟨f2, _, rfl, .inr ⟨_, hJ2, rfl⟩⟩ rfl rfl rfl ⟨hfo2, trivial⟩
  · have hge0 : ¬ (pre.length : Int) < L.length := hge
    have hpl : pre = L := by rw [hpre, List.take_of_length_le (by omega)]
    subst hpl
    cases pre with
    | nil =>
      intro β w' hs
      exact (hs.keepB (List.nil_sublist _)).fin [1, 3] ⟨f, _, rfl, .inl ⟨[], hJ, rfl, rfl⟩⟩ rfl rfl rfl ⟨hfo, rfl, trivial⟩
    | cons y ys =>
      intro β w' hs
      exact (hs.keepB (List.nil_sublist _)).fin [1] ⟨f, _, rfl, .inl ⟨_, hJ, rfl, rfl⟩⟩ rfl rfl rfl ⟨hfo, trivial⟩
end Go.Proofs.YtjlpcjpeljlbeaaGreatDoor.Sx

/- Boxes, plainly: terms and their prints, handles. -/
namespace Go.Proofs.YtjlpcjpeljlbeaaGreatDoor.Bx

structure Term where
  kind : Nat
  key : List UInt8
  text : List UInt8
  rounds : Nat
  list : List Nat
  mask : List UInt8

/-! ### prints -/
def vint (n : Nat) : List UInt8 := if h : n < 128 then [UInt8.ofNat n] else UInt8.ofNat (n % 128 + 128) :: vint (n / 128)
termination_by n
decreasing_by omega
theorem vint_lt {n : Nat} (h : n < 128) : vint n = [UInt8.ofNat n] := by rw [vint, dif_pos h]
theorem vint_ge {n : Nat} (h : ¬ n < 128) : vint n = UInt8.ofNat (n % 128 + 128) :: vint (n / 128) := by rw [vint, dif_neg h]
theorem u8_inj {a b : Nat} (ha : a < 256) (hb : b < 256) (h : UInt8.ofNat a = UInt8.ofNat b) : a = b := by
  have := congrArg UInt8.toNat h
  simp only [UInt8.toNat_ofNat'] at this
  omega
theorem vint_inj : ∀ (a b : Nat) (x y : List UInt8), vint a ++ x = vint b ++ y → a = b ∧ x = y := by
  intro a
  induction a using Nat.strongRecOn with
  | _ a ih =>
    intro b x y h
    by_cases ha : a < 128
    · by_cases hb : b < 128
      · rw [vint_lt ha, vint_lt hb] at h
        simp only [List.cons_append, List.nil_append, List.cons.injEq] at h
        exact ⟨u8_inj (by omega) (by omega) h.1, h.2⟩
      · rw [vint_lt ha, vint_ge hb] at h
        simp only [List.cons_append, List.nil_append, List.cons.injEq] at h
        have := u8_inj (by omega) (by omega) h.1
        omega
    · by_cases hb : b < 128
      · rw [vint_ge ha, vint_lt hb] at h
        simp only [List.cons_append, List.nil_append, List.cons.injEq] at h
        have := u8_inj (by omega) (by omega) h.1
        omega
      · rw [vint_ge ha, vint_ge hb] at h
        simp only [List.cons_append, List.cons.injEq] at h
        have h1 := u8_inj (by omega) (by omega) h.1
        obtain ⟨h2, h3⟩ := ih (a / 128) (by omega) (b / 128) x y h.2
        exact ⟨by omega, h3⟩
theorem vints_inj : ∀ (l m : List Nat) (x y : List UInt8), l.length = m.length → l.flatMap vint ++ x = m.flatMap vint ++ y → l = m ∧ x = y
  | [], [], x, y, _, h => ⟨rfl, h⟩
  | [], _ :: _, _, _, hl, _ => by cases hl
  | _ :: _, [], _, _, hl, _ => by cases hl
  | a :: l, b :: m, x, y, hl, h => by
    simp only [List.flatMap_cons, List.append_assoc] at h
    obtain ⟨rfl, h2⟩ := vint_inj a b _ _ h
    obtain ⟨rfl, h3⟩ := vints_inj l m x y (by simpa using hl) h2
    exact ⟨rfl, h3⟩
def print (t : Term) : List UInt8 := [t.kind, t.rounds, t.key.length, t.text.length, t.list.length].flatMap vint ++ t.list.flatMap vint ++ (t.key ++ t.text ++ t.mask)
theorem print_inj {s t : Term} (h : print s = print t) : s = t := by
  obtain ⟨k, a, b, r, l, m⟩ := s
  obtain ⟨k', a', b', r', l', m'⟩ := t
  simp only [print, List.append_assoc] at h
  obtain ⟨h1, h2⟩ := vints_inj [k, r, a.length, b.length, l.length] [k', r', a'.length, b'.length, l'.length] _ _ rfl h
  simp only [List.cons.injEq, and_true] at h1
  obtain ⟨rfl, rfl, h3, h4, h5⟩ := h1
  obtain ⟨rfl, h6⟩ := vints_inj l l' _ _ h5 h2
  obtain ⟨rfl, h7⟩ := List.append_inj h6 h3
  obtain ⟨rfl, rfl⟩ := List.append_inj h7 h4
  rfl

/-! ### handles -/
def front : List UInt8 := [0xf1, 84, 82, 77] ++ List.replicate 24 0
theorem front_len : front.length = 28 := rfl
def be4 (n : Nat) : List UInt8 := [UInt8.ofNat (n / 16777216), UInt8.ofNat (n / 65536), UInt8.ofNat (n / 256), UInt8.ofNat n]
def handle (n : Nat) : List UInt8 := front ++ be4 n
theorem handle_len (n : Nat) : (handle n).length = 32 := rfl
def num : List UInt8 → Nat := List.foldl (fun n b => n * 256 + b.toNat) 0
/-- The number of what looks like a handle. -/
def looks (p : List UInt8) : Option Nat := if p.length = 32 ∧ p.take 28 = front then some (num (p.drop 28)) else none
theorem num_be4 {n : Nat} (h : n < 4294967296) : num (be4 n) = n := by
  simp only [num, be4, List.foldl, UInt8.toNat_ofNat']
  omega
/-! ### boxes -/
open Classical in
/-- Where a term stands. -/
noncomputable def place (t : Term) : List Term → Option Nat
  | [] => none
  | x :: r => if x = t then some 0 else (place t r).map (· + 1)
theorem place_some {t : Term} : ∀ {L : List Term} {i : Nat}, place t L = some i → L[i]? = some t
  | x :: r, i, h => by
    simp only [place] at h
    split at h
    · rename_i q; obtain rfl := Option.some.inj h; simp [q]
    · obtain ⟨j, hj, rfl⟩ := Option.map_eq_some_iff.1 h
      simpa using place_some hj
theorem place_none {t : Term} : ∀ {L : List Term}, place t L = none → t ∉ L
  | [], _ => List.not_mem_nil
  | x :: r, h => by
    simp only [place] at h
    split at h
    · cases h
    · rename_i q
      have h' : place t r = none := by simpa using h
      intro hm
      rcases List.mem_cons.1 hm with rfl | hm
      · exact q rfl
      · exact place_none h' hm
structure Box where
  sym : Bool
  full : Bool
  L : List Term
def noughts : List UInt8 := List.replicate 32 0
open Classical in
/-- A term's handle; the box behind it. -/
noncomputable def Box.tag (b : Box) (t : Term) : List UInt8 × Box := match place t b.L with
  | some i => (handle (i + 1), b)
  | none => if 4096 ≤ b.L.length then (noughts, { b with full := true }) else (handle (b.L.length + 1), { b with L := b.L ++ [t] })

/-! ### tags turned -/
def xorB (a b : List UInt8) : List UInt8 := List.zipWith (· ^^^ ·) a b
/-- A tag as numbers and a mask. -/
def Box.opens (b : Box) (tag : List UInt8) : Option (List Nat × List UInt8) :=
  if tag.length = 32 then
    if b.sym = true ∧ tag.take 28 = front then
      if num (tag.drop 28) < 1 ∨ b.L.length < num (tag.drop 28) then none
      else match b.L[num (tag.drop 28) - 1]? with
        | some t => if t.kind = 4 then some (t.list, t.mask) else some ([num (tag.drop 28)], noughts)
        | none => none
    else some ([], tag)
  else none
theorem opens_raw {b : Box} {tag : List UInt8} (h : tag.length = 32) (hn : ¬ (b.sym = true ∧ tag.take 28 = front)) : b.opens tag = some ([], tag) := by unfold Box.opens; rw [if_pos h, if_neg hn]
theorem opens_in {b : Box} {tag : List UInt8} {n : Nat} {t : Term} (h : tag.length = 32) (hs : b.sym = true) (hf : tag.take 28 = front) (hn : num (tag.drop 28) = n) (ho : ¬ (n < 1 ∨ b.L.length < n)) (ht : b.L[n - 1]? = some t) :
    b.opens tag = if t.kind = 4 then some (t.list, t.mask) else some ([n], noughts) := by
  subst hn; unfold Box.opens; rw [if_pos h, if_pos ⟨hs, hf⟩, if_neg ho, ht]
end Go.Proofs.YtjlpcjpeljlbeaaGreatDoor.Bx

/- Handles: how they begin, what they are. -/
namespace Go.Proofs.YtjlpcjpeljlbeaaGreatDoor.Sx
open Go
attribute [local irreducible] Calls

theorem mark_c (w : World) : Con Tryz.prog n_box_mark #[] w [] fun v Fs => ∃ b, v = .slice (some ⟨b, 0, none⟩) 28 28 ∧ Fs = [browF ty_uint8 (some ⟨b, 0, none⟩) Bx.front 28] := by
  have g := good_box_mark w (Un [])
  refine con_of_sx (cx := cx_box_mark w (Un [])) g b_box_mark rfl rfl (β := Va.z) [] 0 [] [] rfl rfl (Sat.start rfl) ?_
  refine ⟨28, 28, rfl, rfl, Nat.le_refl _, by decide, by decide, ?_⟩
  intro b
  intro b2
  refine ⟨_, _, .c (.v (.int .i64 4)), fun β w' ty hs => hs.copyRow g 1 rfl (row_rd (hs.get 0 rfl)) (bytes_one [241, 84, 82, 77]) ty _ rfl, trivial, ?_⟩
  intro β w' hs
  exact hs.fin [1] ⟨b, rfl, rfl⟩

theorem wrap_u8b (x : Nat) : IntKind.u8.wrap (x : Int) = ((UInt8.ofNat x).toNat : Int) := by
  rw [wrap_u8, UInt8.toNat_ofNat']
  omega
theorem shr_nat (n k : Nat) : (n : Int).fdiv (2 ^ k) = ((n / 2 ^ k : Nat) : Int) := by
  have : (2 ^ k : Int) = ((2 ^ k : Nat) : Int) := by push_cast; rfl
  rw [this, Int.fdiv_eq_ediv_of_nonneg _ (Int.natCast_nonneg _)]
  exact (Int.natCast_ediv _ _).symm
theorem handle_c (w : World) (n : Nat) : Con Tryz.prog n_box_Handle #[.int .i64 n] w [] fun v Fs => ∃ A c, v = .slice A 32 c ∧ 32 ≤ c ∧ c ≤ maxLen ∧ Fs = [browF ty_uint8 A (Bx.handle n) c] := by
  have g := good_box_Handle w (Un [])
  refine con_of_sx (cx := cx_box_Handle w (Un [])) g b_box_Handle rfl rfl (β := Va.z) [.c (.v (.int .i64 n))] 0 [] [] rfl rfl (Sat.start rfl) ?_
  refine call_con [] (fun β w' hs => mark_c w') ?_
  rintro v Fs ⟨b, rfl, rfl⟩
  refine ⟨by decide, _, shr_nat n 24, _, wrap_u8b _, by decide, _, shr_nat n 16, _, wrap_u8b _, by decide, _, shr_nat n 8, _, wrap_u8b _, _, wrap_u8b _, ?_⟩
  intro b2
  refine ⟨1, 28, 32, _, (Bx.be4 n).map byte, (Bx.handle n).map byte, rfl, fun β w' hs => row_rd (hs.get 0 rfl), bytes_one (Bx.be4 n), rfl, by rw [Bx.handle, List.map_append], by decide, by decide, ?_⟩
  intro A c h1 h2 h3
  intro β w' hs
  exact hs.fin [1] ⟨A, c, rfl, h1, h2, rfl⟩
end Go.Proofs.YtjlpcjpeljlbeaaGreatDoor.Sx

/- A Builder of strings: a byte written; its text. -/
namespace Go.Proofs.YtjlpcjpeljlbeaaGreatDoor.Sx
open Go
attribute [local irreducible] Calls

theorem con_of_calls {P : Program} {k : FuncId} {args : Array Value} {w : World} {Gs : List Fact} {R : Value → List Fact → Prop} (h : Calls P k args w fun e w' => ∃ v, e = .returned v ∧ Fin w Gs R v w') : Con P k args w Gs R := h
theorem Mem.none (w : World) : Mem w [] := ⟨fun _ q => (by cases q), fun _ q => (by cases q), List.Pairwise.nil⟩
end Go.Proofs.YtjlpcjpeljlbeaaGreatDoor.Sx

/- A term's print: a number in bytes of seven bits. -/
namespace Go.Proofs.YtjlpcjpeljlbeaaGreatDoor.Sx
open Go
attribute [local irreducible] Calls

theorem or128 (n : Nat) : bits .or .u8 (((UInt8.ofNat n).toNat : Nat) : Int) 128 = ((UInt8.ofNat (n % 128 + 128)).toNat : Int) := by
  show IntKind.u8.wrap (((BitVec.ofInt 8 ((UInt8.ofNat n).toNat : Int)) ||| (BitVec.ofInt 8 128)).toNat : Int) = _
  have h1 : BitVec.ofInt 8 (((UInt8.ofNat n).toNat : Nat) : Int) = BitVec.ofNat 8 n := by
    apply BitVec.eq_of_toNat_eq
    rw [BitVec.toNat_ofInt, BitVec.toNat_ofNat, UInt8.toNat_ofNat']
    omega
  have h2 : BitVec.ofNat 8 n ||| BitVec.ofInt 8 128 = BitVec.ofNat 8 (n % 128 + 128) := by
    have h3 : BitVec.ofNat 8 n = BitVec.ofNat 8 (n % 256) := by
      apply BitVec.eq_of_toNat_eq
      rw [BitVec.toNat_ofNat, BitVec.toNat_ofNat]
      omega
    have h4 : n % 128 = n % 256 % 128 := by omega
    rw [h3, h4]
    have h5 : n % 256 < 256 := Nat.mod_lt _ (by omega)
    have key : ∀ k, k < 256 → BitVec.ofNat 8 k ||| BitVec.ofInt 8 128 = BitVec.ofNat 8 (k % 128 + 128) := by decide +kernel
    exact key _ h5
  rw [h1, h2, BitVec.toNat_ofNat, wrap_u8, UInt8.toNat_ofNat']
  omega

theorem vint_len : ∀ (k n : Nat), n < 128 ^ (k + 1) → (Bx.vint n).length ≤ k + 1
  | 0, n, h => by rw [Bx.vint_lt (by simpa using h)]; simp
  | k + 1, n, h => by
    by_cases hn : n < 128
    · rw [Bx.vint_lt hn]; simp
    · rw [Bx.vint_ge hn, List.length_cons]
      have := vint_len k (n / 128) (by rw [Nat.pow_succ] at h; omega)
      omega
theorem vint_nine {n : Nat} (h : n < 4611686018427387904) : (Bx.vint n).length ≤ 9 := vint_len 8 n (by omega)
/-- A slice of bytes in a variable. -/
def varF (b : Nat) (A : Option Addr) (l : List UInt8) (c : Nat) : List Fact := [bkF b ty_sl_uint8 [.slice A l.length c], browF ty_uint8 A l c]
structure LgS where
  n : Nat
  A : Option Addr
  l : List UInt8
  c : Nat
theorem long7_c (w : World) (b n : Nat) (A : Option Addr) (l : List UInt8) (c : Nat) (hn : n < 4611686018427387904) (hl : l.length ≤ 1000000000) (hm : Mem w (varF b A l c)) :
    Con Tryz.prog n_box_Term_print_1 #[.int .i64 n, .pointer (some ⟨b, 0, none⟩)] w (varF b A l c) fun v Fs => v = .tuple #[] ∧ ∃ A' c', Fs = varF b A' (l ++ Bx.vint n) c' := by
  have g := good_box_Term_print_1 w (Un (varF b A l c))
  refine con_of_sx (cx := cx_box_Term_print_1 w (Un (varF b A l c))) g b_box_Term_print_1 rfl rfl (β := Va.z) [.c (.v (.int .i64 n)), .c (.v (.pointer (some ⟨b, 0, none⟩)))] 0 [] _ rfl rfl (hm.sat0 rfl (fun f hf _ k hk => ⟨f, hf, hk⟩)) ?_
  refine loop_rule (ι := LgS) 0 (fun i => [(0, .c (.v (.int .i64 i.n))), (1, .c (.v (.pointer (some ⟨b, 0, none⟩))))]) (fun _ => []) (fun i => varF b i.A i.l i.c)
    (fun i => i.n < 4611686018427387904 ∧ i.l ++ Bx.vint i.n = l ++ Bx.vint n) (fun i => i.n) ⟨n, A, l, c⟩ ⟨hn, rfl⟩ (Ent.same ⟨rfl, rfl, trivial⟩ rfl) g ?_
  rintro ⟨m, A1, l1, c1⟩ ⟨hm1, he⟩
  simp only at hm1 he
  have hl1 : l1.length ≤ 1000000009 := by
    have h1 := congrArg List.length he
    simp only [List.length_append] at h1
    have h2 := vint_nine hn
    omega
  have hcell : ∀ (w' : World) (A : Option Addr) (l : List UInt8) (c : Nat), (bkF b ty_sl_uint8 [.slice A l.length c]).p w' → w'.cell? ⟨b, 0, none⟩ = some (.slice A l.length c) := fun w' A l c h => by
    have hb : w'.heap[b]? = some (.cells #[.slice A l.length c] ty_sl_uint8 (0, 0)) := h
    rw [cell_of_row w' b 0 _ _ _ hb]; rfl
  refine BIf.dec (fun hge => ?_) (fun hlt => ?_)
  · have hge0 : (128 : Int) ≤ (m : Int) := hge
    have hnl : ¬ m < 128 := by omega
    refine ⟨.slice A1 l1.length c1, fun β w' hs => hcell _ _ _ _ (hs.get 0 rfl), ?_⟩
    refine ⟨_, wrap_u8b m, _, or128 m, ?_⟩
    intro b2
    refine ⟨2, l1.length, l1.length + 1, l1.map byte, [byte (UInt8.ofNat (m % 128 + 128))], (l1 ++ [UInt8.ofNat (m % 128 + 128)]).map byte, rfl, fun β w' hs => row_rd (hs.get 0 rfl), bytes_one [UInt8.ofNat (m % 128 + 128)], rfl, by simp, by rw [maxLen_eq]; omega, by show (l1.length + 1) * 1 ≤ _; omega, ?_⟩
    intro A' c' h1 h2 h3
    refine ⟨_, fun β w' hs => hs.bkSet 1 (o := 0) (us := [.slice A' (l1.length + 1) c']) rfl (Nat.le_refl 1) (fun u hu => by obtain rfl := List.mem_singleton.1 hu; rfl), ?_⟩
    refine ⟨by decide, ((m / 128 : Nat) : Int), shr_nat m 7, ?_⟩
    refine ⟨⟨m / 128, A', l1 ++ [UInt8.ofNat (m % 128 + 128)], c'⟩, ⟨by show m / 128 < _; omega, ?_⟩, by show m / 128 < m; omega, ?_⟩
    · show l1 ++ [UInt8.ofNat (m % 128 + 128)] ++ Bx.vint (m / 128) = _
      rw [← he, Bx.vint_ge hnl]
      simp
    · refine Ent.mk' ⟨rfl, rfl, trivial⟩ rfl ?_
      intro β w' hs
      have e : (l1 ++ [UInt8.ofNat (m % 128 + 128)]).length = l1.length + 1 := by simp
      have hs2 := hs.perm [1, 2]
      show Sat _ _ _ _ (varF b A' (l1 ++ [UInt8.ofNat (m % 128 + 128)]) c') _
      unfold varF browF
      rw [e]
      exact hs2
  · have hlt0 : ¬ (128 : Int) ≤ (m : Int) := hlt
    have hl : m < 128 := by omega
    refine ⟨.slice A1 l1.length c1, fun β w' hs => hcell _ _ _ _ (hs.get 0 rfl), ?_⟩
    refine ⟨_, wrap_u8b m, ?_⟩
    intro b2
    refine ⟨2, l1.length, l1.length + 1, l1.map byte, [byte (UInt8.ofNat m)], (l1 ++ [UInt8.ofNat m]).map byte, rfl, fun β w' hs => row_rd (hs.get 0 rfl), bytes_one [UInt8.ofNat m], rfl, by simp, by rw [maxLen_eq]; omega, by show (l1.length + 1) * 1 ≤ _; omega, ?_⟩
    intro A' c' h1 h2 h3
    refine ⟨_, fun β w' hs => hs.bkSet 1 (o := 0) (us := [.slice A' (l1.length + 1) c']) rfl (Nat.le_refl 1) (fun u hu => by obtain rfl := List.mem_singleton.1 hu; rfl), ?_⟩
    intro β w' hs
    have e0 : l ++ Bx.vint n = l1 ++ [UInt8.ofNat m] := by rw [← he, Bx.vint_lt hl]
    have e : (l1 ++ [UInt8.ofNat m]).length = l1.length + 1 := by simp
    refine hs.fin [1, 2] ⟨rfl, A', c', ?_⟩
    rw [e0]
    unfold varF browF
    rw [e]
    rfl
end Go.Proofs.YtjlpcjpeljlbeaaGreatDoor.Sx

/- A plain box's hash of one part. -/
namespace Go.Proofs.YtjlpcjpeljlbeaaGreatDoor.Sx
open Go Sha
attribute [local irreducible] Calls

end Go.Proofs.YtjlpcjpeljlbeaaGreatDoor.Sx

/- Texts joined: the library's contract as ours; the message. -/
namespace Go.Proofs.YtjlpcjpeljlbeaaGreatDoor.Sx
open Go Sha
attribute [local irreducible] Calls

theorem chg_of {w w' : World} (h : RowKit.Below w.heap.size w w') : Chg None_ w w' := ⟨h.os, h.tape, h.output, h.size, fun k hk _ => h.block k hk⟩
end Go.Proofs.YtjlpcjpeljlbeaaGreatDoor.Sx

/- Parts of bytes joined; a term's print. -/
namespace Go.Proofs.YtjlpcjpeljlbeaaGreatDoor.Sx
open Go
attribute [local irreducible] Calls

theorem Bs.holds {w : World} {A : Option Addr} {l : List UInt8} (h : Bs w A l) (c : Nat) : Lib.HoldsBytes w (.slice A l.length c) l := by
  refine ⟨A, c, rfl, fun q => ?_, fun a q i x hx => ?_⟩
  · subst q
    rcases Nat.eq_zero_or_pos l.length with h0 | h0
    · exact List.eq_nil_of_length_eq_zero h0
    · obtain ⟨ad, q, _⟩ := h.2 h0; cases q
  · have hi : i < l.length := (List.getElem?_eq_some_iff.1 hx).1
    obtain ⟨ad, q2, hc⟩ := h.2 (by omega)
    rw [q] at q2
    obtain rfl := Option.some.inj q2
    exact hc i (byte x) (by simp [hx])
theorem join_nil (ls : List (List UInt8)) : Lib.join ls [] = ls.flatten := by
  simp [Lib.join, List.intercalate]
  induction ls with
  | nil => rfl
  | cons a r ih =>
    cases r with
    | nil => simp
    | cons b r => simp [ih]
theorem lens_flat (ls : List (List UInt8)) : Lib.lens ls = ls.flatten.length := by
  simp [Lib.lens, List.length_flatten]
/-- A new slice of bytes, to be read. -/
def readOut (l : List UInt8) (v : Value) (Fs : List Fact) : Prop := ∃ A c, v = .slice A l.length c ∧ l.length ≤ c ∧ c ≤ maxLen ∧ Fs = [rdoF 1 A l.length (l.map byte)]
theorem fin_read {w w' : World} {A : Option Addr} {l : List UInt8} {c : Nat} (hr : Bs w' A l) (hc : Chg None_ w w') (hD : ∀ k, (bsF A l).D k → w.heap.size ≤ k) (h1 : l.length ≤ c) (h2 : c ≤ maxLen) : Fin w [] (readOut l) (.slice A l.length c) w' := by
  refine ⟨[rdoF 1 A l.length (l.map byte)], ⟨A, c, rfl, h1, h2, rfl⟩, by rw [Un.nil]; exact hc, ⟨fun g hg => ?_, fun g hg k hk => ?_, List.pairwise_singleton _ _⟩, ⟨rfl, trivial⟩, fun g hg k hk => ?_⟩
  · obtain rfl := List.mem_singleton.1 hg; exact hr
  · obtain rfl := List.mem_singleton.1 hg; exact rd_lt hr k hk
  · obtain rfl := List.mem_singleton.1 hg; exact .inr (hD k hk)
theorem fresh_fin {w w' : World} {v : Value} {l : List UInt8} (hf : Lib.FreshBytes w.heap.size w' v l) (hb : RowKit.Below w.heap.size w w') : Fin w [] (readOut l) v w' := by
  obtain ⟨g, cap, zs, rfl, hg, h1, h2, hz, hz2, hbo, hc, _⟩ := hf
  refine fin_read ?_ (chg_of hb) ?_ h1 h2
  · refine ⟨by simp, fun hp => ⟨_, rfl, fun j u hu => ?_⟩⟩
    rw [List.getElem?_map] at hu
    obtain ⟨x, hx, rfl⟩ := Option.map_eq_some_iff.1 hu
    have hj : j < l.length := (List.getElem?_eq_some_iff.1 hx).1
    rw [add_none, Nat.zero_add, hc j (by omega)]
    have hj2 : j < zs.length := by omega
    have h3 : (Lib.bytesOf (zs.take l.length))[j]? = some x := by rw [hbo]; exact hx
    rw [Lib.bytesOf, List.getElem?_map, List.getElem?_take, if_pos hj, List.getElem?_eq_getElem hj2] at h3
    have h4 : UInt8.ofNat zs[j].toNat = x := by simpa using h3
    have h5 : zs.getD j 0 = zs[j] := by simp [hj2]
    have h6 := hz2 zs[j] (List.getElem_mem hj2)
    have h7 : (x.toNat : Int) = zs[j] := by
      rw [← h4, UInt8.toNat_ofNat']
      omega
    rw [h5, ← h7]
    rfl
  · rintro k ⟨_, ad, q, rfl⟩
    obtain rfl := Option.some.inj q
    exact hg

/-- Two parts or more, joined. -/
theorem joinN_c (w : World) (b c : Nat) (vs : List Value) (ls : List (List UInt8)) (hP : Rd 1 (some ⟨b, 0, none⟩) ls.length vs w) (hH : ∀ (i : Nat) v l, vs[i]? = some v → ls[i]? = some l → Lib.HoldsBytes w v l) (h2 : 2 ≤ ls.length) (hcap : ls.length ≤ c) (hn : ls.length ≤ 1000) (hlen : ls.flatten.length ≤ 140737488355328) :
    Con Tryz.prog n_bytes_Join #[.slice (some ⟨b, 0, none⟩) ls.length c, .slice none 0 0] w [] (readOut ls.flatten) := by
  refine con_of_calls (Calls.mono (Tryz.bytes_Join_many b 0 ls.length c vs ls (.slice none 0 0) [] w rfl h2 ⟨by have := hP.1; omega, fun i v hv => ?_, hH⟩ hcap ⟨none, 0, rfl, fun _ => rfl, fun a q => by cases q⟩ (by omega) (by rw [lens_flat]; simpa using hlen)) ?_)
  · obtain ⟨ad, q, hc⟩ := hP.2 (by omega)
    obtain rfl := Option.some.inj q
    exact hc i v hv
  · rintro e w' ⟨v, rfl, hf, hb⟩
    rw [join_nil] at hf
    exact ⟨v, rfl, fresh_fin hf hb⟩
end Go.Proofs.YtjlpcjpeljlbeaaGreatDoor.Sx

/- A term's print. -/
namespace Go.Proofs.YtjlpcjpeljlbeaaGreatDoor.Sx
open Go
attribute [local irreducible] Calls

/-- Where a term's parts lie. -/
structure TA where
  k : Option Addr
  t : Option Addr
  l : Option Addr
  m : Option Addr
  kc : Nat
  tc : Nat
  lc : Nat
  mc : Nat
def ints (l : List Nat) : List Value := l.map fun (n : Nat) => Value.int .i64 (n : Int)
def termV (t : Bx.Term) (a : TA) : List Value := [.int .i64 t.kind, .slice a.k t.key.length a.kc, .slice a.t t.text.length a.tc, .int .i64 t.rounds, .slice a.l t.list.length a.lc, .slice a.m t.mask.length a.mc]
def termS (t : Bx.Term) (a : TA) : List SL := [.v (.int .i64 t.kind), .v (.slice a.k t.key.length a.kc), .v (.slice a.t t.text.length a.tc), .v (.int .i64 t.rounds), .v (.slice a.l t.list.length a.lc), .v (.slice a.m t.mask.length a.mc)]
/-- A term's parts can be read. -/
structure TRd (t : Bx.Term) (a : TA) (w : World) : Prop where
  hk : Bs w a.k t.key
  ht : Bs w a.t t.text
  hl : Rd 1 a.l t.list.length (ints t.list) w
  hm : Bs w a.m t.mask
theorem TRd.old {t : Bx.Term} {a : TA} {W w : World} (h : TRd t a W) (ho : (oldF W).p w) : TRd t a w := ⟨Rd.old h.hk ho, Rd.old h.ht ho, Rd.old h.hl ho, Rd.old h.hm ho⟩
/-- A term that isn't too great. -/
structure TSz (t : Bx.Term) : Prop where
  kind : t.kind < 1000
  rounds : t.rounds < 1000
  key : t.key.length ≤ 1000000
  text : t.text.length ≤ 1000000
  list : t.list.length ≤ 10000
  nums : ∀ n ∈ t.list, n < 1000000
  mask : t.mask.length ≤ 1000000

theorem vints_len : ∀ (l : List Nat), (∀ n ∈ l, n < 4611686018427387904) → (l.flatMap Bx.vint).length ≤ 9 * l.length
  | [], _ => by simp
  | a :: r, h => by
    have h1 := vint_nine (h a List.mem_cons_self)
    have h2 := vints_len r (fun n hn => h n (List.mem_cons_of_mem _ hn))
    rw [List.flatMap_cons, List.length_append, List.length_cons]
    omega
theorem flat_take {l : List Nat} {k x : Nat} (h : l[k]? = some x) : (l.take (k + 1)).flatMap Bx.vint = (l.take k).flatMap Bx.vint ++ Bx.vint x := by
  obtain ⟨hk, rfl⟩ := List.getElem?_eq_some_iff.1 h
  rw [List.take_succ_eq_append_getElem hk, List.flatMap_append, List.flatMap_singleton]
theorem ints_at {l : List Nat} {k x : Nat} (h : l[k]? = some x) : (ints l)[k]? = some (.int .i64 (x : Int)) := by
  simp [ints, h]
structure PrS where
  k : Nat
  A : Option Addr
  c : Nat
def heads5 (t : Bx.Term) : List Nat := [t.kind, t.rounds, t.key.length, t.text.length, t.list.length]
theorem print_c (w : World) (t : Bx.Term) (a : TA) (hr : TRd t a w) (hs : TSz t) : Pu Tryz.prog n_box_Term_print #[.agg (termV t a).toArray] w (.string ⟨(Bx.print t).toArray⟩) := by
  have g := good_box_Term_print w (Un [])
  have h5 : ∀ n ∈ heads5 t, n < 4611686018427387904 := by
    have := hs.kind; have := hs.rounds; have := hs.key; have := hs.text; have := hs.list
    intro n hn
    simp only [heads5, List.mem_cons, List.not_mem_nil, or_false] at hn
    rcases hn with rfl | rfl | rfl | rfl | rfl <;> omega
  have h6 : ∀ n ∈ t.list, n < 4611686018427387904 := fun n hn => by have := hs.nums n hn; omega
  refine con_of_sx (cx := cx_box_Term_print w (Un [])) g b_box_Term_print rfl rfl (β := Va.z) [.agg (termS t a)] 0 [] [oldF w] rfl rfl (old_sat rfl) ?_
  intro b5
  refine reify_rule g 1 (fun _ => [.slice none 0 0]) rfl rfl (fun _ => rfl) (fun b => ?_)
  refine loop_rule (ι := PrS) 2 (fun i => [(23, .c (.v (.slice (some ⟨b5, 0, none⟩) 5 5))), (24, .c (.v (.int .i64 5))), (25, .c (.v (.int .i64 i.k))), (1, .c (.p 0 0)), (3, .c (.v (.pointer (some ⟨b, 0, none⟩)))), (4, .fn (.func n_box_Term_print_1) [] [.v (.pointer (some ⟨b, 0, none⟩))])]) (fun _ => [⟨0, ty_box_Term, termS t a⟩])
    (fun i => varF b i.A (((heads5 t).take i.k).flatMap Bx.vint) i.c ++ [rowF ty_int 1 (.slice (some ⟨b5, 0, none⟩) 5 5) 5 (ints (heads5 t)), oldF w])
    (fun i => i.k ≤ 5) (fun i => 5 - i.k) ⟨0, none, 0⟩ (Nat.zero_le _) (Ent.mk' ⟨rfl, rfl, rfl, rfl, rfl, rfl, trivial⟩ rfl ?_) g ?_
  · intro β w' hs
    exact (hs.nilRow ty_uint8 1).perm [1, 0, 2, 3]
  rintro ⟨k, A1, c1⟩ hk
  simp only at hk
  have hb1 : (((heads5 t).take k).flatMap Bx.vint).length ≤ 45 := by
    have := vints_len ((heads5 t).take k) (fun n hn => h5 n (List.take_subset _ _ hn))
    have h7 : ((heads5 t).take k).length ≤ 5 := by rw [List.length_take]; show min k 5 ≤ 5; omega
    omega
  refine BIf.dec (fun hlt => ?_) (fun hge => ?_)
  · have hlt0 : (k : Int) < 5 := hlt
    have hkl : k < (heads5 t).length := by show k < 5; omega
    obtain ⟨x, hx, hxm⟩ := at_lt hkl
    have hu := ints_at hx
    refine ⟨⟨b5, 0, none⟩, k, rfl, rfl, by omega, _, fun β w' hs => Rd.cell1 (row_rd (hs.get 2 rfl)) hu, ?_⟩
    refine call_con [0, 1] (fun β w' hs => long7_c w' b x A1 (((heads5 t).take k).flatMap Bx.vint) c1 (h5 _ hxm) (by omega) (hs.mem.take (js := [0, 1]) rfl)) ?_
    rintro v Fs ⟨rfl, A2, c2, rfl⟩
    refine ⟨((k + 1 : Nat) : Int), by rw [wrap_i64 (by omega) (by omega)]; rfl, ?_⟩
    refine ⟨⟨k + 1, A2, c2⟩, by show k + 1 ≤ 5; omega, by show 5 - (k + 1) < 5 - k; omega, Ent.mk' ⟨rfl, rfl, rfl, rfl, rfl, rfl, trivial⟩ rfl ?_⟩
    intro β w' hs
    show Sat _ _ _ _ (varF b A2 (((heads5 t).take (k + 1)).flatMap Bx.vint) c2 ++ _) _
    rw [flat_take hx]
    exact hs
  have hge0 : ¬ (k : Int) < 5 := hge
  have hke : k = 5 := by omega
  subst hke
  have hpre : ((heads5 t).take 5).flatMap Bx.vint = (heads5 t).flatMap Bx.vint := rfl
  rw [hpre] at hb1
  refine loop_rule (ι := PrS) 2 (fun i => [(34, .c (.v (.slice a.l t.list.length a.lc))), (35, .c (.v (.int .i64 t.list.length))), (36, .c (.v (.int .i64 i.k))), (1, .c (.p 0 0)), (3, .c (.v (.pointer (some ⟨b, 0, none⟩)))), (4, .fn (.func n_box_Term_print_1) [] [.v (.pointer (some ⟨b, 0, none⟩))])]) (fun _ => [⟨0, ty_box_Term, termS t a⟩])
    (fun i => varF b i.A ((heads5 t).flatMap Bx.vint ++ (t.list.take i.k).flatMap Bx.vint) i.c ++ [oldF w])
    (fun i => i.k ≤ t.list.length) (fun i => t.list.length - i.k) ⟨0, A1, c1⟩ (Nat.zero_le _) (Ent.mk' ⟨rfl, rfl, rfl, rfl, rfl, rfl, trivial⟩ rfl ?_) g ?_
  · intro β w' hs
    have e : (heads5 t).flatMap Bx.vint ++ (t.list.take 0).flatMap Bx.vint = (heads5 t).flatMap Bx.vint := by simp
    show Sat _ _ _ _ (varF b A1 ((heads5 t).flatMap Bx.vint ++ (t.list.take 0).flatMap Bx.vint) c1 ++ _) _
    rw [e]
    exact hs.perm [0, 1, 3]
  rintro ⟨k, A2, c2⟩ hk
  simp only at hk
  have hll := hs.list
  have hb2 : ((heads5 t).flatMap Bx.vint ++ (t.list.take k).flatMap Bx.vint).length ≤ 100000 := by
    have := vints_len (t.list.take k) (fun n hn => h6 n (List.take_subset _ _ hn))
    have h7 : (t.list.take k).length ≤ t.list.length := by simp; omega
    rw [List.length_append]
    omega
  refine BIf.dec (fun hlt => ?_) (fun hge => ?_)
  · have hlt0 : (k : Int) < t.list.length := hlt
    have hkl : k < t.list.length := by omega
    obtain ⟨x, hx, hxm⟩ := at_lt hkl
    have hu := ints_at hx
    obtain ⟨ad, hA, hc⟩ := hr.hl.2 (by omega)
    have hr2 := hr.hl
    rw [hA] at hr2
    refine ⟨ad, k, hA, rfl, hkl, _, fun β w' hs => Rd.cell1 (Rd.old hr2 (hs.get 2 rfl)) hu, ?_⟩
    refine call_con [0, 1] (fun β w' hs => long7_c w' b x A2 ((heads5 t).flatMap Bx.vint ++ (t.list.take k).flatMap Bx.vint) c2 (h6 _ hxm) (by omega) (hs.mem.take (js := [0, 1]) rfl)) ?_
    rintro v Fs ⟨rfl, A3, c3, rfl⟩
    refine ⟨((k + 1 : Nat) : Int), by rw [wrap_i64 (by omega) (by omega)]; rfl, ?_⟩
    refine ⟨⟨k + 1, A3, c3⟩, by show k + 1 ≤ t.list.length; omega, by show t.list.length - (k + 1) < t.list.length - k; omega, Ent.mk' ⟨rfl, rfl, rfl, rfl, rfl, rfl, trivial⟩ rfl ?_⟩
    intro β w' hs
    show Sat _ _ _ _ (varF b A3 ((heads5 t).flatMap Bx.vint ++ (t.list.take (k + 1)).flatMap Bx.vint) c3 ++ _) _
    rw [flat_take hx, ← List.append_assoc]
    exact hs
  have hge0 : ¬ (k : Int) < t.list.length := hge
  have hke : k = t.list.length := by omega
  subst hke
  have hpre2 : (heads5 t).flatMap Bx.vint ++ (t.list.take t.list.length).flatMap Bx.vint = (heads5 t).flatMap Bx.vint ++ t.list.flatMap Bx.vint := by rw [List.take_length]
  rw [hpre2] at hb2
  rw [hpre2]
  generalize hq : (heads5 t).flatMap Bx.vint ++ t.list.flatMap Bx.vint = q at hb2 ⊢
  have hcell : ∀ (w' : World) (A : Option Addr) (l : List UInt8) (c : Nat), (bkF b ty_sl_uint8 [.slice A l.length c]).p w' → w'.cell? ⟨b, 0, none⟩ = some (.slice A l.length c) := fun w' A l c h => by
    have hb : w'.heap[b]? = some (.cells #[.slice A l.length c] ty_sl_uint8 (0, 0)) := h
    rw [cell_of_row w' b 0 _ _ _ hb]; rfl
  refine ⟨.slice A2 q.length c2, fun β w' hs => hcell _ _ _ _ (hs.get 0 rfl), ?_⟩
  intro b6
  have hkey := hs.key
  have htext := hs.text
  have hmask := hs.mask
  have hfl : [q, t.key, t.text, t.mask].flatten = Bx.print t := by
    rw [Bx.print, ← hq]
    simp [heads5]
  refine call_con [] (R := readOut (Bx.print t)) (fun β w' hs => by
    have h := joinN_c w' b6 4 [.slice A2 q.length c2, .slice a.k t.key.length a.kc, .slice a.t t.text.length a.tc, .slice a.m t.mask.length a.mc] [q, t.key, t.text, t.mask] (row_rd (hs.get 0 rfl)) (fun i v l hv hl => by
      match i, hv, hl with
      | 0, hv, hl => obtain rfl := Option.some.inj hv; obtain rfl := Option.some.inj hl; exact Bs.holds (row_rd (hs.get 2 rfl)) _
      | 1, hv, hl => obtain rfl := Option.some.inj hv; obtain rfl := Option.some.inj hl; exact Bs.holds (Rd.old hr.hk (hs.get 3 rfl)) _
      | 2, hv, hl => obtain rfl := Option.some.inj hv; obtain rfl := Option.some.inj hl; exact Bs.holds (Rd.old hr.ht (hs.get 3 rfl)) _
      | 3, hv, hl => obtain rfl := Option.some.inj hv; obtain rfl := Option.some.inj hl; exact Bs.holds (Rd.old hr.hm (hs.get 3 rfl)) _
      | n + 4, hv, hl => cases hv) (by show 2 ≤ 4; decide) (Nat.le_refl 4) (by show 4 ≤ 1000; decide) (by simp; omega)
    rw [hfl] at h
    exact h) ?_
  rintro v Fs ⟨A, c, rfl, h1, h2, rfl⟩
  refine ⟨Bx.print t, fun β w hs => hs.get 0 rfl, ?_⟩
  intro β w' hs
  exact hs.fin [] ⟨rfl, rfl⟩
end Go.Proofs.YtjlpcjpeljlbeaaGreatDoor.Sx

/- Lists of numbers: copied, looked through; a term of its own. -/
namespace Go.Proofs.YtjlpcjpeljlbeaaGreatDoor.Sx
open Go
attribute [local irreducible] Calls

theorem ints_one (l : List Nat) : ∀ u ∈ ints l, u.oneCell' = true := by
  intro u hu
  obtain ⟨x, _, rfl⟩ := List.mem_map.1 hu
  rfl
abbrev irowF (A : Option Addr) (l : List Nat) (c : Nat) : Fact := rowF ty_int 1 (.slice A l.length c) l.length (ints l)
theorem cloneI_c (w : World) (A : Option Addr) (l : List Nat) (c : Nat) (hr : Rd 1 A l.length (ints l) w) (hn : l.length ≤ 10000000000000) :
    Con Tryz.prog 226 #[.slice A l.length c] w [] fun v Fs => ∃ A' c', v = .slice A' l.length c' ∧ l.length ≤ c' ∧ c' ≤ maxLen ∧ Fs = [irowF A' l c'] := by
  refine con_of_sx (cx := cx_slices_Clone_int_int w (Un [])) (good_slices_Clone_int_int w (Un [])) b_slices_Clone_int_int rfl rfl (β := Va.z) [.c (.v (.slice A l.length c))] 0 [] [rdF 1 A l.length (ints l)] rfl rfl ((Sat.start rfl).rd (fun _ h => by cases h) hr) ?_
  refine BIf.mk (fun h => ?_) (fun h => ?_)
  · intro β w' hs
    have hA : A = none := by simpa using h
    subst hA
    have hl : l = [] := by
      cases l with
      | nil => rfl
      | cons x r => obtain ⟨ad, q, _⟩ := hr.2 (by simp); cases q
    subst hl
    exact (hs.nilRow ty_int 1).fin [0] ⟨none, 0, rfl, Nat.le_refl _, Nat.zero_le _, rfl⟩
  intro b
  refine ⟨0, 0, l.length, [], ints l, _, rfl, fun β w hs => hs.get 1 rfl, ints_one l, Nat.zero_add _, rfl, by rw [maxLen_eq]; omega, by show l.length * 8 ≤ _; omega, ?_⟩
  intro A' c' h1 h2 h3 β w' hs
  exact hs.fin [0] ⟨A', c', rfl, h1, h2, rfl⟩
/-- A copy's parts. -/
def copyFs (t : Bx.Term) (a : TA) : List Fact := [browF ty_uint8 a.m t.mask a.mc, irowF a.l t.list a.lc, browF ty_uint8 a.t t.text a.tc, browF ty_uint8 a.k t.key a.kc]
theorem copyOf_c (w : World) (t : Bx.Term) (a : TA) (hr : TRd t a w) (hs : TSz t) :
    Con Tryz.prog n_box_copyOf #[.agg (termV t a).toArray] w [] fun v Fs => ∃ a', v = .agg (termV t a').toArray ∧ Fs = copyFs t a' := by
  have g := good_box_copyOf w (Un [])
  have hkey := hs.key
  have htext := hs.text
  have hmask := hs.mask
  have hlist := hs.list
  refine con_of_sx (cx := cx_box_copyOf w (Un [])) g b_box_copyOf rfl rfl (β := Va.z) [.agg (termS t a)] 0 [] [oldF w] rfl rfl (old_sat rfl) ?_
  have hS : ∀ {n : Nat} {F : List Fact}, Sub (cx_box_copyOf w (Un [])) n [⟨1, ty_box_Term, ti197.zero.map SL.v⟩, ⟨0, ty_box_Term, termS t a⟩] F [⟨0, ty_box_Term, termS t a⟩] [] := fun {n F} => Sub.of (List.sublist_cons_self _ _) (List.nil_sublist _)
  refine draw_rule g p_box_copyOf_1 (by kernel_rfl) [⟨0, ty_box_Term, termS t a⟩] [] hS ?_
  refine call_con [] (fun β w' hs => clone_c w' a.k t.key a.kc (Rd.old hr.hk (hs.get 0 rfl)) (by omega)) ?_
  rintro v Fs ⟨A1, c1, rfl, _, _, rfl⟩
  refine ⟨hS, ?_⟩
  refine call_con [] (fun β w' hs => clone_c w' a.t t.text a.tc (Rd.old hr.ht (hs.get 1 rfl)) (by omega)) ?_
  rintro v Fs ⟨A2, c2, rfl, _, _, rfl⟩
  refine ⟨hS, ?_⟩
  refine call_con [] (fun β w' hs => cloneI_c w' a.l t.list a.lc (Rd.old hr.hl (hs.get 2 rfl)) (by omega)) ?_
  rintro v Fs ⟨A3, c3, rfl, _, _, rfl⟩
  refine ⟨hS, ?_⟩
  refine call_con [] (fun β w' hs => clone_c w' a.m t.mask a.mc (Rd.old hr.hm (hs.get 3 rfl)) (by omega)) ?_
  rintro v Fs ⟨A4, c4, rfl, _, _, rfl⟩
  refine ⟨hS, ?_⟩
  intro β w' hs
  exact (hs.keepB (List.nil_sublist _)).fin [0, 1, 2, 3] ⟨⟨A1, A2, A3, A4, c1, c2, c3, c4⟩, rfl, rfl⟩ rfl rfl rfl ⟨rfl, rfl, rfl, rfl, trivial⟩
end Go.Proofs.YtjlpcjpeljlbeaaGreatDoor.Sx

/- A box in memory. -/
namespace Go.Proofs.YtjlpcjpeljlbeaaGreatDoor.Sx
open Go
attribute [local irreducible] Calls

def str (l : List UInt8) : ByteArray := ⟨l.toArray⟩
theorem str_inj {l m : List UInt8} : str l = str m ↔ l = m := by
  constructor
  · intro h
    have := congrArg (fun s : ByteArray => s.data.toList) h
    simpa [str] using this
  · rintro rfl; rfl
def numV (n : Nat) : Value := .int .i64 (n : Int)
/-- The map of prints: from number k on. -/
def mapL : List Bx.Term → Nat → ML
  | [], _ => []
  | t :: r, k => (str (Bx.print t), numV (k + 1)) :: mapL r (k + 1)
theorem mapL_look (t : Bx.Term) : ∀ (L : List Bx.Term) (k : Nat), mlook (mapL L k) (str (Bx.print t)) = (Bx.place t L).map fun i => numV (i + k + 1)
  | [], _ => rfl
  | x :: r, k => by
    simp only [mapL, mlook, Bx.place]
    by_cases h : x = t
    · subst h
      simp
    · have h' : ¬ str (Bx.print x) = str (Bx.print t) := fun q => h (Bx.print_inj (str_inj.1 q))
      rw [if_neg h', if_neg h, mapL_look t r (k + 1), Option.map_map]
      congr 1
      funext i
      simp only [Function.comp]
      rw [show i + (k + 1) + 1 = i + 1 + k + 1 by omega]
theorem mput_new : ∀ {l : ML} {s : ByteArray} {v : Value}, mlook l s = none → mput l s v = l ++ [(s, v)]
  | [], _, _, _ => rfl
  | (k, u) :: r, s, v, h => by
    simp only [mlook] at h
    split at h
    · cases h
    · rename_i hne
      simp only [mput, if_neg hne, List.cons_append]
      rw [mput_new h]
theorem mapL_snoc (t : Bx.Term) : ∀ (L : List Bx.Term) (k : Nat), mapL (L ++ [t]) k = mapL L k ++ [(str (Bx.print t), numV (L.length + k + 1))]
  | [], k => by simp [mapL]
  | x :: r, k => by
    simp only [List.cons_append, mapL, List.length_cons]
    rw [mapL_snoc t r (k + 1), show r.length + (k + 1) + 1 = r.length + 1 + k + 1 by omega]

/-- A term's parts, to be read. -/
def TD_ (t : Bx.Term) (a : TA) (k : Nat) : Prop := (bsF a.k t.key).D k ∨ (bsF a.t t.text).D k ∨ (rdF 1 a.l t.list.length (ints t.list)).D k ∨ (bsF a.m t.mask).D k
theorem TRd.st {t : Bx.Term} {a : TA} {w w' : World} (hs : ∀ k, TD_ t a k → w'.heap[k]? = w.heap[k]?) (h : TRd t a w) : TRd t a w' :=
  ⟨(bsF a.k t.key).st w w' (fun k hk => hs k (.inl hk)) h.hk, (bsF a.t t.text).st w w' (fun k hk => hs k (.inr (.inl hk))) h.ht, (rdF 1 a.l t.list.length (ints t.list)).st w w' (fun k hk => hs k (.inr (.inr (.inl hk)))) h.hl, (bsF a.m t.mask).st w w' (fun k hk => hs k (.inr (.inr (.inr hk)))) h.hm⟩
def trdF (t : Bx.Term) (a : TA) : Fact where
  own := false
  D := TD_ t a
  p := TRd t a
  st := fun w w' hs h => TRd.st hs h
/-- All terms' parts. -/
def partsF (ts : List (Bx.Term × TA)) : Fact where
  own := true
  D := fun k => ∃ p ∈ ts, TD_ p.1 p.2 k
  p := fun w => ∀ p ∈ ts, TRd p.1 p.2 w
  st := fun w w' hs h p hp => TRd.st (fun k hk => hs k ⟨p, hp, hk⟩) (h p hp)
/-- Where a box's parts lie. -/
structure Lay where
  A : Option Addr
  c : Nat
  m : Nat
  ts : List (Bx.Term × TA)
def boxCells (B : Bx.Box) (y : Lay) : List Value := [.bool B.sym, .bool B.full, .slice y.A B.L.length y.c, .map (some y.m)]
def termsV (ts : List (Bx.Term × TA)) : List Value := ts.flatMap fun p => termV p.1 p.2
def bxFs (b : Nat) (B : Bx.Box) (y : Lay) : List Fact := [bkF b ty_box_Box (boxCells B y), rowF ty_box_Term 6 (.slice y.A B.L.length y.c) B.L.length (termsV y.ts), mapF y.m (mapL B.L 0), partsF y.ts]
/-- A box, whole. -/
def bxF (b : Nat) (B : Bx.Box) (y : Lay) : Fact := sepF (bxFs b B y)
theorem box_cell {b : Nat} {B : Bx.Box} {y : Lay} {w : World} (h : (bkF b ty_box_Box (boxCells B y)).p w) {o : Nat} {v : Value} (ho : (boxCells B y)[o]? = some v) : w.cell? ⟨b, o, none⟩ = some v := by
  have hb : w.heap[b]? = some (.cells (boxCells B y).toArray ty_box_Box (0, 0)) := h
  rw [cell_of_row w b o _ _ _ hb]
  simpa using ho
theorem bk_cell {b ty : Nat} {cs : List Value} {w : World} (h : (bkF b ty cs).p w) {o : Nat} {v : Value} (ho : cs[o]? = some v) : w.cell? ⟨b, o, none⟩ = some v := by
  have hb : w.heap[b]? = some (.cells cs.toArray ty (0, 0)) := h
  rw [cell_of_row w b o _ _ _ hb]
  simpa using ho
theorem termV_one (t : Bx.Term) (a : TA) : ∀ u ∈ termV t a, u.oneCell' = true := by
  intro u hu
  simp only [termV, List.mem_cons, List.not_mem_nil, or_false] at hu
  rcases hu with rfl | rfl | rfl | rfl | rfl | rfl <;> rfl
theorem one_mem {v : Value} (h : v.oneCell' = true) : ∀ u ∈ [v], u.oneCell' = true := fun u hu => by obtain rfl := List.mem_singleton.1 hu; exact h
/-- What a term's handle is, in memory; the box behind it. -/
def tagOut (b : Nat) (B : Bx.Box) (t : Bx.Term) (v : Value) (Fs : List Fact) : Prop :=
  ∃ A c y', v = .slice A 32 c ∧ 32 ≤ c ∧ c ≤ maxLen ∧ y'.ts.map (·.1) = (B.tag t).2.L ∧ Fs = [browF ty_uint8 A (B.tag t).1 c, bxF b (B.tag t).2 y']
theorem zero_int (w : World) : (zeroValue ty_int).run Tryz.prog w = .ok (.int .i64 0) w := by kernel_rfl
theorem tag_c (w : World) (b : Nat) (B : Bx.Box) (y : Lay) (t : Bx.Term) (a : TA) (hts : y.ts.map (·.1) = B.L) (hL : B.L.length ≤ 4096) (hs : TSz t) (hm : Mem w [bxF b B y, trdF t a]) :
    Con Tryz.prog n_box_Box_tag #[.pointer (some ⟨b, 0, none⟩), .agg (termV t a).toArray] w [bxF b B y] (tagOut b B t) := by
  have g := good_box_Box_tag w (Un [bxF b B y])
  have hs0 : Sat (cx_box_Box_tag w (Un [bxF b B y])) Va.z 0 [] [bxF b B y, trdF t a] w := hm.sat0 rfl (fun f hf ho k hk => by
    simp only [List.mem_cons, List.not_mem_nil, or_false] at hf
    rcases hf with rfl | rfl
    · exact ⟨_, List.mem_singleton.2 rfl, hk⟩
    · cases ho)
  have hs1 := hs0.unsep 0 rfl
  refine con_of_sx (cx := cx_box_Box_tag w (Un [bxF b B y])) g b_box_Box_tag rfl rfl (β := Va.z) [.c (.v (.pointer (some ⟨b, 0, none⟩))), .agg (termS t a)] 0 [] (bxFs b B y ++ [trdF t a]) rfl rfl hs1 ?_
  refine call_pu (fun β w' hs' => print_c w' t a (hs'.get 4 rfl) hs) ?_
  refine ⟨.map (some y.m), fun β w' hs' => box_cell (hs'.get 0 rfl) (o := 3) rfl, ?_⟩
  have hlook := mapL_look t B.L 0
  cases hpl : Bx.place t B.L with
  | some i =>
    rw [hpl] at hlook
    refine ⟨.int .i64 0, zero_int, mapL B.L 0, some (numV (i + 1)), fun β w' hs' => hs'.get 2 rfl, hlook, ?_⟩
    refine call_con [] (fun β w' hs' => handle_c w' (i + 1)) ?_
    rintro v Fs ⟨A1, c1, rfl, q1, q2, rfl⟩
    have htag : B.tag t = (Bx.handle (i + 1), B) := by unfold Bx.Box.tag; rw [hpl]
    intro β w' hs'
    have hs2 := (hs'.keepB (List.nil_sublist _)).sep [1, 2, 3, 4] rfl ⟨rfl, rfl, rfl, rfl, trivial⟩
    exact hs2.fin [1, 0] ⟨A1, c1, y, rfl, q1, q2, by rw [htag]; exact hts, by rw [htag]; rfl⟩
  | none =>
    rw [hpl] at hlook
    refine ⟨.int .i64 0, zero_int, mapL B.L 0, none, fun β w' hs' => hs'.get 2 rfl, hlook, ?_⟩
    refine ⟨.slice y.A B.L.length y.c, fun β w' hs' => box_cell (hs'.get 0 rfl) (o := 2) rfl, ?_⟩
    refine BIf.dec (fun hge => ?_) (fun hlt => ?_)
    · have hge0 : (4096 : Int) ≤ (B.L.length : Int) := hge
      have hge1 : 4096 ≤ B.L.length := by omega
      refine ⟨_, fun β w' hs' => hs'.bkSet 0 (o := 1) (us := [.bool true]) rfl (by show 2 ≤ 4; decide) (one_mem rfl), ?_⟩
      refine ⟨32, 32, rfl, rfl, Nat.le_refl _, by decide, by decide, ?_⟩
      intro b2
      have htag : B.tag t = (Bx.noughts, { B with full := true }) := by unfold Bx.Box.tag; rw [hpl]; simp only; rw [if_pos hge1]
      intro β w' hs'
      have hs2 := (hs'.keepB (List.nil_sublist _)).sep [1, 2, 3, 4] rfl ⟨rfl, rfl, rfl, rfl, trivial⟩
      exact hs2.fin [1, 0] ⟨some ⟨b2, 0, none⟩, 32, y, rfl, Nat.le_refl _, by decide, by rw [htag]; exact hts, by rw [htag]; rfl⟩
    · have hlt0 : ¬ (4096 : Int) ≤ (B.L.length : Int) := hlt
      have hlt1 : ¬ 4096 ≤ B.L.length := by omega
      have htag : B.tag t = (Bx.handle (B.L.length + 1), { B with L := B.L ++ [t] }) := by unfold Bx.Box.tag; rw [hpl]; simp only; rw [if_neg hlt1]
      refine draw_rule g p_box_Box_tag_8 (by kernel_rfl) [⟨0, ty_box_Term, termS t a⟩] [bkF b ty_box_Box (boxCells B y)] (subPerm [0]) ?_
      refine ⟨.slice y.A B.L.length y.c, fun β w' hs' => box_cell (hs'.get 0 rfl) (o := 2) rfl, ?_⟩
      refine call_con [] (fun β w' hs' => copyOf_c w' t a (hs'.get 4 rfl) hs) ?_
      rintro v Fs ⟨a', rfl, rfl⟩
      refine ⟨subPerm [4], ?_⟩
      intro b7
      refine ⟨subPerm [5], ?_⟩
      refine ⟨6, B.L.length, B.L.length + 1, termsV y.ts, termV t a', termsV (y.ts ++ [(t, a')]), rfl, fun β w' hs' => row_rd (hs'.get 0 rfl), termV_one t a', rfl, by simp [termsV], by rw [maxLen_eq]; omega, by show (B.L.length + 1) * 112 ≤ _; omega, ?_⟩
      intro A' c' q1 q2 q3
      refine ⟨subPerm [5], ?_⟩
      refine ⟨subPerm [5], ?_⟩
      refine ⟨_, fun β w' hs' => hs'.bkSet 5 (o := 2) (us := [.slice A' (B.L.length + 1) c']) rfl (by show 3 ≤ 4; decide) (one_mem rfl), ?_⟩
      have hbx : putAll (boxCells B y) 2 [.slice A' (B.L.length + 1) c'] = [.bool B.sym, .bool B.full, .slice A' (B.L.length + 1) c', .map (some y.m)] := rfl
      rw [hbx]
      refine draw_rule g p_box_Box_tag_9 (by kernel_rfl) [⟨0, ty_box_Term, termS t a⟩] [bkF b ty_box_Box [.bool B.sym, .bool B.full, .slice A' (B.L.length + 1) c', .map (some y.m)]] (subPerm [5]) ?_
      refine ⟨.map (some y.m), fun β w' hs' => bk_cell (hs'.get 0 rfl) (o := 3) rfl, ?_⟩
      refine ⟨.slice A' (B.L.length + 1) c', fun β w' hs' => bk_cell (hs'.get 0 rfl) (o := 2) rfl, ?_⟩
      refine ⟨_, fun _ => _, fun β w' hs' => hs'.mapPutY g 7 rfl (t := ty_map_string_int) (str (Bx.print t)) (numV (B.L.length + 1)), fun _ => ?_⟩
      refine ⟨subPerm [5], ?_⟩
      refine ⟨.slice A' (B.L.length + 1) c', fun β w' hs' => bk_cell (hs'.get 5 rfl) (o := 2) rfl, ?_⟩
      refine call_con [] (fun β w' hs' => handle_c w' (B.L.length + 1)) ?_
      rintro v Fs ⟨A9, c9, rfl, r1, r2, rfl⟩
      have hmap : mput (mapL B.L 0) (str (Bx.print t)) (numV (B.L.length + 1)) = mapL (B.L ++ [t]) 0 := by rw [mput_new hlook, mapL_snoc]
      have hbF : bxF b { B with L := B.L ++ [t] } ⟨A', c', y.m, y.ts ++ [(t, a')]⟩ = sepF [bkF b ty_box_Box [.bool B.sym, .bool B.full, .slice A' (B.L.length + 1) c', .map (some y.m)], rowF ty_box_Term 6 (.slice A' (B.L.length + 1) c') (B.L.length + 1) (termsV (y.ts ++ [(t, a')])), mapF y.m (mapL (B.L ++ [t]) 0), partsF (y.ts ++ [(t, a')])] := by
        simp [bxF, bxFs, boxCells]
      intro β w' hs'
      have hs2 := (hs'.keepB (List.nil_sublist _)).fuse [2, 3, 4, 5, 9] (partsF (y.ts ++ [(t, a')])) (fun w hm => ?_) (fun k hk => ?_) rfl ⟨rfl, rfl, rfl, rfl, rfl, trivial⟩
      · have hs3 := hs2.sep [3, 4, 5, 0] rfl ⟨rfl, rfl, rfl, rfl, trivial⟩
        refine hs3.fin [1, 0] ⟨A9, c9, ⟨A', c', y.m, y.ts ++ [(t, a')]⟩, rfl, r1, r2, ?_, ?_⟩
        · rw [htag]
          show (y.ts ++ [(t, a')]).map (·.1) = B.L ++ [t]
          rw [List.map_append, hts]
          rfl
        · rw [htag]
          show _ = [browF ty_uint8 A9 (Bx.handle (B.L.length + 1)) c9, bxF b { B with L := B.L ++ [t] } ⟨A', c', y.m, y.ts ++ [(t, a')]⟩]
          rw [hbF, ← hmap]
          rfl
      · have hm' : Mem w [browF ty_uint8 a'.m t.mask a'.mc, irowF a'.l t.list a'.lc, browF ty_uint8 a'.t t.text a'.tc, browF ty_uint8 a'.k t.key a'.kc, partsF y.ts] := hm
        intro p hp
        rcases List.mem_append.1 hp with hp | hp
        · exact hm'.fact (partsF y.ts) (by simp) p hp
        · obtain rfl := List.mem_singleton.1 hp
          exact ⟨row_rd (hm'.fact (browF ty_uint8 a'.k t.key a'.kc) (by simp)), row_rd (hm'.fact (browF ty_uint8 a'.t t.text a'.tc) (by simp)), row_rd (hm'.fact (irowF a'.l t.list a'.lc) (by simp)), row_rd (hm'.fact (browF ty_uint8 a'.m t.mask a'.mc) (by simp))⟩
      · show Un [browF ty_uint8 a'.m t.mask a'.mc, irowF a'.l t.list a'.lc, browF ty_uint8 a'.t t.text a'.tc, browF ty_uint8 a'.k t.key a'.kc, partsF y.ts] k
        obtain ⟨p, hp, hk⟩ := hk
        rcases List.mem_append.1 hp with hp | hp
        · exact ⟨partsF y.ts, by simp, p, hp, hk⟩
        · obtain rfl := List.mem_singleton.1 hp
          have hrow : ∀ {size e n c : Nat} {A : Option Addr} {xs : List Value}, (rdF size A n xs).D k → (rowF e size (.slice A n c) n xs).D k := by
            rintro size e n c A xs ⟨_, ad, rfl, rfl⟩
            rfl
          rcases hk with hk | hk | hk | hk
          · exact ⟨browF ty_uint8 a'.k t.key a'.kc, by simp, hrow hk⟩
          · exact ⟨browF ty_uint8 a'.t t.text a'.tc, by simp, hrow hk⟩
          · exact ⟨irowF a'.l t.list a'.lc, by simp, hrow hk⟩
          · exact ⟨browF ty_uint8 a'.m t.mask a'.mc, by simp, hrow hk⟩
end Go.Proofs.YtjlpcjpeljlbeaaGreatDoor.Sx

/- A symbolic box's hash of one part. -/
namespace Go.Proofs.YtjlpcjpeljlbeaaGreatDoor.Sx
open Go
attribute [local irreducible] Calls

theorem bx_bk {b : Nat} {B : Bx.Box} {y : Lay} {w : World} (h : (bxF b B y).p w) : (bkF b ty_box_Box (boxCells B y)).p w := h.1 _ (by simp [bxFs])
/-- A term of a text alone. -/
def hashT (l : List UInt8) : Bx.Term := ⟨1, [], l, 0, [], []⟩
theorem rd_nil (w : World) (A : Option Addr) : Rd 1 A 0 [] w := ⟨rfl, fun h => by cases h⟩
end Go.Proofs.YtjlpcjpeljlbeaaGreatDoor.Sx

/- What looks like a handle, and its number. -/
namespace Go.Proofs.YtjlpcjpeljlbeaaGreatDoor.Sx
open Go
attribute [local irreducible] Calls

end Go.Proofs.YtjlpcjpeljlbeaaGreatDoor.Sx

/- A tag, opened. -/
namespace Go.Proofs.YtjlpcjpeljlbeaaGreatDoor.Sx
open Go
attribute [local irreducible] Calls

theorem fact_old {f : Fact} {W w : World} (h : f.p W) (hD : ∀ k, f.D k → k < W.heap.size) (ho : (oldF W).p w) : f.p w := f.st W w (fun k hk => ho k (hD k hk)) h
end Go.Proofs.YtjlpcjpeljlbeaaGreatDoor.Sx

/- A ring's keys: how many, one of them. -/
namespace Go.Proofs.YtjlpcjpeljlbeaaGreatDoor.Sx
open Go
attribute [local irreducible] Calls

theorem fact_oldR {f : Fact} {W w : World} (h : f.p W) (hD : ∀ k, f.D k → k < W.heap.size) (ho : (oldF W).p w) : f.p w := f.st W w (fun k hk => ho k (hD k hk)) h
theorem zero_slB (w : World) : (zeroValue ty_sl_uint8).run Tryz.prog w = .ok (.slice none 0 0) w := by kernel_rfl
theorem epochs_c (w : World) (r : Rg) : Con Tryz.prog n_ring_Ring_Epochs #[ptrR r.b] w [] (fun v Fs => ∃ bx, v = .func (.func n_ring_Ring_Epochs_1) #[] #[.pointer (some ⟨bx, 0, none⟩)] ∧ Fs = [bkF bx ty_ptr_ring_Ring [ptrR r.b]]) := by
  refine con_of_sx (cx := cx_ring_Ring_Epochs w (Un [])) (good_ring_Ring_Epochs w (Un [])) b_ring_Ring_Epochs rfl rfl (β := Va.z) [.c (.v (ptrR r.b))] 0 [] [] rfl rfl (Sat.start rfl) ?_
  intro β w' hs
  exact hs.ofBk.fin [0] ⟨β 0, rfl, rfl⟩
theorem rlen_c (w : World) (r : Rg) (h : (rgF r).p w) (hl : ∀ k, (rgF r).D k → k < w.heap.size) : Pu Tryz.prog n_ring_Ring_Len #[ptrR r.b] w (.int .i64 (r.ks.length : Int)) := by
  have g := good_ring_Ring_Len w (Un [])
  refine con_of_sx (cx := cx_ring_Ring_Len w (Un [])) g b_ring_Ring_Len rfl rfl (β := Va.z) [.c (.v (ptrR r.b))] 0 [] [oldF w] rfl rfl (old_sat rfl) ?_
  refine ⟨.map (some r.m), fun β w' hs => cell_bk (rg_bk (fact_oldR h hl (hs.get 0 rfl))) (o := 3) rfl, ?_⟩
  refine ⟨r.ml, fun β w' hs => rg_map (fact_oldR h hl (hs.get 0 rfl)), ?_⟩
  intro β w' hs
  refine hs.fin [] ⟨?_, rfl⟩
  show Value.int .i64 (r.ml.length : Int) = _
  rw [Rg.ml, List.length_map]
/-- A key, if it is there. -/
def Rg.key (r : Rg) (e : Int) : Option RKey := r.ks.find? fun k => decide ((k.e : Int) = e)
theorem key_look (e : Int) : ∀ ks : List RKey, ilook (ks.map fun k => ((k.e : Int), k.v)) e = (ks.find? fun k => decide ((k.e : Int) = e)).map RKey.v
  | [] => rfl
  | k :: t => by
    by_cases h : (k.e : Int) = e
    · simp [ilook, List.find?, h]
    · simp only [List.map_cons, ilook, if_neg h, List.find?, decide_eq_false h]
      exact key_look e t
theorem rg_key {r : Rg} {w : World} (h : (rgF r).p w) {k : RKey} (hk : k ∈ r.ks) : k.f.p w := by
  have h1 : (sepF (r.ks.map RKey.f)).p w := h.1 (sepF (r.ks.map RKey.f)) (by simp)
  exact h1.1 k.f (List.mem_map.2 ⟨k, hk, rfl⟩)
def keyOut (o : Option RKey) (v : Value) (Fs : List Fact) : Prop := match o with
  | none => v = .tuple #[.slice none 0 0, .int .i64 15] ∧ Fs = []
  | some k => ∃ A c, v = .tuple #[.slice A k.p.length c, .int .i64 0] ∧ k.p.length ≤ c ∧ Fs = [browF ty_uint8 A k.p c]
theorem key_c (w : World) (r : Rg) (e : Int) (h : (rgF r).p w) (hl : ∀ k, (rgF r).D k → k < w.heap.size) (hp : ∀ k ∈ r.ks, k.p.length ≤ 1000) : Con Tryz.prog n_ring_Ring_Key #[ptrR r.b, .int .u64 e] w [] (keyOut (r.key e)) := by
  have g := good_ring_Ring_Key w (Un [])
  refine con_of_sx (cx := cx_ring_Ring_Key w (Un [])) g b_ring_Ring_Key rfl rfl (β := Va.z) [.c (.v (ptrR r.b)), .c (.v (.int .u64 e))] 0 [] [oldF w] rfl rfl (old_sat rfl) ?_
  refine ⟨.map (some r.m), fun β w' hs => cell_bk (rg_bk (fact_oldR h hl (hs.get 0 rfl))) (o := 3) rfl, ?_⟩
  refine ⟨rfl, .slice none 0 0, fun w => zero_slB w, r.ml, (r.key e).map RKey.v, fun β w' hs => rg_map (fact_oldR h hl (hs.get 0 rfl)), key_look e r.ks, ?_⟩
  cases hk : r.key e with
  | none =>
    intro β w' hs
    exact hs.fin [] ⟨rfl, rfl⟩
  | some k =>
    have hm : k ∈ r.ks := List.mem_of_find?_eq_some hk
    refine call_con [] (fun β w' hs => clone_c w' k.A k.p k.c (row_rd (rg_key (fact_oldR h hl (hs.get 0 rfl)) hm)) (by have := hp k hm; omega)) ?_
    rintro v Fs ⟨A, c, rfl, hc, _, rfl⟩
    intro β w' hs
    exact hs.fin [0] ⟨A, c, rfl, hc, rfl⟩
end Go.Proofs.YtjlpcjpeljlbeaaGreatDoor.Sx

/- A map of numbers, written and cut. -/
namespace Go.Proofs.YtjlpcjpeljlbeaaGreatDoor.Sx
open Go

theorem Sat.mapPutI {cx : Cx} {β : Va} {n : Nat} {H : List Bk} {F : List Fact} {w : World} (h : Sat cx β n H F w) (g : Good cx) (j : Nat) {b : Nat} {l : MLI} {kk : IntKind} (hj : nth F j = some (mapIF kk b l)) {t kt et : TypeId} {i ik : TI} (s : Int) (v : Value) (hi : lk cx.tt t = some i := by rfl) (hd : i.desc = .map kt et := by rfl) (hik : lk cx.tt kt = some ik := by rfl) (hdk : ik.desc = .int kk := by rfl) :
    ∃ w', (Instr.mapUpdate t (.map (some b)) (.int kk s) v).run cx.P w = .ok () w' ∧ Sat cx β n H (putAt F j (mapIF kk b (iput l s v))) w' := by
  obtain ⟨o, e1, e2⟩ := run_putI (P := cx.P) ((g.ti hi).real (d := .map _ _) hd rfl) ((g.ti hik).real (d := .int kk) hdk rfl) (h.get j hj) s v
  exact ⟨_, e1, h.upd hj rfl (chg_put o) e2 (fun k hk => .inl hk)⟩
theorem Sat.mapPutIY {cx : Cx} {β : Va} {n : Nat} {H : List Bk} {F : List Fact} {w : World} (h : Sat cx β n H F w) (g : Good cx) (j : Nat) {b : Nat} {l : MLI} {kk : IntKind} (hj : nth F j = some (mapIF kk b l)) {t kt et : TypeId} {i ik : TI} (s : Int) (v : Value) (hi : lk cx.tt t = some i := by rfl) (hd : i.desc = .map kt et := by rfl) (hik : lk cx.tt kt = some ik := by rfl) (hdk : ik.desc = .int kk := by rfl) :
    ∃ (w' : World) (y : Nat), (Instr.mapUpdate t (.map (some b)) (.int kk s) v).run cx.P w = .ok () w' ∧ Sat cx β n H ((fun _ => putAt F j (mapIF kk b (iput l s v))) y) w' := by
  obtain ⟨w', e1, e2⟩ := h.mapPutI g j hj s v hi hd hik hdk
  exact ⟨w', 0, e1, e2⟩
theorem Sat.mapDelI {cx : Cx} {β : Va} {n : Nat} {H : List Bk} {F : List Fact} {w : World} (h : Sat cx β n H F w) (g : Good cx) (j : Nat) {b : Nat} {l : MLI} {kk : IntKind} (hj : nth F j = some (mapIF kk b l)) {t tk kt et : TypeId} {i ik : TI} (s : Int) (ty : TypeId) (cst : Array Bool) (hi : lk cx.tt t = some i := by rfl) (hd : i.desc = .map kt et := by rfl) (hik : lk cx.tt kt = some ik := by rfl) (hdk : ik.desc = .int kk := by rfl) :
    ∃ w', (builtin .delete #[t, tk] ty cst #[.map (some b), .int kk s]).run cx.P w = .ok (.value (.tuple #[])) w' ∧ Sat cx β n H (putAt F j (mapIF kk b (idel l s))) w' := by
  obtain ⟨o, e1, e2⟩ := run_delI (P := cx.P) (tk := tk) ((g.ti hi).real (d := .map _ _) hd rfl) ((g.ti hik).real (d := .int kk) hdk rfl) (h.get j hj) s ty cst
  exact ⟨_, e1, h.upd hj rfl (chg_put o) e2 (fun k hk => .inl hk)⟩

end Go.Proofs.YtjlpcjpeljlbeaaGreatDoor.Sx

/- A block's step, where the state is the front of a block. -/
namespace Go.Proofs.YtjlpcjpeljlbeaaGreatDoor.Sx
open Go Sha
attribute [local irreducible] Calls

end Go.Proofs.YtjlpcjpeljlbeaaGreatDoor.Sx

/- SHA-256 of parts. -/
namespace Go.Proofs.YtjlpcjpeljlbeaaGreatDoor.Sx
open Go Sha
attribute [local irreducible] Calls

theorem Mem.lastRo {w : World} {f R X : Fact} {A : Option Addr} {l : List UInt8} (h : Mem w [f, R, X, rdoF 1 A l.length (l.map byte)]) : Mem w [f, R, X, bsF A l] := by
  refine ⟨fun g hg => ?_, fun g hg k hk => ?_, ?_⟩
  · simp only [List.mem_cons, List.not_mem_nil, or_false] at hg
    rcases hg with rfl | rfl | rfl | rfl
    · exact h.fact _ (by simp)
    · exact h.fact _ (by simp)
    · exact h.fact _ (by simp)
    · exact h.fact (rdoF 1 A l.length (l.map byte)) (by simp)
  · simp only [List.mem_cons, List.not_mem_nil, or_false] at hg
    rcases hg with rfl | rfl | rfl | rfl
    · exact h.flt _ (by simp) k hk
    · exact h.flt _ (by simp) k hk
    · exact h.flt _ (by simp) k hk
    · exact h.flt (rdoF 1 A l.length (l.map byte)) (by simp) k hk
  · have hs := h.sepf
    simp only [List.pairwise_cons, List.mem_cons, List.not_mem_nil, or_false, forall_eq_or_imp, forall_eq, false_implies, implies_true, List.Pairwise.nil, and_true] at hs ⊢
    obtain ⟨⟨a1, a2, a3⟩, ⟨b1, b2⟩, c1⟩ := hs
    exact ⟨⟨a1, a2, fun _ => a3 (.inr rfl)⟩, ⟨b1, fun _ => b2 (.inr rfl)⟩, fun _ => c1 (.inr rfl)⟩
theorem sumJ_c (w : World) (P : Option Addr) (nP cP : Nat) (l : List UInt8) (hj : ∀ w', (oldF w).p w' → Con Tryz.prog n_bytes_Join #[.slice P nP cP, .slice none 0 0] w' [] (readOut l)) (hn : l.length ≤ 70368744177664) (h1 : (oddF 2).p w) (h0 : (firstF 0).p w) :
    Con Tryz.prog n_sha_Sum #[.slice P nP cP] w [] fun v Fs => ∃ A' c', v = .slice A' 32 c' ∧ 32 ≤ c' ∧ c' ≤ maxLen ∧ Fs = [browF ty_uint8 A' (Sha.sum l) c'] := by
  have g := good_sha_Sum w (Un [])
  have hs0 : Sat (cx_sha_Sum w (Un [])) Va.z 0 [] [oldF w] w := old_sat rfl
  have hs1 : Sat (cx_sha_Sum w (Un [])) Va.z 0 [] [oddF 2, oldF w] w := hs0.sub 0 rfl rfl _ rfl h1 (rd_lt h1)
  refine con_of_sx (cx := cx_sha_Sum w (Un [])) g b_sha_Sum rfl rfl (β := Va.z) [.c (.v (.slice P nP cP))] 0 [] [oddF 2, oldF w] rfl rfl hs1 ?_
  refine ⟨Sha.first.l.map u32, rfl, fun β w' hs j u hu => ?_, ?_⟩
  · have h2 : Rd 1 (some ⟨0, 0, none⟩) 8 (Sha.first.l.map u32) w' := Rd.old h0 (hs.get 1 rfl)
    obtain ⟨ad, h3, h4⟩ := h2.2 (by decide)
    obtain rfl := Option.some.inj h3
    exact h4 j u hu
  refine call_con [] (fun β w' hs => hj w' (hs.get 1 rfl)) ?_
  rintro v Fs ⟨A1, c1, rfl, h2, h3, rfl⟩
  refine call_con [] (fun β w' hs => Blocks_c w' A1 l.length c1) ?_
  rintro v Fs ⟨bx, rfl, rfl⟩
  refine reify_rule g 0 (fun _ => Sha.first.l.map u32) rfl rfl (fun _ => rfl) (fun sb => ?_)
  obtain ⟨q, hq⟩ : ∃ q, l ++ ends l.length = q := ⟨_, rfl⟩
  have hsum : Sha.sum l = out ((blks q (q.length / 64)).foldl Sha.step Sha.first) := by rw [← go_eq, ← hq]; rfl
  rw [hsum]
  refine range_rule (α := List UInt8) (ι := S8) (κ := S8) g rfl (cv := [.pointer (some ⟨bx, 0, none⟩)]) rfl (by kernel_rfl) 1 (Nat.le_refl 1)
    (fun pre s => s = pre.foldl Sha.step Sha.first) (fun _ => []) (fun s => [stF sb 290 s]) (fun _ => ⟨rfl, trivial⟩)
    (fun _ _ _ => False) (fun _ => []) (fun _ => []) (fun _ => trivial)
    [bkF bx ty_sl_uint8 [.slice A1 l.length c1]] [rdoF 1 A1 l.length (l.map byte)] [oddF 2] ⟨rfl, trivial⟩ (fun g hg => by obtain rfl := List.mem_singleton.1 hg; rfl)
    Sha.first rfl (fun β w' hs => ⟨β, Agr.refl _ _, hs.perm [1, 2, 0, 3]⟩) (fun _ => insB)
    (fun xs Fs' => xs = blks q (q.length / 64) ∧ Fs' = []) (fun _ Fs' => Fs' = [])
    (fun l' w' f0 R J Jx hJ0 hJo hRo hY hm => (blocks_it l' w' bx A1 l c1 f0 R J Jx hJ0 hJo hRo hY hn hm.lastRo).mono fun _ Fs h => by rw [hq] at h; exact h) ?_ ?_ ?_
  · rintro s pre x args X W S l' bs pn pn' hbs hpre ⟨hx, B, rfl, rfl⟩
    refine ⟨_, rfl, ?_⟩
    refine call_con [1] (fun β w' hs => step64_c w' sb 290 s B x hx (hs.mem.take (js := [1, 0, 2]) rfl)) ?_
    rintro v Fs ⟨rfl, rfl⟩
    refine ⟨Sha.step s x, by show Sha.step s x = (pre ++ [x]).foldl Sha.step Sha.first; rw [List.foldl_append, hpre]; rfl, Ent.mk' trivial rfl (fun β w' hs => ?_)⟩
    exact hs.weaken (List.Sublist.refl _) (List.Sublist.cons_cons _ (List.nil_sublist _))
  · rintro xs s Fs hpre ⟨rfl, rfl⟩
    refine call_con [0] (fun β w' hs => stbytes_c w' sb 290 s (hs.mem.take (js := [0]) rfl)) ?_
    rintro v Fs ⟨A3, c3, rfl, h5, h6, rfl⟩
    intro β w' hs
    refine hs.fin [1] ⟨A3, c3, rfl, h5, h6, ?_⟩
    rw [← hpre]
    rfl
  · rintro e pre s Fs h _
    exact h.elim
end Go.Proofs.YtjlpcjpeljlbeaaGreatDoor.Sx

/- Sums that need a key, plainly. -/
namespace Go.Proofs.YtjlpcjpeljlbeaaGreatDoor.Sx
open Go

/-- A key's bytes. -/
def keyL (l : List UInt8) : List UInt8 := if 64 < l.length then Sha.sum l else l
def padL (l : List UInt8) (x : UInt8) : List UInt8 := (keyL l).map (x ^^^ ·) ++ List.replicate (64 - (keyL l).length) x
def hmL (key text : List UInt8) : List UInt8 := Sha.sum (padL key 0x5c ++ Sha.sum (padL key 0x36 ++ text))
/-- The round n's sum of a password that is stretched. -/
def strU (pass salt : List UInt8) : Nat → List UInt8
  | 0 => hmL pass (salt ++ Bx.be4 1)
  | n + 1 => hmL pass (strU pass salt n)
def strX (pass salt : List UInt8) : Nat → List UInt8
  | 0 => strU pass salt 0
  | n + 1 => Bx.xorB (strX pass salt n) (strU pass salt (n + 1))
def stretchL (pass salt : List UInt8) (rounds : Nat) : List UInt8 := strX pass salt (rounds - 1)
theorem sum_len (l : List UInt8) : (Sha.sum l).length = 32 := rfl
theorem keyL_len {l : List UInt8} : (keyL l).length ≤ 64 := by
  unfold keyL
  split
  · rw [sum_len]; omega
  · omega
theorem padL_len (l : List UInt8) (x : UInt8) : (padL l x).length = 64 := by
  unfold padL
  have := keyL_len (l := l)
  simp only [List.length_append, List.length_map, List.length_replicate]
  omega
theorem hmL_len (k t : List UInt8) : (hmL k t).length = 32 := rfl
end Go.Proofs.YtjlpcjpeljlbeaaGreatDoor.Sx

/- A byte sixty-four times; a key's bytes, each turned. -/
namespace Go.Proofs.YtjlpcjpeljlbeaaGreatDoor.Sx
open Go
attribute [local irreducible] Calls

section
variable {cx : Cx} {β : Va} {n : Nat} {env : Env} {H : List Bk} {F : List Fact} {w : World}
/-- copy, into a block of one's own, of cells of one. -/
theorem Sat.copyBk (h : Sat cx β n H F w) (g : Good cx) (j : Nat) {b o k c e m cs r : Nat} {A : Option Addr} {cells ys : List Value} (hj : nth F j = some (bkF b e cells)) (hr : Rd 1 A m ys w) (h1 : ∀ u ∈ ys, u.oneCell' = true)
    {t : TypeId} {i ie : TI} (ty : TypeId) (cst : Array Bool) (hm : min m k = r) (hfit : o + r ≤ cells.length) (hi : lk cx.tt t = some i := by rfl) (hd : i.desc = .slice e := by rfl) (hie : lk cx.tt e = some ie := by rfl) (hz : ie.size = 1 := by rfl) :
    ∃ w', (builtin .copy #[t, t] ty cst #[.slice (some ⟨b, o, none⟩) k c, .slice A m cs]).run cx.P w = .ok (.value (.int .i64 (r : Int))) w' ∧
      Sat cx β n H (putAt F j (bkF b e (putAll cells o (ys.take r)))) w' := by
  subst hm
  have ht := (g.ti hi).real (d := .slice _) hd rfl
  have tie := g.ti hie
  have hrt := hr.take (k := min m k) (Nat.min_le_left _ _)
  have hsz := tie.run_size w
  rw [hz] at hsz
  have hfc : (Builtin.firstCells 1 (min m k) (.slice A m cs)).run cx.P w = .ok (ys.take (min m k)).toArray w := by
    cases A with
    | none =>
      have h0 : min m k = 0 := by
        rcases Nat.eq_zero_or_pos (min m k) with q | q
        · exact q
        · obtain ⟨ad, q, _⟩ := hrt.2 q; cases q
      rw [h0]
      rfl
    | some ad =>
      have hl := run_loadCells_list (P := cx.P) (w := w) ad (ys.take (min m k)) (fun j u hu => by
        have hp : 0 < min m k := by
          rcases Nat.eq_zero_or_pos (min m k) with q | q
          · rw [q] at hu; simp at hu
          · exact q
        obtain ⟨ad', q, hc⟩ := hrt.2 hp
        obtain rfl := Option.some.inj q
        exact hc j u hu)
      have hlen : (ys.take (min m k)).length = min m k := by rw [hrt.1, Nat.mul_one]
      rw [hlen] at hl
      simpa [Builtin.firstCells] using hl
  obtain ⟨w', e1, e2⟩ := h.bkSet (us := ys.take (min m k)) (o := o) j hj (by rw [hrt.1]; omega) (fun u hu => h1 u (List.take_subset _ _ hu))
  rw [add_none, Nat.zero_add] at e1
  refine ⟨w', ?_, e2⟩
  have hmin : Nat.min m k = min m k := rfl
  simp [builtin, Builtin.copy_, run_underlying ht, Builtin.lenOf, hsz, hfc, e1, goInt, hmin]
end
/-- The front of a block, as a slice. -/
theorem bk_rd {b e : Nat} {cells : List Value} {w : World} (h : (bkF b e cells).p w) {k : Nat} (hk : k ≤ cells.length) : Rd 1 (some ⟨b, 0, none⟩) k (cells.take k) w := by
  refine ⟨by rw [List.length_take]; omega, fun _ => ⟨_, rfl, fun j u hu => ?_⟩⟩
  rw [List.getElem?_take] at hu
  split at hu
  · rw [add_none, Nat.zero_add]
    have h' : w.heap[b]? = some (.cells cells.toArray e (0, 0)) := h
    rw [cell_of_row w b j _ _ _ h']
    simpa using hu
  · cases hu
theorem bk_bs {b e : Nat} {l : List UInt8} {junk : List Value} {w : World} (h : (bkF b e (l.map byte ++ junk)).p w) : Bs w (some ⟨b, 0, none⟩) l := by
  have := bk_rd h (k := l.length) (by simp)
  rwa [List.take_left' (by simp)] at this
theorem mul_c (w : World) : Pu Tryz.prog n_math_bits_Mul #[.int .u64 1, .int .u64 64] w (.tuple #[.int .u64 0, .int .u64 64]) := by
  refine pu_of (Calls.mono (Tryz.bits_Mul 1 64 (by decide) (by decide) w) ?_)
  rintro e w' ⟨rfl, rfl⟩
  exact ⟨_, rfl, rfl, Chg.refl _ _⟩
theorem mnz_run (w : World) (n : Nat) (hn : n ≤ 281474976710656) : ∃ cs : List Value, (callFunc 178 #[.int .i64 n]).run Tryz.prog w = .ok (.value (.slice (some ⟨w.heap.size, 0, none⟩) n cs.length)) (w.drew.drew.alloc (.cells cs.toArray ty_uint8)) ∧ n ≤ cs.length := by
  obtain ⟨cs, h1, h2, _⟩ := Lib.run_makeNoZero (P := Tryz.prog) w #[] ty_sl_uint8 ty_uint8 ((ok33).real (d := .slice _) rfl rfl) n hn
  refine ⟨cs.toList, ?_, by simpa using h2⟩
  have hx := run_callFunc_extern (P := Tryz.prog) (f := 178) (fn := Tryz.f178) (e := Extern.BytealgMakeNoZero.makeNoZero #[ty_int] #[ty_sl_uint8]) Tryz.func178 (by decide +kernel) rfl (by rfl) (by rfl) #[.int .i64 n] w
  rw [hx]
  have h1' : (Extern.BytealgMakeNoZero.makeNoZero #[ty_int] #[ty_sl_uint8] #[.int .i64 n]).run Tryz.prog w = _ := h1
  rw [h1']
  simp
end Go.Proofs.YtjlpcjpeljlbeaaGreatDoor.Sx

/- A byte sixty-four times. -/
namespace Go.Proofs.YtjlpcjpeljlbeaaGreatDoor.Sx
open Go
attribute [local irreducible] Calls

theorem putAll_app {α : Type} (a b ys : List α) (h : ys.length ≤ b.length) : putAll (a ++ b) a.length ys = a ++ ys ++ b.drop ys.length := by
  rw [putAll_all _ _ _ (by simp; omega)]
  rw [List.take_left' rfl, List.drop_append]
  simp [show a.length + ys.length - a.length = ys.length by omega]
theorem cutA_at (b k : Nat) {m : Nat} (h : m ≠ k) : cutA (some ⟨b, 0, none⟩) m k 1 = some ⟨b, k, none⟩ := by
  unfold cutA
  rw [if_neg h]
  simp [add_none]
theorem cutA_0 (A : Option Addr) {m : Nat} (h : A = none ∨ ∃ b o, A = some ⟨b, o, none⟩) : cutA A m 0 1 = A := by
  unfold cutA
  split
  · rfl
  · rcases h with rfl | ⟨b, o, rfl⟩
    · rfl
    · simp [add_none]
def reps (k : Nat) (x : UInt8) : List Value := (List.replicate k x).map byte
theorem reps_len (k : Nat) (x : UInt8) : (reps k x).length = k := by simp [reps]
theorem reps_take {k r : Nat} (x : UInt8) (h : r ≤ k) : (reps k x).take r = reps r x := by
  unfold reps
  rw [← List.map_take, List.take_replicate, Nat.min_eq_left h]
theorem reps_add (k r : Nat) (x : UInt8) : reps k x ++ reps r x = reps (k + r) x := by
  unfold reps
  rw [← List.map_append, List.replicate_append_replicate]
theorem reps_one (k : Nat) (x : UInt8) : ∀ u ∈ reps k x, u.oneCell' = true := bytes_one _
set_option maxHeartbeats 1000000 in
theorem repeat64_c (w : World) (B : Option Addr) (cB : Nat) (x : UInt8) (hr : Rd 1 B 1 [byte x] w) :
    Con Tryz.prog n_bytes_Repeat #[.slice B 1 cB, .int .i64 64] w [] fun v Fs => ∃ b junk, v = .slice (some ⟨b, 0, none⟩) 64 64 ∧ Fs = [bkF b ty_uint8 (reps 64 x ++ junk)] := by
  have g := good_bytes_Repeat w (Un [])
  refine con_of_sx (cx := cx_bytes_Repeat w (Un [])) g b_bytes_Repeat rfl rfl (β := Va.z) [.c (.v (.slice B 1 cB)), .c (.v (.int .i64 64))] 0 [] [oldF w] rfl rfl (old_sat rfl) ?_
  refine ⟨1, by decide, 64, by decide, ?_⟩
  refine call_pu (fun β w' hs => mul_c w') ?_
  refine ⟨64, by decide, ?_⟩
  refine .inr (fun β w' hs => ?_)
  obtain ⟨cs, hrun, hcs⟩ := mnz_run w' 64 (by decide)
  have hs1 : Sat (cx_bytes_Repeat w (Un [])) β 0 [] (bkF w'.heap.size ty_uint8 cs :: [oldF w]) (w'.drew.drew.alloc (.cells cs.toArray ty_uint8)) := by
    refine hs.drew.drew.add (Chg.alloc _ _) _ (heap_alloc_new _ _) (fun k hk => ?_)
    obtain rfl : k = w'.heap.size := hk
    exact ⟨Nat.le_refl _, by simp⟩
  refine ⟨_, _, hrun, Ret.mk [] _ hs1 ?_⟩
  obtain ⟨b, hb⟩ : ∃ b, w'.heap.size = b := ⟨_, rfl⟩
  rw [hb]
  clear hs1 hrun hs
  refine ⟨64, 64, 0, 64, 64, some ⟨b, 0, none⟩, rfl, rfl, rfl, hcs, Nat.le_refl _, Nat.zero_le _, rfl, rfl, cutA_0 _ (.inr ⟨b, 0, rfl⟩), ?_⟩
  refine ⟨[], [bkF b ty_uint8 (reps 1 x ++ cs.drop 1), oldF w], .c (.v (.int .i64 1)), fun β w' ty hs => ?_, trivial, ?_⟩
  · obtain ⟨w2, q1, q2⟩ := hs.copyBk g 0 rfl (hr.old (hs.get 1 rfl)) (reps_one 1 x) ty (t := ty_sl_uint8) #[false, false] (r := 1) (k := 64) (m := 1) (c := 64) (cs := cB) (o := 0) rfl (by omega)
    have e1 : putAll cs 0 ([byte x].take 1) = reps 1 x ++ cs.drop 1 := by
      have := putAll_app [] cs [byte x] (by simp; omega)
      show putAll cs 0 [byte x] = [byte x] ++ cs.drop 1
      simpa using this
    rw [e1] at q2
    exact ⟨w2, q1, q2⟩
  refine loop_rule (ι := Nat × List Value) 0 (fun i => [(7, .c (.v (.int .i64 64))), (8, .c (.v (.int .i64 64))), (9, .c (.v (.slice (some ⟨b, 0, none⟩) 64 64))), (10, .c (.v (.int .i64 (i.1 : Int))))]) (fun _ => []) (fun i => [bkF b ty_uint8 (reps i.1 x ++ i.2), oldF w])
    (fun i => 1 ≤ i.1 ∧ i.1 ≤ 64 ∧ 64 ≤ i.1 + i.2.length) (fun i => 64 - i.1) (1, cs.drop 1) ⟨Nat.le_refl _, by show 1 ≤ 64; decide, by simp only [List.length_drop]; omega⟩ (Ent.same ⟨rfl, rfl, rfl, rfl, trivial⟩ rfl) g ?_
  rintro ⟨k, junk⟩ ⟨h1, h2, h3⟩
  simp only at h1 h2 h3
  refine BIf.dec (fun hlt => ?_) (fun hge => ?_)
  · have hlt0 : (k : Int) < 64 := hlt
    have hk : k < 64 := by omega
    obtain ⟨r, hr0⟩ : ∃ r, min k (64 - k) = r := ⟨_, rfl⟩
    refine ⟨(k : Int), by show min (k : Int) 64 = k; omega, ?_⟩
    refine draw_rule g p_bytes_Repeat_20 (by kernel_rfl) [] [] (Sub.of (List.Sublist.refl _) (List.nil_sublist _)) ?_
    refine ⟨64, 64, k, 64 - k, 64 - k, some ⟨b, k, none⟩, rfl, rfl, rfl, Nat.le_refl _, Nat.le_refl _, by omega, rfl, rfl, cutA_at b k (by omega), ?_⟩
    refine ⟨64, k, 0, k, 64, some ⟨b, 0, none⟩, rfl, rfl, rfl, Nat.le_refl _, by omega, Nat.zero_le _, rfl, rfl, cutA_0 _ (.inr ⟨b, 0, rfl⟩), ?_⟩
    refine ⟨[], [bkF b ty_uint8 (reps (k + r) x ++ junk.drop r), oldF w], .c (.v (.int .i64 (r : Int))), fun β w' ty hs => ?_, trivial, ?_⟩
    · have hrd : Rd 1 (some ⟨b, 0, none⟩) k (reps k x) w' := by
        have := bk_rd (hs.get 0 rfl) (k := k) (by simp [reps_len])
        rwa [List.take_left' (reps_len k x)] at this
      obtain ⟨w2, q1, q2⟩ := hs.copyBk g 0 rfl hrd (reps_one k x) ty (t := ty_sl_uint8) #[false, false] (r := r) (k := 64 - k) (m := k) (c := 64 - k) (cs := 64) (o := k) hr0 (by simp only [List.length_append, reps_len]; omega)
      have e1 : putAll (reps k x ++ junk) k ((reps k x).take r) = reps (k + r) x ++ junk.drop r := by
        have := putAll_app (reps k x) junk ((reps k x).take r) (by rw [List.length_take, reps_len]; omega)
        rw [reps_len] at this
        rw [this, reps_take x (by omega), reps_add, reps_len]
      rw [e1] at q2
      exact ⟨w2, q1, q2⟩
    refine ⟨Sub.of (List.Sublist.refl _) (List.nil_sublist _), ((k + r : Nat) : Int), by rw [wrap_i64 (by omega) (by omega)]; omega, ?_⟩
    exact ⟨(k + r, junk.drop r), ⟨by show 1 ≤ k + r; omega, by show k + r ≤ 64; omega, by show 64 ≤ k + r + (junk.drop r).length; rw [List.length_drop]; omega⟩, by show 64 - (k + r) < 64 - k; omega, Ent.same ⟨rfl, rfl, rfl, rfl, trivial⟩ rfl⟩
  · have hge0 : ¬ (k : Int) < 64 := hge
    obtain rfl : k = 64 := by omega
    intro β w' hs
    exact hs.fin [0] ⟨b, junk, rfl, rfl⟩

/-! ### a key's bytes, each turned -/
def padN (k : List UInt8) (x : UInt8) (i : Nat) : List UInt8 := (k.take i).map (x ^^^ ·) ++ List.replicate (64 - i) x
theorem padN_len {k : List UInt8} {x : UInt8} {i : Nat} (h : i ≤ k.length) (h2 : i ≤ 64) : (padN k x i).length = 64 := by
  unfold padN
  simp only [List.length_append, List.length_map, List.length_take, List.length_replicate]
  omega
theorem padN_at {k : List UInt8} {x : UInt8} {i : Nat} (h : i < k.length) (h2 : i < 64) : (padN k x i)[i]? = some x := by
  unfold padN
  rw [List.getElem?_append_right (by simp only [List.length_map, List.length_take]; omega)]
  simp only [List.length_map, List.length_take]
  rw [List.getElem?_replicate, if_pos (by omega)]
theorem padN_set {k : List UInt8} {x y : UInt8} {i : Nat} (h : k[i]? = some y) (h2 : i < 64) : (padN k x i).set i (x ^^^ y) = padN k x (i + 1) := by
  have hi : i < k.length := (List.getElem?_eq_some_iff.1 h).1
  unfold padN
  rw [List.set_append_right _ _ (by simp only [List.length_map, List.length_take]; omega)]
  simp only [List.length_map, List.length_take]
  rw [show i - min i k.length = 0 by omega, show 64 - i = (64 - (i + 1)) + 1 by omega, List.replicate_succ, List.set_cons_zero, List.take_add_one, h]
  simp
theorem padN_all (k : List UInt8) (x : UInt8) : padN k x k.length = k.map (x ^^^ ·) ++ List.replicate (64 - k.length) x := by
  unfold padN
  rw [List.take_length]
theorem Con.real {P : Program} {k : FuncId} {args : Array Value} {w : World} {Gs : List Fact} {R : Value → List Fact → Prop} (h : Con P k args w Gs R) : Con P k args w Gs (fun v Fs => R v Fs ∧ ∃ w', Mem w' Fs) :=
  Calls.mono h fun _ w' ⟨v, he, Fs, hR, hc, hm, ho, hD⟩ => ⟨v, he, Fs, ⟨hR, w', hm⟩, hc, hm, ho, hD⟩
theorem padN_0 (k : List UInt8) (x : UInt8) : (padN k x 0).map byte = reps 64 x := by simp [padN, reps]
set_option maxHeartbeats 1000000 in
theorem pad_c (w : World) (A : Option Addr) (l : List UInt8) (c : Nat) (x : UInt8) (hr : Bs w A l) (hn : l.length ≤ 1000000) (h1 : (oddF 2).p w) (h0 : (firstF 0).p w) :
    Con Tryz.prog n_hmac_pad #[.slice A l.length c, byte x] w [] fun v Fs => ∃ b junk, v = .slice (some ⟨b, 0, none⟩) 64 64 ∧ Fs = [bkF b ty_uint8 ((padL l x).map byte ++ junk)] := by
  have g := good_hmac_pad w (Un [])
  refine con_of_sx (cx := cx_hmac_pad w (Un [])) g b_hmac_pad rfl rfl (β := Va.z) [.c (.v (.slice A l.length c)), .c (.v (byte x))] 0 [] [oldF w] rfl rfl (old_sat rfl) ?_
  refine BIf.dec (fun hlt => ?_) (fun hge => ?_)
  · have hlt0 : (64 : Int) < (l.length : Int) := hlt
    intro b0
    obtain ⟨k, hks⟩ : ∃ k, Sha.sum l = k := ⟨_, rfl⟩
    have hk : keyL l = k := by unfold keyL; rw [if_pos (by omega)]; exact hks
    have hk64 : k.length ≤ 64 := by rw [← hk]; exact keyL_len
    refine call_con [] (R := fun v Fs => (∃ A' c', v = .slice A' k.length c' ∧ Fs = [browF ty_uint8 A' k c']) ∧ ∃ w', Mem w' Fs) (fun β w' hs => ((sum1_c w' (some ⟨b0, 0, none⟩) A 1 c l (row_rd (hs.get 0 rfl)) (Rd.old hr (hs.get 1 rfl)) (by omega) (Rd.old h1 (hs.get 1 rfl)) (Rd.old h0 (hs.get 1 rfl))).mono (by rintro v Fs ⟨A', c', rfl, _, _, rfl⟩; exact ⟨A', c', by rw [← hks]; rfl, by rw [hks]⟩)).real) ?_
    rintro v Fs ⟨⟨A2, c2, rfl, rfl⟩, w9, hm9⟩
    have hkr : ∀ {w'}, (browF ty_uint8 A2 k c2).p w' → Bs w' A2 k := fun h => row_rd h
    have hka : 0 < k.length → ∃ ad, A2 = some ad := fun h => Bs.addr (hkr (hm9.fact _ List.mem_cons_self)) h
    intro b1
    refine call_con [] (fun β w' hs => repeat64_c w' (some ⟨b1, 0, none⟩) 1 x (row_rd (hs.get 0 rfl))) ?_
    rintro v Fs ⟨b, junk, rfl, rfl⟩
    refine loop_rule (ι := Nat) 0 (fun i => [(17, .c (.v (.slice A2 k.length c2))), (18, .c (.v (.int .i64 (k.length : Int)))), (19, .c (.v (.int .i64 (i : Int)))), (5, .c (.v (.slice (some ⟨b, 0, none⟩) 64 64)))]) (fun _ => []) (fun i => [bkF b ty_uint8 ((padN k x i).map byte ++ junk), browF ty_uint8 A2 k c2])
      (fun i => i ≤ k.length) (fun i => k.length - i) 0 (Nat.zero_le _) (Ent.mk' ⟨rfl, rfl, rfl, rfl, trivial⟩ rfl (fun β w' hs => by rw [padN_0]; exact hs.perm [0, 2])) g ?_
    intro i hi
    refine BIf.dec (fun hlt2 => ?_) (fun hge2 => ?_)
    · have hlt0 : (i : Int) < (k.length : Int) := hlt2
      have hik : i < k.length := by omega
      obtain ⟨y, hy, _⟩ := at_lt hik
      obtain ⟨ad, hA⟩ := hka (by omega)
      refine ⟨ad, i, hA, rfl, hik, byte y, fun β w' hs => by
        have h := hkr (hs.get 1 rfl)
        rw [hA] at h
        exact Rd.cell1 h (by rw [List.getElem?_map, hy]; rfl), ?_⟩
      refine ⟨⟨b, 0, none⟩, i, rfl, rfl, by omega, byte x, fun β w' hs => by
        have h := bk_bs (hs.get 0 rfl)
        exact Rd.cell1 h (by rw [List.getElem?_map, padN_at hik (by omega)]; rfl), _, xor8 x y, ?_⟩
      refine ⟨⟨b, 0, none⟩, i, rfl, rfl, by omega, [bkF b ty_uint8 ((padN k x (i + 1)).map byte ++ junk), browF ty_uint8 A2 k c2], fun β w' hs => ?_, ?_⟩
      · have hpl := padN_len (k := k) (x := x) (i := i) (by omega) (by omega)
        obtain ⟨w2, q1, q2⟩ := hs.bkSet 0 (o := i) (us := [byte (x ^^^ y)]) rfl (by simp only [List.length_append, List.length_map, hpl, List.length_singleton]; omega) (fun u hu => by obtain rfl := List.mem_singleton.1 hu; rfl)
        have e : putAll ((padN k x i).map byte ++ junk) i [byte (x ^^^ y)] = (padN k x (i + 1)).map byte ++ junk := by
          rw [putAll, putAll, putAt_eq, List.set_append_left _ _ (by rw [List.length_map, hpl]; omega), ← padN_set hy (by omega), List.map_set]
        rw [e] at q2
        have q1' : (storeCells ((⟨b, 0, none⟩ : Addr).add (i * 1)) [byte (x ^^^ y)] 0).run (cx_hmac_pad w (Un [])).P w' = .ok () w2 := by rw [Nat.mul_one]; exact q1
        exact ⟨w2, q1', q2⟩
      · refine ⟨((i + 1 : Nat) : Int), by rw [wrap_i64 (by omega) (by omega)]; rfl, ?_⟩
        exact ⟨i + 1, hik, by omega, Ent.same ⟨rfl, rfl, rfl, rfl, trivial⟩ rfl⟩
    · have hge0 : ¬ (i : Int) < (k.length : Int) := hge2
      obtain rfl : i = k.length := by omega
      intro β w' hs
      refine hs.fin [0] ⟨b, junk, rfl, ?_⟩
      rw [padN_all]
      unfold padL
      rw [hk]
      rfl
  · have hge0 : ¬ (64 : Int) < (l.length : Int) := hge
    obtain ⟨k, hks⟩ : ∃ k, l = k := ⟨_, rfl⟩
    have hk : keyL l = k := by unfold keyL; rw [if_neg (by omega)]; exact hks
    have hk64 : k.length ≤ 64 := by rw [← hk]; exact keyL_len
    rw [hks] at hr
    have hlk : l.length = k.length := by rw [hks]
    rw [hlk]
    have hkr : ∀ {w'}, (oldF w).p w' → Bs w' A k := fun h => Rd.old hr h
    have hka : 0 < k.length → ∃ ad, A = some ad := fun h => hr.addr h
    intro b1
    refine call_con [] (fun β w' hs => repeat64_c w' (some ⟨b1, 0, none⟩) 1 x (row_rd (hs.get 0 rfl))) ?_
    rintro v Fs ⟨b, junk, rfl, rfl⟩
    refine loop_rule (ι := Nat) 0 (fun i => [(17, .c (.v (.slice A k.length c))), (18, .c (.v (.int .i64 (k.length : Int)))), (19, .c (.v (.int .i64 (i : Int)))), (5, .c (.v (.slice (some ⟨b, 0, none⟩) 64 64)))]) (fun _ => []) (fun i => [bkF b ty_uint8 ((padN k x i).map byte ++ junk), oldF w])
      (fun i => i ≤ k.length) (fun i => k.length - i) 0 (Nat.zero_le _) (Ent.mk' ⟨rfl, rfl, rfl, rfl, trivial⟩ rfl (fun β w' hs => by rw [padN_0]; exact hs.perm [0, 2])) g ?_
    intro i hi
    refine BIf.dec (fun hlt2 => ?_) (fun hge2 => ?_)
    · have hlt0 : (i : Int) < (k.length : Int) := hlt2
      have hik : i < k.length := by omega
      obtain ⟨y, hy, _⟩ := at_lt hik
      obtain ⟨ad, hA⟩ := hka (by omega)
      refine ⟨ad, i, hA, rfl, hik, byte y, fun β w' hs => by
        have h := hkr (hs.get 1 rfl)
        rw [hA] at h
        exact Rd.cell1 h (by rw [List.getElem?_map, hy]; rfl), ?_⟩
      refine ⟨⟨b, 0, none⟩, i, rfl, rfl, by omega, byte x, fun β w' hs => by
        have h := bk_bs (hs.get 0 rfl)
        exact Rd.cell1 h (by rw [List.getElem?_map, padN_at hik (by omega)]; rfl), _, xor8 x y, ?_⟩
      refine ⟨⟨b, 0, none⟩, i, rfl, rfl, by omega, [bkF b ty_uint8 ((padN k x (i + 1)).map byte ++ junk), oldF w], fun β w' hs => ?_, ?_⟩
      · have hpl := padN_len (k := k) (x := x) (i := i) (by omega) (by omega)
        obtain ⟨w2, q1, q2⟩ := hs.bkSet 0 (o := i) (us := [byte (x ^^^ y)]) rfl (by simp only [List.length_append, List.length_map, hpl, List.length_singleton]; omega) (fun u hu => by obtain rfl := List.mem_singleton.1 hu; rfl)
        have e : putAll ((padN k x i).map byte ++ junk) i [byte (x ^^^ y)] = (padN k x (i + 1)).map byte ++ junk := by
          rw [putAll, putAll, putAt_eq, List.set_append_left _ _ (by rw [List.length_map, hpl]; omega), ← padN_set hy (by omega), List.map_set]
        rw [e] at q2
        have q1' : (storeCells ((⟨b, 0, none⟩ : Addr).add (i * 1)) [byte (x ^^^ y)] 0).run (cx_hmac_pad w (Un [])).P w' = .ok () w2 := by rw [Nat.mul_one]; exact q1
        exact ⟨w2, q1', q2⟩
      · refine ⟨((i + 1 : Nat) : Int), by rw [wrap_i64 (by omega) (by omega)]; rfl, ?_⟩
        exact ⟨i + 1, hik, by omega, Ent.same ⟨rfl, rfl, rfl, rfl, trivial⟩ rfl⟩
    · have hge0 : ¬ (i : Int) < (k.length : Int) := hge2
      obtain rfl : i = k.length := by omega
      intro β w' hs
      refine hs.fin [0] ⟨b, junk, rfl, ?_⟩
      rw [padN_all]
      unfold padL
      rw [hk]
      rfl
end Go.Proofs.YtjlpcjpeljlbeaaGreatDoor.Sx

/- Bytes of one's own that are only read; facts that are known better; bundles opened at one place. -/
namespace Go.Proofs.YtjlpcjpeljlbeaaGreatDoor.Sx
open Go
attribute [local irreducible] Calls

/-- Bytes of one's own, to be read. -/
structure Ro where
  A : Option Addr
  c : Nat
  l : List UInt8
def Ro.v (r : Ro) : Value := .slice r.A r.l.length r.c
def Ro.f (r : Ro) : Fact := rdoF 1 r.A r.l.length (r.l.map byte)
theorem rdo_rd {size : Nat} {A : Option Addr} {k : Nat} {xs : List Value} {w : World} (h : (rdoF size A k xs).p w) : Rd size A k xs w := h
theorem browRoD {e : Nat} {A : Option Addr} {l : List UInt8} {c : Nat} {w : World} (h : (browF e A l c).p w) : ∀ k, (Ro.f ⟨A, c, l⟩).D k → (browF e A l c).D k := by
  rintro k ⟨hk, ad, q, rfl⟩
  have hl : 0 < l.length := by
    have : 0 < l.length * 1 := hk
    omega
  have q' : A = some ad := q
  rcases h.2 with ⟨he, h0⟩ | ⟨g, cap, cur, he, _⟩
  · omega
  · have hA : A = some ⟨g, 0, none⟩ := by injection he
    rw [q'] at hA
    obtain rfl := Option.some.inj hA
    show Value.ownBlock (.slice A l.length c) = _
    rw [q']
    rfl
/-- Owned facts that are known better, each on its own memory. -/
inductive Recs (w' : World) : List Fact → List Fact → Prop
  | nil : Recs w' [] []
  | cons {f g : Fact} {Fs Gs : List Fact} (h : g.own = true ∧ (f.p w' → g.p w') ∧ ∀ k, g.D k → f.D k) (r : Recs w' Fs Gs) : Recs w' (f :: Fs) (g :: Gs)
theorem Fin.recast {w : World} {Gs : List Fact} {R R' : Value → List Fact → Prop} {v : Value} {w' : World} (h : Fin w Gs R v w')
    (hr : ∀ Fs, R v Fs → (∀ f ∈ Fs, f.p w') → ∃ Fs', R' v Fs' ∧ Recs w' Fs Fs') : Fin w Gs R' v w' := by
  obtain ⟨Fs, h1, h2, h3, h4, h5⟩ := h
  obtain ⟨Fs', q1, q2⟩ := hr Fs h1 h3.fact
  have key : ∀ {Fs Fs' : List Fact}, Recs w' Fs Fs' → Mem w' Fs → Owns Fs → Mem w' Fs' ∧ Owns Fs' ∧ ∀ g ∈ Fs', ∃ f ∈ Fs, ∀ k, g.D k → f.D k := by
    intro Fs Fs' hf
    induction hf with
    | nil => intro _ _; exact ⟨⟨fun _ q => (by cases q), fun _ q => (by cases q), List.Pairwise.nil⟩, trivial, fun _ q => (by cases q)⟩
    | @cons f g Fs Fs' hfg hrest ih =>
      intro hm ho
      obtain ⟨i1, i2, i3⟩ := ih ⟨fun x hx => hm.fact x (List.mem_cons_of_mem _ hx), fun x hx => hm.flt x (List.mem_cons_of_mem _ hx), (List.pairwise_cons.1 hm.sepf).2⟩ ho.2
      refine ⟨⟨fun x hx => ?_, fun x hx k hk => ?_, List.pairwise_cons.2 ⟨fun x hx _ k hk hk' => ?_, i1.sepf⟩⟩, ⟨hfg.1, i2⟩, fun x hx => ?_⟩
      · rcases List.mem_cons.1 hx with rfl | hx
        · exact hfg.2.1 (hm.fact f List.mem_cons_self)
        · exact i1.fact x hx
      · rcases List.mem_cons.1 hx with rfl | hx
        · exact hm.flt f List.mem_cons_self k (hfg.2.2 k hk)
        · exact i1.flt x hx k hk
      · obtain ⟨y, hy, hyd⟩ := i3 x hx
        exact (List.pairwise_cons.1 hm.sepf).1 y hy (.inl ho.1) k (hfg.2.2 k hk) (hyd k hk')
      · rcases List.mem_cons.1 hx with rfl | hx
        · exact ⟨f, List.mem_cons_self, hfg.2.2⟩
        · obtain ⟨y, hy, hyd⟩ := i3 x hx
          exact ⟨y, List.mem_cons_of_mem _ hy, hyd⟩
  obtain ⟨k1, k2, k3⟩ := key q2 h3 h4
  exact ⟨Fs', q1, h2, k1, k2, fun g hg k hk => by obtain ⟨f, hf, hfd⟩ := k3 g hg; exact h5 f hf k (hfd k hk)⟩
/-! ### a bundle is opened at one place -/
theorem Un.app {A B : List Fact} {k : Nat} : Un (A ++ B) k ↔ Un A k ∨ Un B k := by
  unfold Un
  constructor
  · rintro ⟨g, hg, hk⟩
    rcases List.mem_append.1 hg with h | h
    · exact .inl ⟨g, h, hk⟩
    · exact .inr ⟨g, h, hk⟩
  · rintro (⟨g, hg, hk⟩ | ⟨g, hg, hk⟩)
    · exact ⟨g, List.mem_append_left _ hg, hk⟩
    · exact ⟨g, List.mem_append_right _ hg, hk⟩
theorem Un.cons {x : Fact} {B : List Fact} {k : Nat} : Un (x :: B) k ↔ x.D k ∨ Un B k := by
  unfold Un
  constructor
  · rintro ⟨g, hg, hk⟩
    rcases List.mem_cons.1 hg with rfl | h
    · exact .inl hk
    · exact .inr ⟨g, h, hk⟩
  · rintro (hk | ⟨g, hg, hk⟩)
    · exact ⟨x, List.mem_cons_self, hk⟩
    · exact ⟨g, List.mem_cons_of_mem _ hg, hk⟩
theorem sep_mid {A B : List Fact} {x : Fact} {w : World} : (sepF (A ++ x :: B)).p w ↔ x.p w ∧ (sepF (A ++ B)).p w ∧ ∀ k, x.D k → ¬ Un (A ++ B) k := by
  show ((∀ f ∈ A ++ x :: B, f.p w) ∧ (A ++ x :: B).Pairwise _) ↔ x.p w ∧ ((∀ f ∈ A ++ B, f.p w) ∧ (A ++ B).Pairwise _) ∧ _
  rw [List.pairwise_append, List.pairwise_cons, List.pairwise_append]
  constructor
  · rintro ⟨h1, h2, ⟨h3, h4⟩, h5⟩
    refine ⟨h1 x (by simp), ⟨fun f hf => h1 f ?_, h2, h4, fun a ha b hb => h5 a ha b (List.mem_cons_of_mem _ hb)⟩, fun k hk q => ?_⟩
    · rcases List.mem_append.1 hf with h | h
      · exact List.mem_append_left _ h
      · exact List.mem_append_right _ (List.mem_cons_of_mem _ h)
    · rcases Un.app.1 q with ⟨g, hg, hk'⟩ | ⟨g, hg, hk'⟩
      · exact h5 g hg x List.mem_cons_self k hk' hk
      · exact h3 g hg k hk hk'
  · rintro ⟨h1, ⟨h2, h3, h4, h5⟩, h6⟩
    refine ⟨fun f hf => ?_, h3, ⟨fun g hg k hk hk' => h6 k hk (Un.app.2 (.inr ⟨g, hg, hk'⟩)), h4⟩, fun a ha b hb k hk hk' => ?_⟩
    · rcases List.mem_append.1 hf with h | h
      · exact h2 f (List.mem_append_left _ h)
      · rcases List.mem_cons.1 h with rfl | h
        · exact h1
        · exact h2 f (List.mem_append_right _ h)
    · rcases List.mem_cons.1 hb with rfl | hb
      · exact h6 k hk' (Un.app.2 (.inl ⟨a, ha, hk⟩))
      · exact h5 a ha b hb k hk hk'
section
variable {cx : Cx} {β : Va} {n : Nat} {H : List Bk} {F : List Fact} {w : World}
/-- Back into the bundle. -/
theorem Sat.blur (h : Sat cx β n H F w) (i j : Nat) {A B : List Fact} {x : Fact} (hi : nth F i = some x) (hj : nth F j = some (sepF (A ++ B))) (hx : x.own = true) (hne : i ≠ j) : Sat cx β n H (sepF (A ++ x :: B) :: dropIx [i, j] 0 F) w := by
  have h1 := h.get i hi
  have h2 := h.get j hj
  have ap := h.apart (i := i) (j := j) (by rw [← nth_eq]; exact hi) (by rw [← nth_eq]; exact hj) hne (.inl hx)
  have htk : takeIx F [i, j] = [x, sepF (A ++ B)] := by simp only [takeIx, hi, hj]
  have hin : ∀ k, Un (A ++ x :: B) k → x.D k ∨ Un (A ++ B) k := by
    intro k hk
    rcases Un.app.1 hk with hk | hk
    · exact .inr (Un.app.2 (.inl hk))
    · rcases Un.cons.1 hk with hk | hk
      · exact .inl hk
      · exact .inr (Un.app.2 (.inr hk))
  refine h.swap [i, j] (by rw [htk]; exact ⟨hx, rfl, trivial⟩) (Fs := [sepF (A ++ x :: B)]) (Chg.refl _ _) ⟨fun f hf => ?_, fun f hf k hk => ?_, List.pairwise_singleton _ _⟩ (fun f hf k hk => ?_)
  · obtain rfl := List.mem_singleton.1 hf
    exact sep_mid.2 ⟨h1, h2, ap⟩
  · obtain rfl := List.mem_singleton.1 hf
    rcases hin k hk with q | q
    · exact h.getLt i hi k q
    · exact h.getLt j hj k q
  · obtain rfl := List.mem_singleton.1 hf
    rw [htk]
    rcases hin k hk with q | q
    · exact .inl ⟨x, List.mem_cons_self, q⟩
    · exact .inl ⟨_, List.mem_cons_of_mem _ List.mem_cons_self, q⟩
end

end Go.Proofs.YtjlpcjpeljlbeaaGreatDoor.Sx

/- Sums that need a key: at once. -/
namespace Go.Proofs.YtjlpcjpeljlbeaaGreatDoor.Sx
open Go
attribute [local irreducible] Calls

theorem join2_c (w : World) (b : Nat) (A1 A2 : Option Addr) (l1 l2 : List UInt8) (c1 c2 : Nat) (hP : Rd 1 (some ⟨b, 0, none⟩) 2 [.slice A1 l1.length c1, .slice A2 l2.length c2] w) (h1 : Bs w A1 l1) (h2 : Bs w A2 l2) (hn : l1.length + l2.length ≤ 100000000) :
    Con Tryz.prog n_bytes_Join #[.slice (some ⟨b, 0, none⟩) 2 2, .slice none 0 0] w [] (readOut (l1 ++ l2)) := by
  have h := joinN_c w b 2 [.slice A1 l1.length c1, .slice A2 l2.length c2] [l1, l2] hP (fun i v l hv hl => by
    match i with
    | 0 => cases hv; cases hl; exact Bs.holds h1 c1
    | 1 => cases hv; cases hl; exact Bs.holds h2 c2
    | n + 2 => simp at hv) (Nat.le_refl 2) (Nat.le_refl 2) (by show 2 ≤ 1000; decide) (by simp; omega)
  have e : [l1, l2].flatten = l1 ++ l2 := by simp
  rw [e] at h
  exact h
/-- One part, to be read. -/
theorem join1R_c (w : World) (P A : Option Addr) (cP c : Nat) (l : List UInt8) (hP : Rd 1 P 1 [.slice A l.length c] w) (hr : Bs w A l) (hn : l.length ≤ 100000000) :
    Con Tryz.prog n_bytes_Join #[.slice P 1 cP, .slice none 0 0] w [] (readOut l) := by
  refine Calls.mono (join1_c w P A cP c l hP hr (by omega)) ?_
  rintro e w' ⟨v, rfl, hf⟩
  refine ⟨v, rfl, hf.recast ?_⟩
  rintro Fs ⟨A', c', rfl, q1, q2, rfl⟩ hp
  exact ⟨[rdoF 1 A' l.length (l.map byte)], ⟨A', c', rfl, q1, q2, rfl⟩, .cons ⟨rfl, fun h => row_rd h, browRoD (hp _ List.mem_cons_self)⟩ .nil⟩
/-- A sum with a key. -/
theorem hsum_c (w : World) (A P : Option Addr) (key text : List UInt8) (c nP cP : Nat) (hr : Bs w A key) (hk : key.length ≤ 1000000) (ht : text.length ≤ 1000000) (hj : ∀ w', (oldF w).p w' → Con Tryz.prog n_bytes_Join #[.slice P nP cP, .slice none 0 0] w' [] (readOut text)) (h1 : (oddF 2).p w) (h0 : (firstF 0).p w) :
    Con Tryz.prog n_hmac_Sum #[.slice A key.length c, .slice P nP cP] w [] fun v Fs => ∃ A' c', v = .slice A' 32 c' ∧ 32 ≤ c' ∧ c' ≤ maxLen ∧ Fs = [browF ty_uint8 A' (hmL key text) c'] := by
  have g := good_hmac_Sum w (Un [])
  refine con_of_sx (cx := cx_hmac_Sum w (Un [])) g b_hmac_Sum rfl rfl (β := Va.z) [.c (.v (.slice A key.length c)), .c (.v (.slice P nP cP))] 0 [] [oldF w] rfl rfl (old_sat rfl) ?_
  refine call_con [] (fun β w' hs => pad_c w' A key c 0x36 (Rd.old hr (hs.get 0 rfl)) hk (Rd.old h1 (hs.get 0 rfl)) (Rd.old h0 (hs.get 0 rfl))) ?_
  rintro v Fs ⟨p1, j1, rfl, rfl⟩
  refine call_con [] (fun β w' hs => hj w' (hs.get 1 rfl)) ?_
  rintro v Fs ⟨A1, c1, rfl, _, _, rfl⟩
  intro b1
  have l64 : ∀ x, (padL key x).length = 64 := padL_len key
  refine call_con [] (fun β w' hs => sumJ_c w' (some ⟨b1, 0, none⟩) 2 2 (padL key 0x36 ++ text) (fun w2 ho => by
    have q := join2_c w2 b1 (some ⟨p1, 0, none⟩) A1 (padL key 0x36) text 64 c1 (by rw [l64]; exact Rd.old (row_rd (hs.get 0 rfl)) ho) (Rd.old (bk_bs (hs.get 2 rfl)) ho) (Rd.old (rdo_rd (hs.get 1 rfl)) ho) (by rw [l64]; omega)
    exact q) (by rw [List.length_append, l64]; omega) (Rd.old h1 (hs.get 3 rfl)) (Rd.old h0 (hs.get 3 rfl))) ?_
  rintro v Fs ⟨A2, c2, rfl, _, _, rfl⟩
  refine call_con [] (fun β w' hs => pad_c w' A key c 0x5c (Rd.old hr (hs.get 4 rfl)) hk (Rd.old h1 (hs.get 4 rfl)) (Rd.old h0 (hs.get 4 rfl))) ?_
  rintro v Fs ⟨p2, j2, rfl, rfl⟩
  intro b2
  have ls : (Sha.sum (padL key 0x36 ++ text)).length = 32 := sum_len _
  refine call_con [] (fun β w' hs => sumJ_c w' (some ⟨b2, 0, none⟩) 2 2 (padL key 0x5c ++ Sha.sum (padL key 0x36 ++ text)) (fun w2 ho => by
    have q := join2_c w2 b2 (some ⟨p2, 0, none⟩) A2 (padL key 0x5c) (Sha.sum (padL key 0x36 ++ text)) 64 c2 (by rw [l64, ls]; exact Rd.old (row_rd (hs.get 0 rfl)) ho) (Rd.old (bk_bs (hs.get 1 rfl)) ho) (Rd.old (row_rd (hs.get 2 rfl)) ho) (by rw [l64, ls]; decide)
    exact q) (by rw [List.length_append, l64, ls]; decide) (Rd.old h1 (hs.get 6 rfl)) (Rd.old h0 (hs.get 6 rfl))) ?_
  rintro v Fs ⟨A3, c3, rfl, h5, h6, rfl⟩
  intro β w' hs
  exact hs.fin [0] ⟨A3, c3, rfl, h5, h6, rfl⟩
end Go.Proofs.YtjlpcjpeljlbeaaGreatDoor.Sx

/- slices.Sort at numbers, as a contract. -/
namespace Go.Proofs.YtjlpcjpeljlbeaaGreatDoor.Sx
open Go
attribute [local irreducible] Calls

def sortN (l : List Nat) : List Nat := l.mergeSort (fun x y => decide (x ≤ y))
theorem sortN_len (l : List Nat) : (sortN l).length = l.length := by simp [sortN]
end Go.Proofs.YtjlpcjpeljlbeaaGreatDoor.Sx

/- Bytes, one by one. -/
namespace Go.Proofs.YtjlpcjpeljlbeaaGreatDoor.Sx
open Go
attribute [local irreducible] Calls

theorem xorB_len (a b : List UInt8) : (Bx.xorB a b).length = min a.length b.length := by simp [Bx.xorB]
end Go.Proofs.YtjlpcjpeljlbeaaGreatDoor.Sx

/- The reference's sums with a key. -/
namespace Go.Proofs.YtjlpcjpeljlbeaaGreatDoor.Sx
open Go
attribute [local irreducible] Calls

theorem copyC (w : World) (A : Option Addr) (l : List UInt8) (c : Nat) (hr : Bs w A l) (hn : l.length ≤ lim) :
    Con Tryz.prog n_ostiaryref01_Copy #[.slice A l.length c] w [] fun v Fs => ∃ A' c', v = .slice A' l.length c' ∧ l.length ≤ c' ∧ c' ≤ maxLen ∧ Fs = [browF ty_uint8 A' l c'] := con_row (copy_c w A l c hr hn)
/-- A row of bytes, from now on to be read. -/
theorem Sat.ro {cx : Cx} {β : Va} {n : Nat} {H : List Bk} {F : List Fact} {w : World} (h : Sat cx β n H F w) (j : Nat) {e : Nat} {A : Option Addr} {l : List UInt8} {c : Nat} (hj : nth F j = some (browF e A l c)) : Sat cx β n H (putAt F j (bsF A l)) w := by
  have hp := h.get j hj
  exact h.upd hj rfl (Chg.refl _ _) (row_rd hp) (fun k hk => .inl (browRoD hp k hk))
theorem repl_reps : ∀ n, repl ti5.zero n = reps n 0
  | 0 => rfl
  | n + 1 => by
    rw [repl, repl_reps n]
    rfl
/-! ### turned -/
def rawK (k : List UInt8) : List UInt8 := k ++ List.replicate (64 - k.length) 0
theorem rawK_len {k : List UInt8} (h : k.length ≤ 64) : (rawK k).length = 64 := by simp [rawK]; omega
def turnN (k : List UInt8) (x : UInt8) (i : Nat) : List UInt8 := ((rawK k).take i).map (· ^^^ x) ++ (rawK k).drop i
theorem turnN_at {k : List UInt8} {x y : UInt8} {i : Nat} (h : (rawK k)[i]? = some y) : (turnN k x i)[i]? = some y := by
  have hi : i < (rawK k).length := (List.getElem?_eq_some_iff.1 h).1
  unfold turnN
  rw [List.getElem?_append_right (by simp only [List.length_map, List.length_take]; omega)]
  simp only [List.length_map, List.length_take, List.getElem?_drop]
  rw [show i + (i - min i (rawK k).length) = i by omega]
  exact h
theorem turnN_set {k : List UInt8} {x y : UInt8} {i : Nat} (h : (rawK k)[i]? = some y) : (turnN k x i).set i (y ^^^ x) = turnN k x (i + 1) := by
  have hi : i < (rawK k).length := (List.getElem?_eq_some_iff.1 h).1
  unfold turnN
  rw [List.set_append_right _ _ (by simp only [List.length_map, List.length_take]; omega)]
  simp only [List.length_map, List.length_take]
  rw [show i - min i (rawK k).length = 0 by omega, List.drop_eq_getElem_cons hi, List.set_cons_zero, List.take_add_one, h]
  simp
theorem turnN_all {k : List UInt8} {x : UInt8} (h : k.length ≤ 64) : turnN k x 64 = k.map (x ^^^ ·) ++ List.replicate (64 - k.length) x := by
  unfold turnN
  rw [List.take_of_length_le (by rw [rawK_len h]; omega), List.drop_of_length_le (by rw [rawK_len h]; omega), List.append_nil]
  unfold rawK
  rw [List.map_append, List.map_replicate]
  congr 1
  · exact List.map_congr_left fun y _ => UInt8.xor_comm _ _
  · congr 1
    exact UInt8.zero_xor
set_option maxHeartbeats 1000000 in
theorem rturned_c (w : World) (A : Option Addr) (l : List UInt8) (c : Nat) (x : UInt8) (hr : Bs w A l) (hn : l.length ≤ 1000000) (h1 : (oddF 8).p w) :
    Con Tryz.prog n_ostiaryref02_turned #[.slice A l.length c, byte x] w [] fun v Fs => ∃ b, v = .slice (some ⟨b, 0, none⟩) (padL l x).length 64 ∧ Fs = [browF ty_uint8 (some ⟨b, 0, none⟩) (padL l x) 64] := by
  have g := good_ostiaryref02_turned w (Un [])
  refine con_of_sx (cx := cx_ostiaryref02_turned w (Un [])) g b_ostiaryref02_turned rfl rfl (β := Va.z) [.c (.v (.slice A l.length c)), .c (.v (byte x))] 0 [] [oldF w] rfl rfl (old_sat rfl) ?_
  refine BIf.dec (fun hlt => ?_) (fun hge => ?_)
  · have hlt0 : (64 : Int) < (l.length : Int) := hlt
    obtain ⟨k, hks⟩ : ∃ k, Sha.sum l = k := ⟨_, rfl⟩
    have hk : keyL l = k := by unfold keyL; rw [if_pos (by omega)]; exact hks
    have hk64 : k.length ≤ 64 := by rw [← hk]; exact keyL_len
    refine call_con [] (R := fun v Fs => ∃ A' c', v = .slice A' k.length c' ∧ Fs = [browF ty_uint8 A' k c']) (fun β w' hs => (rsum_c w' A l c (Rd.old hr (hs.get 0 rfl)) (Rd.old h1 (hs.get 0 rfl)) (by omega)).mono (by rintro v Fs ⟨A', c', rfl, _, _, rfl⟩; exact ⟨A', c', by rw [← hks]; rfl, by rw [hks]⟩)) ?_
    rintro v Fs ⟨A2, c2, rfl, rfl⟩
    have hkr : ∀ {w'}, (browF ty_uint8 A2 k c2).p w' → Bs w' A2 k := fun h => row_rd h
    refine ⟨64, 64, rfl, rfl, Nat.le_refl _, by decide, by decide, ?_⟩
    intro b
    have hk0 : min k.length 64 = k.length := by omega
    refine ⟨[], [rowF ty_uint8 1 (.slice (some ⟨b, 0, none⟩) 64 64) 64 ((rawK k).map byte), browF ty_uint8 A2 k c2, oldF w], .c (.v (.int .i64 (k.length : Int))), fun β w' ty hs => ?_, trivial, ?_⟩
    · obtain ⟨w2, q1, q2⟩ := hs.copyRow g 0 (m := k.length) (cs := c2) rfl (hkr (hs.get 1 rfl)) (bytes_one k) ty (t := ty_sl_uint8) #[false, false] hk0
      have e : putAll (repl ti5.zero 64) 0 ((k.map byte).take k.length) = (rawK k).map byte := by
        rw [List.take_of_length_le (by simp)]
        have q := putAll_app [] (repl ti5.zero 64) (k.map byte) (by rw [repl_reps, reps_len, List.length_map]; omega)
        have q2 : putAll (repl ti5.zero 64) 0 (k.map byte) = k.map byte ++ (repl ti5.zero 64).drop (k.map byte).length := q
        rw [q2, repl_reps, List.length_map]
        unfold rawK reps
        rw [List.map_append, ← List.map_drop, List.drop_replicate]
      rw [e] at q2
      exact ⟨w2, q1, q2⟩
    refine loop_rule (ι := Nat) 0 (fun i => [(1, .c (.v (byte x))), (5, .c (.v (.slice (some ⟨b, 0, none⟩) 64 64))), (17, .c (.v (.int .i64 64))), (18, .c (.v (.int .i64 (i : Int))))]) (fun _ => []) (fun i => [rowF ty_uint8 1 (.slice (some ⟨b, 0, none⟩) 64 64) 64 ((turnN k x i).map byte), browF ty_uint8 A2 k c2, oldF w])
      (fun i => i ≤ 64) (fun i => 64 - i) 0 (Nat.zero_le _) (Ent.same ⟨rfl, rfl, rfl, rfl, trivial⟩ rfl) g ?_
    intro i hi
    refine BIf.dec (fun hlt2 => ?_) (fun hge2 => ?_)
    · have hlt0 : (i : Int) < 64 := hlt2
      have hik : i < (rawK k).length := by rw [rawK_len hk64]; omega
      obtain ⟨y, hy, _⟩ := at_lt hik
      have hat := turnN_at (x := x) hy
      refine ⟨⟨b, 0, none⟩, i, rfl, rfl, by omega, byte y, fun β w' hs => by
        have h : Rd 1 (some ⟨b, 0, none⟩) 64 ((turnN k x i).map byte) w' := row_rd (hs.get 0 rfl)
        exact Rd.cell1 h (by rw [List.getElem?_map, hat]; rfl), _, xor8 y x, ?_⟩
      refine ⟨⟨b, 0, none⟩, i, rfl, rfl, by omega, [rowF ty_uint8 1 (.slice (some ⟨b, 0, none⟩) 64 64) 64 ((turnN k x (i + 1)).map byte), browF ty_uint8 A2 k c2, oldF w], fun β w' hs => ?_, ?_⟩
      · obtain ⟨w2, q1, q2⟩ := hs.rowSet (j := 0) (o := i) (us := [byte (y ^^^ x)]) rfl (by simp only [List.length_singleton]; omega) (fun u hu => by obtain rfl := List.mem_singleton.1 hu; rfl)
        have e : putAll ((turnN k x i).map byte) i [byte (y ^^^ x)] = (turnN k x (i + 1)).map byte := by
          rw [putAll, putAll, putAt_eq, ← turnN_set hy, List.map_set]
        rw [e] at q2
        have q1' : (storeCells ((⟨b, 0, none⟩ : Addr).add (i * 1)) [byte (y ^^^ x)] 0).run (cx_ostiaryref02_turned w (Un [])).P w' = .ok () w2 := by rw [Nat.mul_one]; exact q1
        exact ⟨w2, q1', q2⟩
      · refine ⟨((i + 1 : Nat) : Int), by rw [wrap_i64 (by omega) (by omega)]; rfl, ?_⟩
        exact ⟨i + 1, by omega, by omega, Ent.same ⟨rfl, rfl, rfl, rfl, trivial⟩ rfl⟩
    · have hge0 : ¬ (i : Int) < 64 := hge2
      obtain rfl : i = 64 := by omega
      intro β w' hs
      have hp : padL l x = turnN k x 64 := by rw [turnN_all hk64]; unfold padL; rw [hk]
      refine hs.fin [0] ⟨b, by rw [padL_len]; rfl, ?_⟩
      show [rowF ty_uint8 1 (.slice (some ⟨b, 0, none⟩) 64 64) 64 _] = [rowF ty_uint8 1 (.slice (some ⟨b, 0, none⟩) (padL l x).length 64) (padL l x).length ((padL l x).map byte)]
      rw [padL_len, hp]
  · have hge0 : ¬ (64 : Int) < (l.length : Int) := hge
    obtain ⟨k, hks⟩ : ∃ k, l = k := ⟨_, rfl⟩
    have hk : keyL l = k := by unfold keyL; rw [if_neg (by omega)]; exact hks
    have hk64 : k.length ≤ 64 := by rw [← hk]; exact keyL_len
    have hr' : Bs w A k := by rw [← hks]; exact hr
    have hlk : l.length = k.length := by rw [hks]
    rw [hlk]
    have hkr : ∀ {w'}, (oldF w).p w' → Bs w' A k := fun h => Rd.old hr' h
    refine ⟨64, 64, rfl, rfl, Nat.le_refl _, by decide, by decide, ?_⟩
    intro b
    have hk0 : min k.length 64 = k.length := by omega
    refine ⟨[], [rowF ty_uint8 1 (.slice (some ⟨b, 0, none⟩) 64 64) 64 ((rawK k).map byte), oldF w], .c (.v (.int .i64 (k.length : Int))), fun β w' ty hs => ?_, trivial, ?_⟩
    · obtain ⟨w2, q1, q2⟩ := hs.copyRow g 0 (m := k.length) (cs := c) rfl (hkr (hs.get 1 rfl)) (bytes_one k) ty (t := ty_sl_uint8) #[false, false] hk0
      have e : putAll (repl ti5.zero 64) 0 ((k.map byte).take k.length) = (rawK k).map byte := by
        rw [List.take_of_length_le (by simp)]
        have q := putAll_app [] (repl ti5.zero 64) (k.map byte) (by rw [repl_reps, reps_len, List.length_map]; omega)
        have q2 : putAll (repl ti5.zero 64) 0 (k.map byte) = k.map byte ++ (repl ti5.zero 64).drop (k.map byte).length := q
        rw [q2, repl_reps, List.length_map]
        unfold rawK reps
        rw [List.map_append, ← List.map_drop, List.drop_replicate]
      rw [e] at q2
      exact ⟨w2, q1, q2⟩
    refine loop_rule (ι := Nat) 0 (fun i => [(1, .c (.v (byte x))), (5, .c (.v (.slice (some ⟨b, 0, none⟩) 64 64))), (17, .c (.v (.int .i64 64))), (18, .c (.v (.int .i64 (i : Int))))]) (fun _ => []) (fun i => [rowF ty_uint8 1 (.slice (some ⟨b, 0, none⟩) 64 64) 64 ((turnN k x i).map byte), oldF w])
      (fun i => i ≤ 64) (fun i => 64 - i) 0 (Nat.zero_le _) (Ent.same ⟨rfl, rfl, rfl, rfl, trivial⟩ rfl) g ?_
    intro i hi
    refine BIf.dec (fun hlt2 => ?_) (fun hge2 => ?_)
    · have hlt0 : (i : Int) < 64 := hlt2
      have hik : i < (rawK k).length := by rw [rawK_len hk64]; omega
      obtain ⟨y, hy, _⟩ := at_lt hik
      have hat := turnN_at (x := x) hy
      refine ⟨⟨b, 0, none⟩, i, rfl, rfl, by omega, byte y, fun β w' hs => by
        have h : Rd 1 (some ⟨b, 0, none⟩) 64 ((turnN k x i).map byte) w' := row_rd (hs.get 0 rfl)
        exact Rd.cell1 h (by rw [List.getElem?_map, hat]; rfl), _, xor8 y x, ?_⟩
      refine ⟨⟨b, 0, none⟩, i, rfl, rfl, by omega, [rowF ty_uint8 1 (.slice (some ⟨b, 0, none⟩) 64 64) 64 ((turnN k x (i + 1)).map byte), oldF w], fun β w' hs => ?_, ?_⟩
      · obtain ⟨w2, q1, q2⟩ := hs.rowSet (j := 0) (o := i) (us := [byte (y ^^^ x)]) rfl (by simp only [List.length_singleton]; omega) (fun u hu => by obtain rfl := List.mem_singleton.1 hu; rfl)
        have e : putAll ((turnN k x i).map byte) i [byte (y ^^^ x)] = (turnN k x (i + 1)).map byte := by
          rw [putAll, putAll, putAt_eq, ← turnN_set hy, List.map_set]
        rw [e] at q2
        have q1' : (storeCells ((⟨b, 0, none⟩ : Addr).add (i * 1)) [byte (y ^^^ x)] 0).run (cx_ostiaryref02_turned w (Un [])).P w' = .ok () w2 := by rw [Nat.mul_one]; exact q1
        exact ⟨w2, q1', q2⟩
      · refine ⟨((i + 1 : Nat) : Int), by rw [wrap_i64 (by omega) (by omega)]; rfl, ?_⟩
        exact ⟨i + 1, by omega, by omega, Ent.same ⟨rfl, rfl, rfl, rfl, trivial⟩ rfl⟩
    · have hge0 : ¬ (i : Int) < 64 := hge2
      obtain rfl : i = 64 := by omega
      intro β w' hs
      have hp : padL l x = turnN k x 64 := by rw [turnN_all hk64]; unfold padL; rw [hk]
      refine hs.fin [0] ⟨b, by rw [padL_len]; rfl, ?_⟩
      show [rowF ty_uint8 1 (.slice (some ⟨b, 0, none⟩) 64 64) 64 _] = [rowF ty_uint8 1 (.slice (some ⟨b, 0, none⟩) (padL l x).length 64) (padL l x).length ((padL l x).map byte)]
      rw [padL_len, hp]
end Go.Proofs.YtjlpcjpeljlbeaaGreatDoor.Sx

/- The reference's sums with a key; a password that is stretched. -/
namespace Go.Proofs.YtjlpcjpeljlbeaaGreatDoor.Sx
open Go
attribute [local irreducible] Calls

theorem rhsum_c (w : World) (A B : Option Addr) (key text : List UInt8) (c d : Nat) (hr : Bs w A key) (ht : Bs w B text) (hk : key.length ≤ 1000000) (hn : text.length ≤ 1000000) (h1 : (oddF 8).p w) :
    Con Tryz.prog n_ostiaryref02_Sum #[.slice A key.length c, .slice B text.length d] w [] fun v Fs => ∃ A' c', v = .slice A' 32 c' ∧ 32 ≤ c' ∧ c' ≤ maxLen ∧ Fs = [browF ty_uint8 A' (hmL key text) c'] := by
  have g := good_ostiaryref02_Sum w (Un [])
  have hml := maxLen_eq
  refine con_of_sx (cx := cx_ostiaryref02_Sum w (Un [])) g b_ostiaryref02_Sum rfl rfl (β := Va.z) [.c (.v (.slice A key.length c)), .c (.v (.slice B text.length d))] 0 [] [oldF w] rfl rfl (old_sat rfl) ?_
  refine call_con [] (fun β w' hs => rturned_c w' A key c 0x5c (Rd.old hr (hs.get 0 rfl)) hk (Rd.old h1 (hs.get 0 rfl))) ?_
  rintro v Fs ⟨p1, rfl, rfl⟩
  refine call_con [] (fun β w' hs => rturned_c w' A key c 0x36 (Rd.old hr (hs.get 1 rfl)) hk (Rd.old h1 (hs.get 1 rfl))) ?_
  rintro v Fs ⟨p2, rfl, rfl⟩
  have l64 : ∀ x, (padL key x).length = 64 := padL_len key
  have e1 : (padL key 0x36 ++ text).length = 64 + text.length := by rw [List.length_append, l64]
  refine ⟨0, (padL key 0x36).length, (padL key 0x36 ++ text).length, (padL key 0x36).map byte, text.map byte, (padL key 0x36 ++ text).map byte, rfl, fun β w' hs => Rd.old ht (hs.get 2 rfl), bytes_one _, by rw [List.length_append], by rw [List.map_append], by omega, by show (padL key 0x36 ++ text).length * 1 ≤ _; omega, ?_⟩
  intro A1 c1 hc1 hm1 _
  refine call_con [] (fun β w' hs => rsum_c w' A1 (padL key 0x36 ++ text) c1 (row_rd (hs.get 0 rfl)) (Rd.old h1 (hs.get 2 rfl)) (by omega)) ?_
  rintro v Fs ⟨A2, c2, rfl, hc2, hm2, rfl⟩
  obtain ⟨s1, hs1⟩ : ∃ s1, Sha.sum (padL key 0x36 ++ text) = s1 := ⟨_, rfl⟩
  have hs1l : s1.length = 32 := by rw [← hs1]; exact sum_len _
  have hhm : hmL key text = Sha.sum (padL key 0x5c ++ s1) := by unfold hmL; rw [hs1]
  have e2 : (padL key 0x5c ++ s1).length = 96 := by rw [List.length_append, l64, hs1l]
  have e0 : (padL key 0x5c).length + 32 = (padL key 0x5c ++ s1).length := by rw [List.length_append, hs1l]
  refine ⟨2, (padL key 0x5c).length, (padL key 0x5c ++ s1).length, (padL key 0x5c).map byte, s1.map byte, (padL key 0x5c ++ s1).map byte, rfl, fun β w' hs => ?_, bytes_one _, e0, by rw [List.map_append], by omega, by show (padL key 0x5c ++ s1).length * 1 ≤ _; omega, ?_⟩
  · have h : Bs w' A2 (Sha.sum (padL key 0x36 ++ text)) := row_rd (hs.get 0 rfl)
    rw [hs1] at h
    have h' : Rd 1 A2 s1.length (s1.map byte) w' := h
    rw [hs1l] at h'
    exact h'
  intro A3 c3 hc3 hm3 _
  refine call_con [] (fun β w' hs => rsum_c w' A3 (padL key 0x5c ++ s1) c3 (row_rd (hs.get 2 rfl)) (Rd.old h1 (hs.get 3 rfl)) (by omega)) ?_
  rintro v Fs ⟨A4, c4, rfl, h5, h6, rfl⟩
  intro β w' hs
  exact hs.fin [0] ⟨A4, c4, rfl, h5, h6, by rw [hhm]; rfl⟩
end Go.Proofs.YtjlpcjpeljlbeaaGreatDoor.Sx

/- A sum that grows: the table of its state; new; copied. -/
namespace Go.Proofs.YtjlpcjpeljlbeaaGreatDoor.Sx
open Go Sha
attribute [local irreducible] Calls

/-! ### plainly -/
/-! ### in memory -/
def ptrB (b : Nat) : Value := .pointer (some ⟨b, 0, none⟩)
end Go.Proofs.YtjlpcjpeljlbeaaGreatDoor.Sx

/- A sum that grows: written to; its value. -/
namespace Go.Proofs.YtjlpcjpeljlbeaaGreatDoor.Sx
open Go Sha
attribute [local irreducible] Calls

end Go.Proofs.YtjlpcjpeljlbeaaGreatDoor.Sx

/- A sum that grows: its value. -/
namespace Go.Proofs.YtjlpcjpeljlbeaaGreatDoor.Sx
open Go Sha
attribute [local irreducible] Calls

end Go.Proofs.YtjlpcjpeljlbeaaGreatDoor.Sx

/- A sum with a key that grows. -/
namespace Go.Proofs.YtjlpcjpeljlbeaaGreatDoor.Sx
open Go
attribute [local irreducible] Calls

/-! ### begun -/
end Go.Proofs.YtjlpcjpeljlbeaaGreatDoor.Sx

/- One sum of parts, by a Mac that is kept. -/
namespace Go.Proofs.YtjlpcjpeljlbeaaGreatDoor.Sx
open Go
attribute [local irreducible] Calls

abbrev Part := Option Addr × List UInt8 × Nat
def partV (p : Part) : Value := .slice p.1 p.2.1.length p.2.2
def partsT (ps : List Part) : List UInt8 := ps.flatMap (·.2.1)
/-- Parts, to be read. -/
def partF (P : Option Addr) (ps : List Part) : Fact where
  own := false
  D := fun k => (rdF 1 P ps.length (ps.map partV)).D k ∨ ∃ p ∈ ps, (bsF p.1 p.2.1).D k
  p := fun w => Rd 1 P ps.length (ps.map partV) w ∧ ∀ p ∈ ps, Bs w p.1 p.2.1
  st := fun w w' hs h => ⟨(rdF 1 P ps.length (ps.map partV)).st w w' (fun k hk => hs k (.inl hk)) h.1, fun p hp => (bsF p.1 p.2.1).st w w' (fun k hk => hs k (.inr ⟨p, hp, hk⟩)) (h.2 p hp)⟩
end Go.Proofs.YtjlpcjpeljlbeaaGreatDoor.Sx

/- The pieces of a password that is stretched: the first. -/
namespace Go.Proofs.YtjlpcjpeljlbeaaGreatDoor.Sx
open Go
attribute [local irreducible] Calls

section
variable {cx : Cx} {β : Va} {n : Nat} {H : List Bk} {F : List Fact} {w : World}
theorem Sat.subN (h : Sat cx β n H F w) (js : List Nat) (hno : ∀ f ∈ takeIx F js, f.own = false) (g : Fact) (hgo : g.own = false) (hp : g.p w) (hD : ∀ k, g.D k → Un (takeIx F js) k) : Sat cx β n H (g :: F) w := by
  have hin : ∀ k, g.D k → ∃ (i : Nat) (f : Fact), F[i]? = some f ∧ f.own = false ∧ f.D k := fun k hk => by
    obtain ⟨f, hf, hfk⟩ := hD k hk
    obtain ⟨i, _, hi⟩ := takeIx_mem hf
    exact ⟨i, f, hi, hno f hf, hfk⟩
  refine h.old g hp (fun k hk => ?_) (fun b hb q => ?_) (fun q => by rw [hgo] at q; cases q) (fun g' hg' ho k hk hk' => ?_) (fun p hpp q => ?_)
  · obtain ⟨i, f, hi, _, hfk⟩ := hin k hk
    exact h.flt f (List.mem_of_getElem? hi) k hfk
  · obtain ⟨i, f, hi, _, hfk⟩ := hin _ q
    exact h.sepb f (List.mem_of_getElem? hi) b hb hfk
  · have ho' : g'.own = true := ho.resolve_left (by rw [hgo]; decide)
    obtain ⟨i, f, hi, hfo, hfk⟩ := hin k hk
    obtain ⟨j, hj⟩ := List.getElem?_of_mem hg'
    have hne : j ≠ i := fun q => by subst q; rw [hj] at hi; obtain rfl := Option.some.inj hi; rw [hfo] at ho'; cases ho'
    exact h.apart hj hi hne (.inl ho') k hk' hfk
  · obtain ⟨i, f, hi, _, hfk⟩ := hin _ q
    exact (h.pin p hpp).2.2 f (List.mem_of_getElem? hi) hfk
theorem rowD {e size : Nat} {A : Option Addr} {k c : Nat} {xs : List Value} {w : World} (h : (rowF e size (.slice A k c) k xs).p w) : ∀ b, (rdF size A k xs).D b → (rowF e size (.slice A k c) k xs).D b := by
  rintro b ⟨h0, ad, q, rfl⟩
  have hk : 0 < k := Nat.pos_of_ne_zero (fun q => by rw [q, Nat.zero_mul] at h0; exact Nat.lt_irrefl _ h0)
  rcases h.2 with ⟨he, h0⟩ | ⟨g, cap, cur, he, _⟩
  · omega
  · have hA : A = some ⟨g, 0, none⟩ := by injection he
    rw [q] at hA
    obtain rfl := Option.some.inj hA
    show Value.ownBlock (.slice A k c) = _
    rw [q]
    rfl
/-- A row, from now on to be read. -/
theorem Sat.rowRd (h : Sat cx β n H F w) (j : Nat) {e size : Nat} {A : Option Addr} {k c : Nat} {xs : List Value} (hj : nth F j = some (rowF e size (.slice A k c) k xs)) : Sat cx β n H (putAt F j (rdF size A k xs)) w := by
  have hp := h.get j hj
  exact h.upd hj rfl (Chg.refl _ _) (row_rd hp) (fun b hb => .inl (rowD hp b hb))
/-- Parts that lie about, as one. -/
theorem Sat.part1 {P A : Option Addr} {l : List UInt8} {c : Nat} (h : Sat cx β n H F w) (js : List Nat) (hj : takeIx F js = [rdF 1 P 1 [.slice A l.length c], bsF A l]) : Sat cx β n H (partF P [(A, l, c)] :: F) w := by
  have hP : Rd 1 P 1 [.slice A l.length c] w := h.fact _ (by
    have : rdF 1 P 1 [.slice A l.length c] ∈ takeIx F js := by rw [hj]; simp
    obtain ⟨i, _, hi⟩ := takeIx_mem this
    exact List.mem_of_getElem? hi)
  have hA : Bs w A l := h.fact (bsF A l) (by
    have : bsF A l ∈ takeIx F js := by rw [hj]; simp
    obtain ⟨i, _, hi⟩ := takeIx_mem this
    exact List.mem_of_getElem? hi)
  refine h.subN js (fun f hf => ?_) _ rfl ⟨hP, fun p hp => ?_⟩ (fun k hk => ?_)
  · rw [hj] at hf
    simp only [List.mem_cons, List.not_mem_nil, or_false] at hf
    rcases hf with rfl | rfl <;> rfl
  · obtain rfl := List.mem_singleton.1 hp; exact hA
  · rw [hj]
    rcases hk with hk | ⟨p, hp, hk⟩
    · exact ⟨_, List.mem_cons_self, hk⟩
    · obtain rfl := List.mem_singleton.1 hp
      exact ⟨_, List.mem_cons_of_mem _ List.mem_cons_self, hk⟩
theorem Sat.part2 {P A B : Option Addr} {l m : List UInt8} {c d : Nat} (h : Sat cx β n H F w) (js : List Nat) (hj : takeIx F js = [rdF 1 P 2 [.slice A l.length c, .slice B m.length d], bsF A l, bsF B m]) : Sat cx β n H (partF P [(A, l, c), (B, m, d)] :: F) w := by
  have get : ∀ f ∈ takeIx F js, f.p w := fun f hf => by obtain ⟨i, _, hi⟩ := takeIx_mem hf; exact h.fact f (List.mem_of_getElem? hi)
  have hP : Rd 1 P 2 [.slice A l.length c, .slice B m.length d] w := get (rdF 1 P 2 [.slice A l.length c, .slice B m.length d]) (by rw [hj]; simp)
  have hA : Bs w A l := get (bsF A l) (by rw [hj]; simp)
  have hB : Bs w B m := get (bsF B m) (by rw [hj]; simp)
  refine h.subN js (fun f hf => ?_) _ rfl ⟨hP, fun p hp => ?_⟩ (fun k hk => ?_)
  · rw [hj] at hf
    simp only [List.mem_cons, List.not_mem_nil, or_false] at hf
    rcases hf with rfl | rfl | rfl <;> rfl
  · simp only [List.mem_cons, List.not_mem_nil, or_false] at hp
    rcases hp with rfl | rfl
    · exact hA
    · exact hB
  · rw [hj]
    rcases hk with hk | ⟨p, hp, hk⟩
    · exact ⟨_, List.mem_cons_self, hk⟩
    · simp only [List.mem_cons, List.not_mem_nil, or_false] at hp
      rcases hp with rfl | rfl
      · exact ⟨bsF A l, by simp, hk⟩
      · exact ⟨bsF B m, by simp, hk⟩
end
end Go.Proofs.YtjlpcjpeljlbeaaGreatDoor.Sx

/- A password's key, of 32 bytes. -/
namespace Go.Proofs.YtjlpcjpeljlbeaaGreatDoor.Sx
open Go
attribute [local irreducible] Calls

end Go.Proofs.YtjlpcjpeljlbeaaGreatDoor.Sx

/- Two sums, turned. -/
namespace Go.Proofs.YtjlpcjpeljlbeaaGreatDoor.Sx
open Go
attribute [local irreducible] Calls

/-- What stands in one list and not in the other. -/
def notIn (l m : List Nat) : List Nat := l.filter fun x => !decide (x ∈ m)
end Go.Proofs.YtjlpcjpeljlbeaaGreatDoor.Sx

/- Two tags, turned. -/
namespace Go.Proofs.YtjlpcjpeljlbeaaGreatDoor.Sx
open Go
attribute [local irreducible] Calls

/-- What a sum of the box's must be. -/
structure OkS (l : List Nat) (m : List UInt8) : Prop where
  len : l.length ≤ 4096
  nums : ∀ n ∈ l, n ≤ 4096
  mask : m.length = 32
def mixL (l1 l2 : List Nat) : List Nat := sortN (notIn l1 l2 ++ notIn l2 l1)
def turnT (L : List Nat) (M : List UInt8) : Bx.Term := ⟨4, [], [], 0, L, M⟩
end Go.Proofs.YtjlpcjpeljlbeaaGreatDoor.Sx

/- The symbolic box's example of BoxHandles: plainly. -/
namespace Go.Proofs.YtjlpcjpeljlbeaaGreatDoor.Sx
open Go

def tA : Bx.Term := hashT [97]
def tB : Bx.Term := hashT [98]
def B1 : Bx.Box := ⟨true, false, [tA]⟩
def B2 : Bx.Box := ⟨true, false, [tA, tB]⟩
theorem place_not {t : Bx.Term} : ∀ {L : List Bx.Term}, t ∉ L → Bx.place t L = none
  | [], _ => rfl
  | x :: r, h => by
    unfold Bx.place
    rw [if_neg (show ¬ x = t from fun q => h (by rw [q]; exact List.mem_cons_self)), place_not (fun q => h (List.mem_cons_of_mem _ q))]
    rfl
theorem opens_h {B : Bx.Box} {n : Nat} {t : Bx.Term} (hs : B.sym = true) (hn : n < 4294967296) (h0 : 1 ≤ n) (hl : n ≤ B.L.length) (ht : B.L[n - 1]? = some t) : B.opens (Bx.handle n) = if t.kind = 4 then some (t.list, t.mask) else some ([n], Bx.noughts) :=
  Bx.opens_in (Bx.handle_len n) hs (List.take_left' Bx.front_len) (by rw [show (Bx.handle n).drop 28 = Bx.be4 n from List.drop_left' Bx.front_len, Bx.num_be4 hn]) (by omega) ht
end Go.Proofs.YtjlpcjpeljlbeaaGreatDoor.Sx

/- The symbolic box's example of BoxHandles. -/
namespace Go.Proofs.YtjlpcjpeljlbeaaGreatDoor.Sx
open Go
attribute [local irreducible] Calls

theorem newX_c (w : World) (sym : Bool) : Con Tryz.prog n_box_New #[.bool sym] w [] fun v Fs => ∃ b y, v = .pointer (some ⟨b, 0, none⟩) ∧ y.ts = [] ∧ Fs = [bxF b ⟨sym, false, []⟩ y] := by
  refine con_of_sx (cx := cx_box_New w (Un [])) (good_box_New w (Un [])) b_box_New rfl rfl (β := Va.z) [.c (.v (.bool sym))] 0 [] [] rfl rfl (Sat.start rfl) ?_
  intro m
  intro β w' hs
  have h2 := (hs.ofBk.nilRow ty_box_Term 6).noMem (partsF []) (fun _ h => (by cases h)) (fun k hk => by obtain ⟨p, hp, _⟩ := hk; cases hp)
  exact (h2.sep [2, 1, 3, 0] rfl ⟨rfl, rfl, rfl, rfl, trivial⟩).fin [0] ⟨_, ⟨none, 0, m, []⟩, rfl, rfl, rfl⟩
end Go.Proofs.YtjlpcjpeljlbeaaGreatDoor.Sx

/- The program's box: hashes, sums with a key, stretched passwords; plain and symbolic. -/
namespace Go.Proofs.YtjlpcjpeljlbeaaGreatDoor.Sx
open Go
attribute [local irreducible] Calls

def macT (k t : List UInt8) : Bx.Term := ⟨2, k, t, 0, [], []⟩
def strT (p s : List UInt8) (r : Nat) : Bx.Term := ⟨3, p, s, r, [], []⟩
noncomputable def hashB (B : Bx.Box) (t : List UInt8) : List UInt8 × Bx.Box := if B.sym then B.tag (hashT t) else (Sha.sum t, B)
noncomputable def macB (B : Bx.Box) (k t : List UInt8) : List UInt8 × Bx.Box := if B.sym then B.tag (macT k t) else (hmL k t, B)
noncomputable def strB (B : Bx.Box) (p s : List UInt8) (r : Nat) : List UInt8 × Bx.Box := if B.sym then B.tag (strT p s r) else (stretchL p s r, B)
/-- What a box tells, in memory; the box behind it. -/
def boxOut (b : Nat) (r : List UInt8 × Bx.Box) (v : Value) (Fs : List Fact) : Prop :=
  ∃ A c y', v = .slice A 32 c ∧ 32 ≤ c ∧ c ≤ maxLen ∧ y'.ts.map (·.1) = r.2.L ∧ Fs = [browF ty_uint8 A r.1 c, bxF b r.2 y']
theorem Sat.unown {cx : Cx} {β : Va} {n : Nat} {H : List Bk} {F : List Fact} {w : World} (h : Sat cx β n H F w) (j : Nat) {size : Nat} {A : Option Addr} {k : Nat} {xs : List Value} (hj : nth F j = some (rdoF size A k xs)) : Sat cx β n H (putAt F j (rdF size A k xs)) w :=
  h.upd hj rfl (Chg.refl _ _) (show (rdF size A k xs).p w from rdo_rd (h.get j hj)) (fun _ hk => .inl hk)
theorem Sat.trd {cx : Cx} {β : Va} {n : Nat} {H : List Bk} {F : List Fact} {w : World} (h : Sat cx β n H F w) (js : List Nat) (t : Bx.Term) (a : TA) (hl : t.list = []) (hm : t.mask = []) (hj : takeIx F js = [bsF a.k t.key, bsF a.t t.text]) : Sat cx β n H (trdF t a :: F) w := by
  have get : ∀ f ∈ takeIx F js, f.p w := fun f hf => by obtain ⟨i, _, hi⟩ := takeIx_mem hf; exact h.fact f (List.mem_of_getElem? hi)
  refine h.subN js (fun f hf => ?_) _ rfl ⟨get (bsF a.k t.key) (by rw [hj]; simp), get (bsF a.t t.text) (by rw [hj]; simp), by rw [hl]; exact rd_nil w a.l, by rw [hm]; exact Bs.nil w a.m⟩ (fun k hk => ?_)
  · rw [hj] at hf
    simp only [List.mem_cons, List.not_mem_nil, or_false] at hf
    rcases hf with rfl | rfl <;> rfl
  · rw [hj]
    rcases hk with hk | hk | hk | hk
    · exact ⟨_, List.mem_cons_self, hk⟩
    · exact ⟨bsF a.t t.text, by simp, hk⟩
    · rw [hl] at hk
      exact absurd hk.1 (by simp)
    · rw [hm] at hk
      exact absurd hk.1 (by simp)
theorem parts_len {ps : List Part} : (ps.map (·.2.1)).flatten = partsT ps := by
  unfold partsT
  rw [List.flatMap_def]
/-- Parts, joined. -/
theorem joinP_c (w : World) (b0 : Nat) (ps : List Part) (cP : Nat) (h : (partF (some ⟨b0, 0, none⟩) ps).p w) (h0 : ps ≠ []) (hc : ps.length ≤ cP) (hl : ps.length ≤ 1000) (hn : (partsT ps).length ≤ 1000000) :
    Con Tryz.prog n_bytes_Join #[.slice (some ⟨b0, 0, none⟩) ps.length cP, .slice none 0 0] w [] (readOut (partsT ps)) := by
  match ps with
  | [] => exact absurd rfl h0
  | [p] =>
    have e : partsT [p] = p.2.1 := by simp [partsT]
    rw [e] at hn ⊢
    exact join1R_c w (some ⟨b0, 0, none⟩) p.1 cP p.2.2 p.2.1 h.1 (h.2 p List.mem_cons_self) (by omega)
  | p :: q :: r =>
    have k := joinN_c w b0 cP ((p :: q :: r).map partV) ((p :: q :: r).map (·.2.1)) (by rw [List.length_map]; exact h.1) (fun i v l hv hl => by
      rw [List.getElem?_map] at hv hl
      obtain ⟨x, hx, rfl⟩ := Option.map_eq_some_iff.1 hv
      obtain ⟨x', hx', rfl⟩ := Option.map_eq_some_iff.1 hl
      rw [hx] at hx'
      obtain rfl := Option.some.inj hx'
      exact Bs.holds (h.2 x (List.mem_of_getElem? hx)) x.2.2) (by simp) (by rw [List.length_map]; exact hc) (by rw [List.length_map]; exact hl) (by rw [parts_len]; omega)
    rw [List.length_map, parts_len] at k
    exact k
theorem partOld {P : Option Addr} {ps : List Part} {W w : World} (h : (partF P ps).p W) (ho : (oldF W).p w) : (partF P ps).p w := ⟨Rd.old h.1 ho, fun p hp => Rd.old (h.2 p hp) ho⟩
theorem macT_sz {k t : List UInt8} (hk : k.length ≤ 1000000) (hl : t.length ≤ 1000000) : TSz (macT k t) := ⟨by show 2 < 1000; decide, by show 0 < 1000; decide, hk, hl, Nat.zero_le _, fun _ h => (by cases h), Nat.zero_le _⟩
theorem macP_c (w : World) (b : Nat) (B : Bx.Box) (y : Lay) (K : Option Addr) (key : List UInt8) (cK : Nat) (b0 : Nat) (ps : List Part) (cP : Nat) (hts : y.ts.map (·.1) = B.L) (hL : B.L.length ≤ 4096) (hk : key.length ≤ 1000000) (h0 : ps ≠ []) (hc : ps.length ≤ cP) (hl : ps.length ≤ 1000) (hn : (partsT ps).length ≤ 1000000) (hm : Mem w [bxF b B y, partF (some ⟨b0, 0, none⟩) ps, bsF K key, oddF 2, firstF 0]) :
    Con Tryz.prog n_box_Box_Mac #[ptrB b, .slice K key.length cK, .slice (some ⟨b0, 0, none⟩) ps.length cP] w [bxF b B y] (boxOut b (macB B key (partsT ps))) := by
  have g := good_box_Box_Mac w (Un [bxF b B y])
  have hs0 : Sat (cx_box_Box_Mac w (Un [bxF b B y])) Va.z 0 [] [bxF b B y, partF (some ⟨b0, 0, none⟩) ps, bsF K key, oddF 2, firstF 0] w := hm.sat0 rfl (ownIn (Gs := [bxF b B y]) (fun f hf => by
    simp only [List.mem_cons, List.not_mem_nil, or_false] at hf
    rcases hf with rfl | rfl | rfl | rfl <;> rfl))
  refine con_of_sx (cx := cx_box_Box_Mac w (Un [bxF b B y])) g b_box_Box_Mac rfl rfl (β := Va.z) [.c (.v (ptrB b)), .c (.v (.slice K key.length cK)), .c (.v (.slice (some ⟨b0, 0, none⟩) ps.length cP))] 0 [] [bxF b B y, partF (some ⟨b0, 0, none⟩) ps, bsF K key, oddF 2, firstF 0] rfl rfl hs0 ?_
  cases hsym : B.sym with
  | true =>
    refine ⟨.bool true, fun β w' hs => box_cell (bx_bk (hs.get 0 rfl)) (o := 0) (by simp [boxCells, hsym]), ?_⟩
    refine call_con [] (fun β w' hs => joinP_c w' b0 ps cP (hs.get 1 rfl) h0 hc hl hn) ?_
    rintro v Fs ⟨A1, c1, rfl, q1, q2, rfl⟩
    refine call_con [1] (R := boxOut b (B.tag (macT key (partsT ps)))) (fun β w' hs => by
      have k2 := (hs.unown 0 rfl).trd [3, 0] (macT key (partsT ps)) ⟨K, A1, none, none, cK, c1, 0, 0⟩ rfl rfl rfl
      exact tag_c w' b B y (macT key (partsT ps)) ⟨K, A1, none, none, cK, c1, 0, 0⟩ hts hL (macT_sz hk hn) (k2.mem.take (js := [2, 0]) rfl)) ?_
    rintro v Fs ⟨A2, c2, y2, rfl, r1, r2, r3, rfl⟩
    intro β w' hs
    have e : macB B key (partsT ps) = B.tag (macT key (partsT ps)) := by unfold macB; rw [hsym]; rfl
    rw [e]
    exact hs.fin [0, 1] ⟨A2, c2, y2, rfl, r1, r2, r3, rfl⟩
  | false =>
    refine ⟨.bool false, fun β w' hs => box_cell (bx_bk (hs.get 0 rfl)) (o := 0) (by simp [boxCells, hsym]), ?_⟩
    refine call_con [] (fun β w' hs => hsum_c w' K (some ⟨b0, 0, none⟩) key (partsT ps) cK ps.length cP (hs.get 2 rfl) hk hn (fun w2 ho => joinP_c w2 b0 ps cP (partOld (hs.get 1 rfl) ho) h0 hc hl hn) (hs.get 3 rfl) (hs.get 4 rfl)) ?_
    rintro v Fs ⟨A2, c2, rfl, r1, r2, rfl⟩
    intro β w' hs
    have e : macB B key (partsT ps) = (hmL key (partsT ps), B) := by unfold macB; rw [hsym]; rfl
    rw [e]
    exact hs.fin [0, 1] ⟨A2, c2, y, rfl, r1, r2, hts, rfl⟩
end Go.Proofs.YtjlpcjpeljlbeaaGreatDoor.Sx

/- The document's handles. -/
namespace Go.Proofs.YtjlpcjpeljlbeaaGreatDoor.Sx
open Go
attribute [local irreducible] Calls

theorem rfront_c (w : World) : Con Tryz.prog n_ostiaryref05_front #[] w [] fun v Fs => ∃ A c, v = .slice A 28 c ∧ 28 ≤ c ∧ c ≤ maxLen ∧ Fs = [browF ty_uint8 A Bx.front c] := by
  refine con_of_sx (cx := cx_ostiaryref05_front w (Un [])) (good_ostiaryref05_front w (Un [])) b_ostiaryref05_front rfl rfl (β := Va.z) [] 0 [] [] rfl rfl (Sat.start rfl) ?_
  intro b
  refine ⟨0, 4, 24, 28, _, _, Bx.front.map byte, rfl, ⟨rfl, rfl, fun u hu => by obtain rfl := List.mem_singleton.1 hu; rfl⟩, rfl, rfl, by rw [maxLen_eq]; decide, by decide, ?_⟩
  intro A' c' h1 h2 _ β w' hs
  exact hs.fin [0] ⟨A', c', rfl, h1, h2, rfl⟩
theorem be4_eq (n : Nat) : be 4 n = Bx.be4 n := by
  have key : ∀ m : Nat, UInt8.ofNat (m % 256) = UInt8.ofNat m := fun m => by
    apply UInt8.toNat_inj.1
    simp
  simp [be, Bx.be4, key, Nat.div_div_eq_div_mul]
theorem rhandle_c (w : World) (n : Nat) (hn : n < 4294967296) : Con Tryz.prog n_ostiaryref05_Handle #[.int .i64 n] w [] fun v Fs => ∃ A c, v = .slice A 32 c ∧ 32 ≤ c ∧ c ≤ maxLen ∧ Fs = [browF ty_uint8 A (Bx.handle n) c] := by
  refine con_of_sx (cx := cx_ostiaryref05_Handle w (Un [])) (good_ostiaryref05_Handle w (Un [])) b_ostiaryref05_Handle rfl rfl (β := Va.z) [.c (.v (.int .i64 n))] 0 [] [] rfl rfl (Sat.start rfl) ?_
  refine call_con [] (fun β w' hs => rfront_c w') ?_
  rintro v Fs ⟨A, c, rfl, h1, h2, rfl⟩
  refine ⟨(n : Int), by rw [wrap_u32]; omega, ?_⟩
  refine ⟨(n : Int), by rw [wrap_u64']; omega, ?_⟩
  refine call_con [] (fun β w' hs => be_con w' n 4 (by omega) (by decide)) ?_
  rintro v Fs ⟨A2, c2, rfl, _, _, rfl⟩
  refine ⟨1, 28, 32, Bx.front.map byte, (be 4 n).map byte, (Bx.handle n).map byte, rfl, fun β w hs => row_rd (hs.get 0 rfl), bytes_one _, rfl, by rw [be4_eq, ← List.map_append]; rfl, by rw [maxLen_eq]; decide, by decide, ?_⟩
  intro A' c' q1 q2 _ β w' hs
  exact hs.fin [1] ⟨A', c', rfl, q1, q2, rfl⟩
end Go.Proofs.YtjlpcjpeljlbeaaGreatDoor.Sx
