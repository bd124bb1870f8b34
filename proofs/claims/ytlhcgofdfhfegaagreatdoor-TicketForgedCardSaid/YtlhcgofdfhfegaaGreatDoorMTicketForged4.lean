/- Texts joined: Bk2, Box1, Box2, Join, Bk3, SumJ, HmL, Rep, Rep2, RoF, Hm1, Bk4, Bk5, Srt, Bk6, Bk7, Bk8, Bk9, Xor, Hm2, Hm3, Hsh, Hsh2, Hsh3, Mac, Pie, Pie2, Str, Trn, Turn, Ak5, Ak6, BxP, Rf5, Rt1, Rt2, Rt3, Rt4, Rt5, Tl2, Tl3, TlG, OpT, Tk6, Rn5, Pd4R, MkR, Tkh, Rk1, B6E, SxAs, Flip, Tl1, Tl4, Tl5, LenX, Tl7, Tl8, Tl10, Rk2, B6U, Rk3, Han, Rf6, Kr1, Kr2, Kr3, SxIter, KyJ, CoJ, Kr4, CutN, Rk4, Kr5, Rk5, StrS, Rk6, Rk7, Rk9, Rka, Kr6, Kr7, Kr8, Kr9, Ks1, TrR, Ks2, KsL, Tl11, Ks3, Ks4, Ks5, SxClr, Ks6, Ks7, Ks8, Ks9, Ka1, Rk8, RHx, Rkb, Tk3, Tkb, KyI, ColI, SrU, SrU2, FmU, RgL, Tka, Tk2, Tk8. -/
import Derived.Test.YtlhcgofdfhfegaaGreatDoorMTicketForged3
import Derived.Test.YtlhcgofdfhfegaaGreatDoorMTicketForged2
import Derived.Lib.Join
import Derived.Lib.SlParts
import Derived.Lib.SlFresh
import Derived.Lib.MakeNoZero
import Derived.Laws.Externs
import Derived.Sort.OwnSortedInts
import Derived.Maps.RangeRun
set_option linter.unusedVariables false
set_option linter.unusedSimpArgs false
namespace Go.Proofs.YtlhcgofdfhfegaaGreatDoor.Sx
open Go
attribute [local irreducible] Calls
theorem or128 (n : Nat) : bits .or .u8 (((UInt8.ofNat n).toNat : Nat) : Int) 128 = ((UInt8.ofNat (n % 128 + 128)).toNat : Int) := by
  show IntKind.u8.wrap (((BitVec.ofInt 8 ((UInt8.ofNat n).toNat : Int)) ||| (BitVec.ofInt 8 128)).toNat : Int) = _
  have h1 : BitVec.ofInt 8 (((UInt8.ofNat n).toNat : Nat) : Int) = BitVec.ofNat 8 n := by
    apply BitVec.eq_of_toNat_eq
    rw [BitVec.toNat_ofInt, BitVec.toNat_ofNat, UInt8.toNat_ofNat']
    omega
  have h2 : BitVec.ofNat 8 n ||| BitVec.ofInt 8 128 = BitVec.ofNat 8 (n % 128 + 128) := by
    have h3 : BitVec.ofNat 8 n = BitVec.ofNat 8 (n % 256) := by
      apply BitVec.eq_of_toNat_eq
      rw [BitVec.toNat_ofNat, BitVec.toNat_ofNat]
      omega
    have h4 : n % 128 = n % 256 % 128 := by omega
    rw [h3, h4]
    have h5 : n % 256 < 256 := Nat.mod_lt _ (by omega)
    have key : ∀ k, k < 256 → BitVec.ofNat 8 k ||| BitVec.ofInt 8 128 = BitVec.ofNat 8 (k % 128 + 128) := by decide +kernel
    exact key _ h5
  rw [h1, h2, BitVec.toNat_ofNat, wrap_u8, UInt8.toNat_ofNat']
  omega
theorem vint_len : ∀ (k n : Nat), n < 128 ^ (k + 1) → (Bx.vint n).length ≤ k + 1
  | 0, n, h => by rw [Bx.vint_lt (by simpa using h)]; simp
  | k + 1, n, h => by
    by_cases hn : n < 128
    · rw [Bx.vint_lt hn]; simp
    · rw [Bx.vint_ge hn, List.length_cons]
      have := vint_len k (n / 128) (by rw [Nat.pow_succ] at h; omega)
      omega
theorem vint_nine {n : Nat} (h : n < 4611686018427387904) : (Bx.vint n).length ≤ 9 := vint_len 8 n (by omega)
def varF (b : Nat) (A : Option Addr) (l : List UInt8) (c : Nat) : List Fact := [bkF b ty_sl_uint8 [.slice A l.length c], browF ty_uint8 A l c]
structure LgS where
  n : Nat
  A : Option Addr
  l : List UInt8
  c : Nat
theorem long7_c (w : World) (b n : Nat) (A : Option Addr) (l : List UInt8) (c : Nat) (hn : n < 4611686018427387904) (hl : l.length ≤ 1000000000) (hm : Mem w (varF b A l c)) :
    Con Tryz.prog n_box_Term_print_1 #[.int .i64 n, .pointer (some ⟨b, 0, none⟩)] w (varF b A l c) fun v Fs => v = .tuple #[] ∧ ∃ A' c', Fs = varF b A' (l ++ Bx.vint n) c' := by
  have g := good_box_Term_print_1 w (Un (varF b A l c))
  refine con_of_sx (cx := cx_box_Term_print_1 w (Un (varF b A l c))) g b_box_Term_print_1 rfl rfl (β := Va.z) [.c (.v (.int .i64 n)), .c (.v (.pointer (some ⟨b, 0, none⟩)))] 0 [] _ rfl rfl (hm.sat0 rfl (fun f hf _ k hk => ⟨f, hf, hk⟩)) ?_
  refine loop_rule (ι := LgS) 0 (fun i => [(0, .c (.v (.int .i64 i.n))), (1, .c (.v (.pointer (some ⟨b, 0, none⟩))))]) (fun _ => []) (fun i => varF b i.A i.l i.c)
    (fun i => i.n < 4611686018427387904 ∧ i.l ++ Bx.vint i.n = l ++ Bx.vint n) (fun i => i.n) ⟨n, A, l, c⟩ ⟨hn, rfl⟩ (Ent.same ⟨rfl, rfl, trivial⟩ rfl) g ?_
  rintro ⟨m, A1, l1, c1⟩ ⟨hm1, he⟩
  simp only at hm1 he
  have hl1 : l1.length ≤ 1000000009 := by
    have h1 := congrArg List.length he
    simp only [List.length_append] at h1
    have h2 := vint_nine hn
    omega
  have hcell : ∀ (w' : World) (A : Option Addr) (l : List UInt8) (c : Nat), (bkF b ty_sl_uint8 [.slice A l.length c]).p w' → w'.cell? ⟨b, 0, none⟩ = some (.slice A l.length c) := fun w' A l c h => by
    have hb : w'.heap[b]? = some (.cells #[.slice A l.length c] ty_sl_uint8 (0, 0)) := h
    rw [cell_of_row w' b 0 _ _ _ hb]; rfl
  refine BIf.dec (fun hge => ?_) (fun hlt => ?_)
  · have hge0 : (128 : Int) ≤ (m : Int) := hge
    have hnl : ¬ m < 128 := by omega
    refine ⟨.slice A1 l1.length c1, fun β w' hs => hcell _ _ _ _ (hs.get 0 rfl), ?_⟩
    refine ⟨_, wrap_u8b m, _, or128 m, ?_⟩
    intro b2
    refine ⟨2, l1.length, l1.length + 1, l1.map byte, [byte (UInt8.ofNat (m % 128 + 128))], (l1 ++ [UInt8.ofNat (m % 128 + 128)]).map byte, rfl, fun β w' hs => row_rd (hs.get 0 rfl), bytes_one [UInt8.ofNat (m % 128 + 128)], rfl, by simp, by rw [maxLen_eq]; omega, by show (l1.length + 1) * 1 ≤ _; omega, ?_⟩
    intro A' c' h1 h2 h3
    refine ⟨_, fun β w' hs => hs.bkSet 1 (o := 0) (us := [.slice A' (l1.length + 1) c']) rfl (Nat.le_refl 1) (fun u hu => by obtain rfl := List.mem_singleton.1 hu; rfl), ?_⟩
    refine ⟨by decide, ((m / 128 : Nat) : Int), shr_nat m 7, ?_⟩
    refine ⟨⟨m / 128, A', l1 ++ [UInt8.ofNat (m % 128 + 128)], c'⟩, ⟨by show m / 128 < _; omega, ?_⟩, by show m / 128 < m; omega, ?_⟩
    · show l1 ++ [UInt8.ofNat (m % 128 + 128)] ++ Bx.vint (m / 128) = _
      rw [← he, Bx.vint_ge hnl]
      simp
    · refine Ent.mk' ⟨rfl, rfl, trivial⟩ rfl ?_
      intro β w' hs
      have e : (l1 ++ [UInt8.ofNat (m % 128 + 128)]).length = l1.length + 1 := by simp
      have hs2 := hs.perm [1, 2]
      show Sat _ _ _ _ (varF b A' (l1 ++ [UInt8.ofNat (m % 128 + 128)]) c') _
      unfold varF browF
      rw [e]
      exact hs2
  · have hlt0 : ¬ (128 : Int) ≤ (m : Int) := hlt
    have hl : m < 128 := by omega
    refine ⟨.slice A1 l1.length c1, fun β w' hs => hcell _ _ _ _ (hs.get 0 rfl), ?_⟩
    refine ⟨_, wrap_u8b m, ?_⟩
    intro b2
    refine ⟨2, l1.length, l1.length + 1, l1.map byte, [byte (UInt8.ofNat m)], (l1 ++ [UInt8.ofNat m]).map byte, rfl, fun β w' hs => row_rd (hs.get 0 rfl), bytes_one [UInt8.ofNat m], rfl, by simp, by rw [maxLen_eq]; omega, by show (l1.length + 1) * 1 ≤ _; omega, ?_⟩
    intro A' c' h1 h2 h3
    refine ⟨_, fun β w' hs => hs.bkSet 1 (o := 0) (us := [.slice A' (l1.length + 1) c']) rfl (Nat.le_refl 1) (fun u hu => by obtain rfl := List.mem_singleton.1 hu; rfl), ?_⟩
    intro β w' hs
    have e0 : l ++ Bx.vint n = l1 ++ [UInt8.ofNat m] := by rw [← he, Bx.vint_lt hl]
    have e : (l1 ++ [UInt8.ofNat m]).length = l1.length + 1 := by simp
    refine hs.fin [1, 2] ⟨rfl, A', c', ?_⟩
    rw [e0]
    unfold varF browF
    rw [e]
    rfl
end Go.Proofs.YtlhcgofdfhfegaaGreatDoor.Sx

namespace Go.Proofs.YtlhcgofdfhfegaaGreatDoor.Sx
open Go Sha
attribute [local irreducible] Calls
theorem chg_of {w w' : World} (h : RowKit.Below w.heap.size w w') : Chg None_ w w' := ⟨h.os, h.tape, h.output, h.size, fun k hk _ => h.block k hk⟩
end Go.Proofs.YtlhcgofdfhfegaaGreatDoor.Sx

namespace Go.Proofs.YtlhcgofdfhfegaaGreatDoor.Sx
open Go
attribute [local irreducible] Calls
theorem Bs.holds {w : World} {A : Option Addr} {l : List UInt8} (h : Bs w A l) (c : Nat) : Lib.HoldsBytes w (.slice A l.length c) l := by
  refine ⟨A, c, rfl, fun q => ?_, fun a q i x hx => ?_⟩
  · subst q
    rcases Nat.eq_zero_or_pos l.length with h0 | h0
    · exact List.eq_nil_of_length_eq_zero h0
    · obtain ⟨ad, q, _⟩ := h.2 h0; cases q
  · have hi : i < l.length := (List.getElem?_eq_some_iff.1 hx).1
    obtain ⟨ad, q2, hc⟩ := h.2 (by omega)
    rw [q] at q2
    obtain rfl := Option.some.inj q2
    exact hc i (byte x) (by simp [hx])
theorem join_nil (ls : List (List UInt8)) : Lib.join ls [] = ls.flatten := by
  simp [Lib.join, List.intercalate]
  induction ls with
  | nil => rfl
  | cons a r ih =>
    cases r with
    | nil => simp
    | cons b r => simp [ih]
theorem lens_flat (ls : List (List UInt8)) : Lib.lens ls = ls.flatten.length := by
  simp [Lib.lens, List.length_flatten]
def readOut (l : List UInt8) (v : Value) (Fs : List Fact) : Prop := ∃ A c, v = .slice A l.length c ∧ l.length ≤ c ∧ c ≤ maxLen ∧ Fs = [rdoF 1 A l.length (l.map byte)]
theorem fin_read {w w' : World} {A : Option Addr} {l : List UInt8} {c : Nat} (hr : Bs w' A l) (hc : Chg None_ w w') (hD : ∀ k, (bsF A l).D k → w.heap.size ≤ k) (h1 : l.length ≤ c) (h2 : c ≤ maxLen) : Fin w [] (readOut l) (.slice A l.length c) w' := by
  refine ⟨[rdoF 1 A l.length (l.map byte)], ⟨A, c, rfl, h1, h2, rfl⟩, by rw [Un.nil]; exact hc, ⟨fun g hg => ?_, fun g hg k hk => ?_, List.pairwise_singleton _ _⟩, ⟨rfl, trivial⟩, fun g hg k hk => ?_⟩
  · obtain rfl := List.mem_singleton.1 hg; exact hr
  · obtain rfl := List.mem_singleton.1 hg; exact rd_lt hr k hk
  · obtain rfl := List.mem_singleton.1 hg; exact .inr (hD k hk)
theorem fresh_fin {w w' : World} {v : Value} {l : List UInt8} (hf : Lib.FreshBytes w.heap.size w' v l) (hb : RowKit.Below w.heap.size w w') : Fin w [] (readOut l) v w' := by
  obtain ⟨g, cap, zs, rfl, hg, h1, h2, hz, hz2, hbo, hc, _⟩ := hf
  refine fin_read ?_ (chg_of hb) ?_ h1 h2
  · refine ⟨by simp, fun hp => ⟨_, rfl, fun j u hu => ?_⟩⟩
    rw [List.getElem?_map] at hu
    obtain ⟨x, hx, rfl⟩ := Option.map_eq_some_iff.1 hu
    have hj : j < l.length := (List.getElem?_eq_some_iff.1 hx).1
    rw [add_none, Nat.zero_add, hc j (by omega)]
    have hj2 : j < zs.length := by omega
    have h3 : (Lib.bytesOf (zs.take l.length))[j]? = some x := by rw [hbo]; exact hx
    rw [Lib.bytesOf, List.getElem?_map, List.getElem?_take, if_pos hj, List.getElem?_eq_getElem hj2] at h3
    have h4 : UInt8.ofNat zs[j].toNat = x := by simpa using h3
    have h5 : zs.getD j 0 = zs[j] := by simp [hj2]
    have h6 := hz2 zs[j] (List.getElem_mem hj2)
    have h7 : (x.toNat : Int) = zs[j] := by
      rw [← h4, UInt8.toNat_ofNat']
      omega
    rw [h5, ← h7]
    rfl
  · rintro k ⟨_, ad, q, rfl⟩
    obtain rfl := Option.some.inj q
    exact hg
theorem joinN_c (w : World) (b c : Nat) (vs : List Value) (ls : List (List UInt8)) (hP : Rd 1 (some ⟨b, 0, none⟩) ls.length vs w) (hH : ∀ (i : Nat) v l, vs[i]? = some v → ls[i]? = some l → Lib.HoldsBytes w v l) (h2 : 2 ≤ ls.length) (hcap : ls.length ≤ c) (hn : ls.length ≤ 1000) (hlen : ls.flatten.length ≤ 140737488355328) :
    Con Tryz.prog n_bytes_Join #[.slice (some ⟨b, 0, none⟩) ls.length c, .slice none 0 0] w [] (readOut ls.flatten) := by
  refine con_of_calls (Calls.mono (Tryz.bytes_Join_many b 0 ls.length c vs ls (.slice none 0 0) [] w rfl h2 ⟨by have := hP.1; omega, fun i v hv => ?_, hH⟩ hcap ⟨none, 0, rfl, fun _ => rfl, fun a q => by cases q⟩ (by omega) (by rw [lens_flat]; simpa using hlen)) ?_)
  · obtain ⟨ad, q, hc⟩ := hP.2 (by omega)
    obtain rfl := Option.some.inj q
    exact hc i v hv
  · rintro e w' ⟨v, rfl, hf, hb⟩
    rw [join_nil] at hf
    exact ⟨v, rfl, fresh_fin hf hb⟩
end Go.Proofs.YtlhcgofdfhfegaaGreatDoor.Sx

namespace Go.Proofs.YtlhcgofdfhfegaaGreatDoor.Sx
open Go Sha
attribute [local irreducible] Calls
theorem Mem.lastRo {w : World} {f R X : Fact} {A : Option Addr} {l : List UInt8} (h : Mem w [f, R, X, rdoF 1 A l.length (l.map byte)]) : Mem w [f, R, X, bsF A l] := by
  refine ⟨fun g hg => ?_, fun g hg k hk => ?_, ?_⟩
  · simp only [List.mem_cons, List.not_mem_nil, or_false] at hg
    rcases hg with rfl | rfl | rfl | rfl
    · exact h.fact _ (by simp)
    · exact h.fact _ (by simp)
    · exact h.fact _ (by simp)
    · exact h.fact (rdoF 1 A l.length (l.map byte)) (by simp)
  · simp only [List.mem_cons, List.not_mem_nil, or_false] at hg
    rcases hg with rfl | rfl | rfl | rfl
    · exact h.flt _ (by simp) k hk
    · exact h.flt _ (by simp) k hk
    · exact h.flt _ (by simp) k hk
    · exact h.flt (rdoF 1 A l.length (l.map byte)) (by simp) k hk
  · have hs := h.sepf
    simp only [List.pairwise_cons, List.mem_cons, List.not_mem_nil, or_false, forall_eq_or_imp, forall_eq, false_implies, implies_true, List.Pairwise.nil, and_true] at hs ⊢
    obtain ⟨⟨a1, a2, a3⟩, ⟨b1, b2⟩, c1⟩ := hs
    exact ⟨⟨a1, a2, fun _ => a3 (.inr rfl)⟩, ⟨b1, fun _ => b2 (.inr rfl)⟩, fun _ => c1 (.inr rfl)⟩
theorem sumJ_c (w : World) (P : Option Addr) (nP cP : Nat) (l : List UInt8) (hj : ∀ w', (oldF w).p w' → Con Tryz.prog n_bytes_Join #[.slice P nP cP, .slice none 0 0] w' [] (readOut l)) (hn : l.length ≤ 70368744177664) (h1 : (oddF 4).p w) (h0 : (firstF 1).p w) :
    Con Tryz.prog n_sha_Sum #[.slice P nP cP] w [] fun v Fs => ∃ A' c', v = .slice A' 32 c' ∧ 32 ≤ c' ∧ c' ≤ maxLen ∧ Fs = [browF ty_uint8 A' (Sha.sum l) c'] := by
  have g := good_sha_Sum w (Un [])
  have hs0 : Sat (cx_sha_Sum w (Un [])) Va.z 0 [] [oldF w] w := old_sat rfl
  have hs1 : Sat (cx_sha_Sum w (Un [])) Va.z 0 [] [oddF 4, oldF w] w := hs0.sub 0 rfl rfl _ rfl h1 (rd_lt h1)
  refine con_of_sx (cx := cx_sha_Sum w (Un [])) g b_sha_Sum rfl rfl (β := Va.z) [.c (.v (.slice P nP cP))] 0 [] [oddF 4, oldF w] rfl rfl hs1 ?_
  refine ⟨Sha.first.l.map u32, rfl, fun β w' hs j u hu => ?_, ?_⟩
  · have h2 : Rd 1 (some ⟨1, 0, none⟩) 8 (Sha.first.l.map u32) w' := Rd.old h0 (hs.get 1 rfl)
    obtain ⟨ad, h3, h4⟩ := h2.2 (by decide)
    obtain rfl := Option.some.inj h3
    exact h4 j u hu
  refine call_con [] (fun β w' hs => hj w' (hs.get 1 rfl)) ?_
  rintro v Fs ⟨A1, c1, rfl, h2, h3, rfl⟩
  refine call_con [] (fun β w' hs => Blocks_c w' A1 l.length c1) ?_
  rintro v Fs ⟨bx, rfl, rfl⟩
  refine reify_rule g 0 (fun _ => Sha.first.l.map u32) rfl rfl (fun _ => rfl) (fun sb => ?_)
  obtain ⟨q, hq⟩ : ∃ q, l ++ ends l.length = q := ⟨_, rfl⟩
  have hsum : Sha.sum l = out ((blks q (q.length / 64)).foldl Sha.step Sha.first) := by rw [← go_eq, ← hq]; rfl
  rw [hsum]
  refine range_rule (α := List UInt8) (ι := S8) (κ := S8) g rfl (cv := [.pointer (some ⟨bx, 0, none⟩)]) rfl (by kernel_rfl) 1 (Nat.le_refl 1)
    (fun pre s => s = pre.foldl Sha.step Sha.first) (fun _ => []) (fun s => [stF sb 223 s]) (fun _ => ⟨rfl, trivial⟩)
    (fun _ _ _ => False) (fun _ => []) (fun _ => []) (fun _ => trivial)
    [bkF bx ty_sl_uint8 [.slice A1 l.length c1]] [rdoF 1 A1 l.length (l.map byte)] [oddF 4] ⟨rfl, trivial⟩ (fun g hg => by obtain rfl := List.mem_singleton.1 hg; rfl)
    Sha.first rfl (fun β w' hs => ⟨β, Agr.refl _ _, hs.perm [1, 2, 0, 3]⟩) (fun _ => insB)
    (fun xs Fs' => xs = blks q (q.length / 64) ∧ Fs' = []) (fun _ Fs' => Fs' = [])
    (fun l' w' f0 R J Jx hJ0 hJo hRo hY hm => (blocks_it l' w' bx A1 l c1 f0 R J Jx hJ0 hJo hRo hY hn hm.lastRo).mono fun _ Fs h => by rw [hq] at h; exact h) ?_ ?_ ?_
  · rintro s pre x args X W S l' bs pn pn' hbs hpre ⟨hx, B, rfl, rfl⟩
    refine ⟨_, rfl, ?_⟩
    refine call_con [1] (fun β w' hs => step64_c w' sb 223 s B x hx (hs.mem.take (js := [1, 0, 2]) rfl)) ?_
    rintro v Fs ⟨rfl, rfl⟩
    refine ⟨Sha.step s x, by show Sha.step s x = (pre ++ [x]).foldl Sha.step Sha.first; rw [List.foldl_append, hpre]; rfl, Ent.mk' trivial rfl (fun β w' hs => ?_)⟩
    exact hs.weaken (List.Sublist.refl _) (List.Sublist.cons_cons _ (List.nil_sublist _))
  · rintro xs s Fs hpre ⟨rfl, rfl⟩
    refine call_con [0] (fun β w' hs => stbytes_c w' sb 223 s (hs.mem.take (js := [0]) rfl)) ?_
    rintro v Fs ⟨A3, c3, rfl, h5, h6, rfl⟩
    intro β w' hs
    refine hs.fin [1] ⟨A3, c3, rfl, h5, h6, ?_⟩
    rw [← hpre]
    rfl
  · rintro e pre s Fs h _
    exact h.elim
end Go.Proofs.YtlhcgofdfhfegaaGreatDoor.Sx

namespace Go.Proofs.YtlhcgofdfhfegaaGreatDoor.Sx
open Go
def keyL (l : List UInt8) : List UInt8 := if 64 < l.length then Sha.sum l else l
def padL (l : List UInt8) (x : UInt8) : List UInt8 := (keyL l).map (x ^^^ ·) ++ List.replicate (64 - (keyL l).length) x
def hmL (key text : List UInt8) : List UInt8 := Sha.sum (padL key 0x5c ++ Sha.sum (padL key 0x36 ++ text))
theorem sum_len (l : List UInt8) : (Sha.sum l).length = 32 := rfl
theorem keyL_len {l : List UInt8} : (keyL l).length ≤ 64 := by
  unfold keyL
  split
  · rw [sum_len]; omega
  · omega
theorem padL_len (l : List UInt8) (x : UInt8) : (padL l x).length = 64 := by
  unfold padL
  have := keyL_len (l := l)
  simp only [List.length_append, List.length_map, List.length_replicate]
  omega
theorem hmL_len (k t : List UInt8) : (hmL k t).length = 32 := rfl
end Go.Proofs.YtlhcgofdfhfegaaGreatDoor.Sx

namespace Go.Proofs.YtlhcgofdfhfegaaGreatDoor.Sx
open Go
attribute [local irreducible] Calls
section
variable {cx : Cx} {β : Va} {n : Nat} {env : Env} {H : List Bk} {F : List Fact} {w : World}
theorem Sat.copyBk (h : Sat cx β n H F w) (g : Good cx) (j : Nat) {b o k c e m cs r : Nat} {A : Option Addr} {cells ys : List Value} (hj : nth F j = some (bkF b e cells)) (hr : Rd 1 A m ys w) (h1 : ∀ u ∈ ys, u.oneCell' = true)
    {t : TypeId} {i ie : TI} (ty : TypeId) (cst : Array Bool) (hm : min m k = r) (hfit : o + r ≤ cells.length) (hi : lk cx.tt t = some i := by rfl) (hd : i.desc = .slice e := by rfl) (hie : lk cx.tt e = some ie := by rfl) (hz : ie.size = 1 := by rfl) :
    ∃ w', (builtin .copy #[t, t] ty cst #[.slice (some ⟨b, o, none⟩) k c, .slice A m cs]).run cx.P w = .ok (.value (.int .i64 (r : Int))) w' ∧
      Sat cx β n H (putAt F j (bkF b e (putAll cells o (ys.take r)))) w' := by
  subst hm
  have ht := (g.ti hi).real (d := .slice _) hd rfl
  have tie := g.ti hie
  have hrt := hr.take (k := min m k) (Nat.min_le_left _ _)
  have hsz := tie.run_size w
  rw [hz] at hsz
  have hfc : (Builtin.firstCells 1 (min m k) (.slice A m cs)).run cx.P w = .ok (ys.take (min m k)).toArray w := by
    cases A with
    | none =>
      have h0 : min m k = 0 := by
        rcases Nat.eq_zero_or_pos (min m k) with q | q
        · exact q
        · obtain ⟨ad, q, _⟩ := hrt.2 q; cases q
      rw [h0]
      rfl
    | some ad =>
      have hl := run_loadCells_list (P := cx.P) (w := w) ad (ys.take (min m k)) (fun j u hu => by
        have hp : 0 < min m k := by
          rcases Nat.eq_zero_or_pos (min m k) with q | q
          · rw [q] at hu; simp at hu
          · exact q
        obtain ⟨ad', q, hc⟩ := hrt.2 hp
        obtain rfl := Option.some.inj q
        exact hc j u hu)
      have hlen : (ys.take (min m k)).length = min m k := by rw [hrt.1, Nat.mul_one]
      rw [hlen] at hl
      simpa [Builtin.firstCells] using hl
  obtain ⟨w', e1, e2⟩ := h.bkSet (us := ys.take (min m k)) (o := o) j hj (by rw [hrt.1]; omega) (fun u hu => h1 u (List.take_subset _ _ hu))
  rw [add_none, Nat.zero_add] at e1
  refine ⟨w', ?_, e2⟩
  have hmin : Nat.min m k = min m k := rfl
  simp [builtin, Builtin.copy_, run_underlying ht, Builtin.lenOf, hsz, hfc, e1, goInt, hmin]
end
theorem bk_rd {b e : Nat} {cells : List Value} {w : World} (h : (bkF b e cells).p w) {k : Nat} (hk : k ≤ cells.length) : Rd 1 (some ⟨b, 0, none⟩) k (cells.take k) w := by
  refine ⟨by rw [List.length_take]; omega, fun _ => ⟨_, rfl, fun j u hu => ?_⟩⟩
  rw [List.getElem?_take] at hu
  split at hu
  · rw [add_none, Nat.zero_add]
    have h' : w.heap[b]? = some (.cells cells.toArray e (0, 0)) := h
    rw [cell_of_row w b j _ _ _ h']
    simpa using hu
  · cases hu
theorem bk_bs {b e : Nat} {l : List UInt8} {junk : List Value} {w : World} (h : (bkF b e (l.map byte ++ junk)).p w) : Bs w (some ⟨b, 0, none⟩) l := by
  have := bk_rd h (k := l.length) (by simp)
  rwa [List.take_left' (by simp)] at this
theorem mul_c (w : World) : Pu Tryz.prog n_math_bits_Mul #[.int .u64 1, .int .u64 64] w (.tuple #[.int .u64 0, .int .u64 64]) := by
  refine pu_of (Calls.mono (Tryz.bits_Mul 1 64 (by decide) (by decide) w) ?_)
  rintro e w' ⟨rfl, rfl⟩
  exact ⟨_, rfl, rfl, Chg.refl _ _⟩
theorem mnz_run (w : World) (n : Nat) (hn : n ≤ 281474976710656) : ∃ cs : List Value, (callFunc 114 #[.int .i64 n]).run Tryz.prog w = .ok (.value (.slice (some ⟨w.heap.size, 0, none⟩) n cs.length)) (w.drew.drew.alloc (.cells cs.toArray ty_uint8)) ∧ n ≤ cs.length := by
  obtain ⟨cs, h1, h2, _⟩ := Lib.run_makeNoZero (P := Tryz.prog) w #[] ty_sl_uint8 ty_uint8 ((ok27).real (d := .slice _) rfl rfl) n hn
  refine ⟨cs.toList, ?_, by simpa using h2⟩
  have hx := run_callFunc_extern (P := Tryz.prog) (f := 114) (fn := Tryz.f114) (e := Extern.BytealgMakeNoZero.makeNoZero #[ty_int] #[ty_sl_uint8]) Tryz.func114 (by decide +kernel) rfl (by rfl) (by rfl) #[.int .i64 n] w
  rw [hx]
  have h1' : (Extern.BytealgMakeNoZero.makeNoZero #[ty_int] #[ty_sl_uint8] #[.int .i64 n]).run Tryz.prog w = _ := h1
  rw [h1']
  simp
end Go.Proofs.YtlhcgofdfhfegaaGreatDoor.Sx

namespace Go.Proofs.YtlhcgofdfhfegaaGreatDoor.Sx
open Go
attribute [local irreducible] Calls
theorem putAll_app {α : Type} (a b ys : List α) (h : ys.length ≤ b.length) : putAll (a ++ b) a.length ys = a ++ ys ++ b.drop ys.length := by
  rw [putAll_all _ _ _ (by simp; omega)]
  rw [List.take_left' rfl, List.drop_append]
  simp [show a.length + ys.length - a.length = ys.length by omega]
theorem cutA_at (b k : Nat) {m : Nat} (h : m ≠ k) : cutA (some ⟨b, 0, none⟩) m k 1 = some ⟨b, k, none⟩ := by
  unfold cutA
  rw [if_neg h]
  simp [add_none]
theorem cutA_0 (A : Option Addr) {m : Nat} (h : A = none ∨ ∃ b o, A = some ⟨b, o, none⟩) : cutA A m 0 1 = A := by
  unfold cutA
  split
  · rfl
  · rcases h with rfl | ⟨b, o, rfl⟩
    · rfl
    · simp [add_none]
def reps (k : Nat) (x : UInt8) : List Value := (List.replicate k x).map byte
theorem reps_len (k : Nat) (x : UInt8) : (reps k x).length = k := by simp [reps]
theorem reps_take {k r : Nat} (x : UInt8) (h : r ≤ k) : (reps k x).take r = reps r x := by
  unfold reps
  rw [← List.map_take, List.take_replicate, Nat.min_eq_left h]
theorem reps_add (k r : Nat) (x : UInt8) : reps k x ++ reps r x = reps (k + r) x := by
  unfold reps
  rw [← List.map_append, List.replicate_append_replicate]
theorem reps_one (k : Nat) (x : UInt8) : ∀ u ∈ reps k x, u.oneCell' = true := bytes_one _
set_option maxHeartbeats 1000000 in
theorem repeat64_c (w : World) (B : Option Addr) (cB : Nat) (x : UInt8) (hr : Rd 1 B 1 [byte x] w) :
    Con Tryz.prog n_bytes_Repeat #[.slice B 1 cB, .int .i64 64] w [] fun v Fs => ∃ b junk, v = .slice (some ⟨b, 0, none⟩) 64 64 ∧ Fs = [bkF b ty_uint8 (reps 64 x ++ junk)] := by
  have g := good_bytes_Repeat w (Un [])
  refine con_of_sx (cx := cx_bytes_Repeat w (Un [])) g b_bytes_Repeat rfl rfl (β := Va.z) [.c (.v (.slice B 1 cB)), .c (.v (.int .i64 64))] 0 [] [oldF w] rfl rfl (old_sat rfl) ?_
  refine ⟨1, by decide, 64, by decide, ?_⟩
  refine call_pu (fun β w' hs => mul_c w') ?_
  refine ⟨64, by decide, ?_⟩
  refine .inr (fun β w' hs => ?_)
  obtain ⟨cs, hrun, hcs⟩ := mnz_run w' 64 (by decide)
  have hs1 : Sat (cx_bytes_Repeat w (Un [])) β 0 [] (bkF w'.heap.size ty_uint8 cs :: [oldF w]) (w'.drew.drew.alloc (.cells cs.toArray ty_uint8)) := by
    refine hs.drew.drew.add (Chg.alloc _ _) _ (heap_alloc_new _ _) (fun k hk => ?_)
    obtain rfl : k = w'.heap.size := hk
    exact ⟨Nat.le_refl _, by simp⟩
  refine ⟨_, _, hrun, Ret.mk [] _ hs1 ?_⟩
  obtain ⟨b, hb⟩ : ∃ b, w'.heap.size = b := ⟨_, rfl⟩
  rw [hb]
  clear hs1 hrun hs
  refine ⟨64, 64, 0, 64, 64, some ⟨b, 0, none⟩, rfl, rfl, rfl, hcs, Nat.le_refl _, Nat.zero_le _, rfl, rfl, cutA_0 _ (.inr ⟨b, 0, rfl⟩), ?_⟩
  refine ⟨[], [bkF b ty_uint8 (reps 1 x ++ cs.drop 1), oldF w], .c (.v (.int .i64 1)), fun β w' ty hs => ?_, trivial, ?_⟩
  · obtain ⟨w2, q1, q2⟩ := hs.copyBk g 0 rfl (hr.old (hs.get 1 rfl)) (reps_one 1 x) ty (t := ty_sl_uint8) #[false, false] (r := 1) (k := 64) (m := 1) (c := 64) (cs := cB) (o := 0) rfl (by omega)
    have e1 : putAll cs 0 ([byte x].take 1) = reps 1 x ++ cs.drop 1 := by
      have := putAll_app [] cs [byte x] (by simp; omega)
      show putAll cs 0 [byte x] = [byte x] ++ cs.drop 1
      simpa using this
    rw [e1] at q2
    exact ⟨w2, q1, q2⟩
  refine loop_rule (ι := Nat × List Value) 0 (fun i => [(7, .c (.v (.int .i64 64))), (8, .c (.v (.int .i64 64))), (9, .c (.v (.slice (some ⟨b, 0, none⟩) 64 64))), (10, .c (.v (.int .i64 (i.1 : Int))))]) (fun _ => []) (fun i => [bkF b ty_uint8 (reps i.1 x ++ i.2), oldF w])
    (fun i => 1 ≤ i.1 ∧ i.1 ≤ 64 ∧ 64 ≤ i.1 + i.2.length) (fun i => 64 - i.1) (1, cs.drop 1) ⟨Nat.le_refl _, by show 1 ≤ 64; decide, by simp only [List.length_drop]; omega⟩ (Ent.same ⟨rfl, rfl, rfl, rfl, trivial⟩ rfl) g ?_
  rintro ⟨k, junk⟩ ⟨h1, h2, h3⟩
  simp only at h1 h2 h3
  refine BIf.dec (fun hlt => ?_) (fun hge => ?_)
  · have hlt0 : (k : Int) < 64 := hlt
    have hk : k < 64 := by omega
    obtain ⟨r, hr0⟩ : ∃ r, min k (64 - k) = r := ⟨_, rfl⟩
    refine ⟨(k : Int), by show min (k : Int) 64 = k; omega, ?_⟩
    refine draw_rule g p_bytes_Repeat_20 (by kernel_rfl) [] [] (Sub.of (List.Sublist.refl _) (List.nil_sublist _)) ?_
    refine ⟨64, 64, k, 64 - k, 64 - k, some ⟨b, k, none⟩, rfl, rfl, rfl, Nat.le_refl _, Nat.le_refl _, by omega, rfl, rfl, cutA_at b k (by omega), ?_⟩
    refine ⟨64, k, 0, k, 64, some ⟨b, 0, none⟩, rfl, rfl, rfl, Nat.le_refl _, by omega, Nat.zero_le _, rfl, rfl, cutA_0 _ (.inr ⟨b, 0, rfl⟩), ?_⟩
    refine ⟨[], [bkF b ty_uint8 (reps (k + r) x ++ junk.drop r), oldF w], .c (.v (.int .i64 (r : Int))), fun β w' ty hs => ?_, trivial, ?_⟩
    · have hrd : Rd 1 (some ⟨b, 0, none⟩) k (reps k x) w' := by
        have := bk_rd (hs.get 0 rfl) (k := k) (by simp [reps_len])
        rwa [List.take_left' (reps_len k x)] at this
      obtain ⟨w2, q1, q2⟩ := hs.copyBk g 0 rfl hrd (reps_one k x) ty (t := ty_sl_uint8) #[false, false] (r := r) (k := 64 - k) (m := k) (c := 64 - k) (cs := 64) (o := k) hr0 (by simp only [List.length_append, reps_len]; omega)
      have e1 : putAll (reps k x ++ junk) k ((reps k x).take r) = reps (k + r) x ++ junk.drop r := by
        have := putAll_app (reps k x) junk ((reps k x).take r) (by rw [List.length_take, reps_len]; omega)
        rw [reps_len] at this
        rw [this, reps_take x (by omega), reps_add, reps_len]
      rw [e1] at q2
      exact ⟨w2, q1, q2⟩
    refine ⟨Sub.of (List.Sublist.refl _) (List.nil_sublist _), ((k + r : Nat) : Int), by rw [wrap_i64 (by omega) (by omega)]; omega, ?_⟩
    exact ⟨(k + r, junk.drop r), ⟨by show 1 ≤ k + r; omega, by show k + r ≤ 64; omega, by show 64 ≤ k + r + (junk.drop r).length; rw [List.length_drop]; omega⟩, by show 64 - (k + r) < 64 - k; omega, Ent.same ⟨rfl, rfl, rfl, rfl, trivial⟩ rfl⟩
  · have hge0 : ¬ (k : Int) < 64 := hge
    obtain rfl : k = 64 := by omega
    intro β w' hs
    exact hs.fin [0] ⟨b, junk, rfl, rfl⟩
def padN (k : List UInt8) (x : UInt8) (i : Nat) : List UInt8 := (k.take i).map (x ^^^ ·) ++ List.replicate (64 - i) x
theorem padN_len {k : List UInt8} {x : UInt8} {i : Nat} (h : i ≤ k.length) (h2 : i ≤ 64) : (padN k x i).length = 64 := by
  unfold padN
  simp only [List.length_append, List.length_map, List.length_take, List.length_replicate]
  omega
theorem padN_at {k : List UInt8} {x : UInt8} {i : Nat} (h : i < k.length) (h2 : i < 64) : (padN k x i)[i]? = some x := by
  unfold padN
  rw [List.getElem?_append_right (by simp only [List.length_map, List.length_take]; omega)]
  simp only [List.length_map, List.length_take]
  rw [List.getElem?_replicate, if_pos (by omega)]
theorem padN_set {k : List UInt8} {x y : UInt8} {i : Nat} (h : k[i]? = some y) (h2 : i < 64) : (padN k x i).set i (x ^^^ y) = padN k x (i + 1) := by
  have hi : i < k.length := (List.getElem?_eq_some_iff.1 h).1
  unfold padN
  rw [List.set_append_right _ _ (by simp only [List.length_map, List.length_take]; omega)]
  simp only [List.length_map, List.length_take]
  rw [show i - min i k.length = 0 by omega, show 64 - i = (64 - (i + 1)) + 1 by omega, List.replicate_succ, List.set_cons_zero, List.take_add_one, h]
  simp
theorem padN_all (k : List UInt8) (x : UInt8) : padN k x k.length = k.map (x ^^^ ·) ++ List.replicate (64 - k.length) x := by
  unfold padN
  rw [List.take_length]
theorem Con.real {P : Program} {k : FuncId} {args : Array Value} {w : World} {Gs : List Fact} {R : Value → List Fact → Prop} (h : Con P k args w Gs R) : Con P k args w Gs (fun v Fs => R v Fs ∧ ∃ w', Mem w' Fs) :=
  Calls.mono h fun _ w' ⟨v, he, Fs, hR, hc, hm, ho, hD⟩ => ⟨v, he, Fs, ⟨hR, w', hm⟩, hc, hm, ho, hD⟩
theorem padN_0 (k : List UInt8) (x : UInt8) : (padN k x 0).map byte = reps 64 x := by simp [padN, reps]
set_option maxHeartbeats 1000000 in
theorem pad_c (w : World) (A : Option Addr) (l : List UInt8) (c : Nat) (x : UInt8) (hr : Bs w A l) (hn : l.length ≤ 1000000) (h1 : (oddF 4).p w) (h0 : (firstF 1).p w) :
    Con Tryz.prog n_hmac_pad #[.slice A l.length c, byte x] w [] fun v Fs => ∃ b junk, v = .slice (some ⟨b, 0, none⟩) 64 64 ∧ Fs = [bkF b ty_uint8 ((padL l x).map byte ++ junk)] := by
  have g := good_hmac_pad w (Un [])
  refine con_of_sx (cx := cx_hmac_pad w (Un [])) g b_hmac_pad rfl rfl (β := Va.z) [.c (.v (.slice A l.length c)), .c (.v (byte x))] 0 [] [oldF w] rfl rfl (old_sat rfl) ?_
  refine BIf.dec (fun hlt => ?_) (fun hge => ?_)
  · have hlt0 : (64 : Int) < (l.length : Int) := hlt
    intro b0
    obtain ⟨k, hks⟩ : ∃ k, Sha.sum l = k := ⟨_, rfl⟩
    have hk : keyL l = k := by unfold keyL; rw [if_pos (by omega)]; exact hks
    have hk64 : k.length ≤ 64 := by rw [← hk]; exact keyL_len
    refine call_con [] (R := fun v Fs => (∃ A' c', v = .slice A' k.length c' ∧ Fs = [browF ty_uint8 A' k c']) ∧ ∃ w', Mem w' Fs) (fun β w' hs => ((sum1_c w' (some ⟨b0, 0, none⟩) A 1 c l (row_rd (hs.get 0 rfl)) (Rd.old hr (hs.get 1 rfl)) (by omega) (Rd.old h1 (hs.get 1 rfl)) (Rd.old h0 (hs.get 1 rfl))).mono (by rintro v Fs ⟨A', c', rfl, _, _, rfl⟩; exact ⟨A', c', by rw [← hks]; rfl, by rw [hks]⟩)).real) ?_
    rintro v Fs ⟨⟨A2, c2, rfl, rfl⟩, w9, hm9⟩
    have hkr : ∀ {w'}, (browF ty_uint8 A2 k c2).p w' → Bs w' A2 k := fun h => row_rd h
    have hka : 0 < k.length → ∃ ad, A2 = some ad := fun h => Bs.addr (hkr (hm9.fact _ List.mem_cons_self)) h
    intro b1
    refine call_con [] (fun β w' hs => repeat64_c w' (some ⟨b1, 0, none⟩) 1 x (row_rd (hs.get 0 rfl))) ?_
    rintro v Fs ⟨b, junk, rfl, rfl⟩
    refine loop_rule (ι := Nat) 0 (fun i => [(17, .c (.v (.slice A2 k.length c2))), (18, .c (.v (.int .i64 (k.length : Int)))), (19, .c (.v (.int .i64 (i : Int)))), (5, .c (.v (.slice (some ⟨b, 0, none⟩) 64 64)))]) (fun _ => []) (fun i => [bkF b ty_uint8 ((padN k x i).map byte ++ junk), browF ty_uint8 A2 k c2])
      (fun i => i ≤ k.length) (fun i => k.length - i) 0 (Nat.zero_le _) (Ent.mk' ⟨rfl, rfl, rfl, rfl, trivial⟩ rfl (fun β w' hs => by rw [padN_0]; exact hs.perm [0, 2])) g ?_
    intro i hi
    refine BIf.dec (fun hlt2 => ?_) (fun hge2 => ?_)
    · have hlt0 : (i : Int) < (k.length : Int) := hlt2
      have hik : i < k.length := by omega
      obtain ⟨y, hy, _⟩ := at_lt hik
      obtain ⟨ad, hA⟩ := hka (by omega)
      refine ⟨ad, i, hA, rfl, hik, byte y, fun β w' hs => by
        have h := hkr (hs.get 1 rfl)
        rw [hA] at h
        exact Rd.cell1 h (by rw [List.getElem?_map, hy]; rfl), ?_⟩
      refine ⟨⟨b, 0, none⟩, i, rfl, rfl, by omega, byte x, fun β w' hs => by
        have h := bk_bs (hs.get 0 rfl)
        exact Rd.cell1 h (by rw [List.getElem?_map, padN_at hik (by omega)]; rfl), _, xor8 x y, ?_⟩
      refine ⟨⟨b, 0, none⟩, i, rfl, rfl, by omega, [bkF b ty_uint8 ((padN k x (i + 1)).map byte ++ junk), browF ty_uint8 A2 k c2], fun β w' hs => ?_, ?_⟩
      · have hpl := padN_len (k := k) (x := x) (i := i) (by omega) (by omega)
        obtain ⟨w2, q1, q2⟩ := hs.bkSet 0 (o := i) (us := [byte (x ^^^ y)]) rfl (by simp only [List.length_append, List.length_map, hpl, List.length_singleton]; omega) (fun u hu => by obtain rfl := List.mem_singleton.1 hu; rfl)
        have e : putAll ((padN k x i).map byte ++ junk) i [byte (x ^^^ y)] = (padN k x (i + 1)).map byte ++ junk := by
          rw [putAll, putAll, putAt_eq, List.set_append_left _ _ (by rw [List.length_map, hpl]; omega), ← padN_set hy (by omega), List.map_set]
        rw [e] at q2
        have q1' : (storeCells ((⟨b, 0, none⟩ : Addr).add (i * 1)) [byte (x ^^^ y)] 0).run (cx_hmac_pad w (Un [])).P w' = .ok () w2 := by rw [Nat.mul_one]; exact q1
        exact ⟨w2, q1', q2⟩
      · refine ⟨((i + 1 : Nat) : Int), by rw [wrap_i64 (by omega) (by omega)]; rfl, ?_⟩
        exact ⟨i + 1, hik, by omega, Ent.same ⟨rfl, rfl, rfl, rfl, trivial⟩ rfl⟩
    · have hge0 : ¬ (i : Int) < (k.length : Int) := hge2
      obtain rfl : i = k.length := by omega
      intro β w' hs
      refine hs.fin [0] ⟨b, junk, rfl, ?_⟩
      rw [padN_all]
      unfold padL
      rw [hk]
      rfl
  · have hge0 : ¬ (64 : Int) < (l.length : Int) := hge
    obtain ⟨k, hks⟩ : ∃ k, l = k := ⟨_, rfl⟩
    have hk : keyL l = k := by unfold keyL; rw [if_neg (by omega)]; exact hks
    have hk64 : k.length ≤ 64 := by rw [← hk]; exact keyL_len
    rw [hks] at hr
    have hlk : l.length = k.length := by rw [hks]
    rw [hlk]
    have hkr : ∀ {w'}, (oldF w).p w' → Bs w' A k := fun h => Rd.old hr h
    have hka : 0 < k.length → ∃ ad, A = some ad := fun h => hr.addr h
    intro b1
    refine call_con [] (fun β w' hs => repeat64_c w' (some ⟨b1, 0, none⟩) 1 x (row_rd (hs.get 0 rfl))) ?_
    rintro v Fs ⟨b, junk, rfl, rfl⟩
    refine loop_rule (ι := Nat) 0 (fun i => [(17, .c (.v (.slice A k.length c))), (18, .c (.v (.int .i64 (k.length : Int)))), (19, .c (.v (.int .i64 (i : Int)))), (5, .c (.v (.slice (some ⟨b, 0, none⟩) 64 64)))]) (fun _ => []) (fun i => [bkF b ty_uint8 ((padN k x i).map byte ++ junk), oldF w])
      (fun i => i ≤ k.length) (fun i => k.length - i) 0 (Nat.zero_le _) (Ent.mk' ⟨rfl, rfl, rfl, rfl, trivial⟩ rfl (fun β w' hs => by rw [padN_0]; exact hs.perm [0, 2])) g ?_
    intro i hi
    refine BIf.dec (fun hlt2 => ?_) (fun hge2 => ?_)
    · have hlt0 : (i : Int) < (k.length : Int) := hlt2
      have hik : i < k.length := by omega
      obtain ⟨y, hy, _⟩ := at_lt hik
      obtain ⟨ad, hA⟩ := hka (by omega)
      refine ⟨ad, i, hA, rfl, hik, byte y, fun β w' hs => by
        have h := hkr (hs.get 1 rfl)
        rw [hA] at h
        exact Rd.cell1 h (by rw [List.getElem?_map, hy]; rfl), ?_⟩
      refine ⟨⟨b, 0, none⟩, i, rfl, rfl, by omega, byte x, fun β w' hs => by
        have h := bk_bs (hs.get 0 rfl)
        exact Rd.cell1 h (by rw [List.getElem?_map, padN_at hik (by omega)]; rfl), _, xor8 x y, ?_⟩
      refine ⟨⟨b, 0, none⟩, i, rfl, rfl, by omega, [bkF b ty_uint8 ((padN k x (i + 1)).map byte ++ junk), oldF w], fun β w' hs => ?_, ?_⟩
      · have hpl := padN_len (k := k) (x := x) (i := i) (by omega) (by omega)
        obtain ⟨w2, q1, q2⟩ := hs.bkSet 0 (o := i) (us := [byte (x ^^^ y)]) rfl (by simp only [List.length_append, List.length_map, hpl, List.length_singleton]; omega) (fun u hu => by obtain rfl := List.mem_singleton.1 hu; rfl)
        have e : putAll ((padN k x i).map byte ++ junk) i [byte (x ^^^ y)] = (padN k x (i + 1)).map byte ++ junk := by
          rw [putAll, putAll, putAt_eq, List.set_append_left _ _ (by rw [List.length_map, hpl]; omega), ← padN_set hy (by omega), List.map_set]
        rw [e] at q2
        have q1' : (storeCells ((⟨b, 0, none⟩ : Addr).add (i * 1)) [byte (x ^^^ y)] 0).run (cx_hmac_pad w (Un [])).P w' = .ok () w2 := by rw [Nat.mul_one]; exact q1
        exact ⟨w2, q1', q2⟩
      · refine ⟨((i + 1 : Nat) : Int), by rw [wrap_i64 (by omega) (by omega)]; rfl, ?_⟩
        exact ⟨i + 1, hik, by omega, Ent.same ⟨rfl, rfl, rfl, rfl, trivial⟩ rfl⟩
    · have hge0 : ¬ (i : Int) < (k.length : Int) := hge2
      obtain rfl : i = k.length := by omega
      intro β w' hs
      refine hs.fin [0] ⟨b, junk, rfl, ?_⟩
      rw [padN_all]
      unfold padL
      rw [hk]
      rfl
end Go.Proofs.YtlhcgofdfhfegaaGreatDoor.Sx

namespace Go.Proofs.YtlhcgofdfhfegaaGreatDoor.Sx
open Go
attribute [local irreducible] Calls
structure Ro where
  A : Option Addr
  c : Nat
  l : List UInt8
def Ro.v (r : Ro) : Value := .slice r.A r.l.length r.c
def Ro.f (r : Ro) : Fact := rdoF 1 r.A r.l.length (r.l.map byte)
theorem rdo_rd {size : Nat} {A : Option Addr} {k : Nat} {xs : List Value} {w : World} (h : (rdoF size A k xs).p w) : Rd size A k xs w := h
theorem browRoD {e : Nat} {A : Option Addr} {l : List UInt8} {c : Nat} {w : World} (h : (browF e A l c).p w) : ∀ k, (Ro.f ⟨A, c, l⟩).D k → (browF e A l c).D k := by
  rintro k ⟨hk, ad, q, rfl⟩
  have hl : 0 < l.length := by
    have : 0 < l.length * 1 := hk
    omega
  have q' : A = some ad := q
  rcases h.2 with ⟨he, h0⟩ | ⟨g, cap, cur, he, _⟩
  · omega
  · have hA : A = some ⟨g, 0, none⟩ := by injection he
    rw [q'] at hA
    obtain rfl := Option.some.inj hA
    show Value.ownBlock (.slice A l.length c) = _
    rw [q']
    rfl
inductive Recs (w' : World) : List Fact → List Fact → Prop
  | nil : Recs w' [] []
  | cons {f g : Fact} {Fs Gs : List Fact} (h : g.own = true ∧ (f.p w' → g.p w') ∧ ∀ k, g.D k → f.D k) (r : Recs w' Fs Gs) : Recs w' (f :: Fs) (g :: Gs)
theorem Fin.recast {w : World} {Gs : List Fact} {R R' : Value → List Fact → Prop} {v : Value} {w' : World} (h : Fin w Gs R v w')
    (hr : ∀ Fs, R v Fs → (∀ f ∈ Fs, f.p w') → ∃ Fs', R' v Fs' ∧ Recs w' Fs Fs') : Fin w Gs R' v w' := by
  obtain ⟨Fs, h1, h2, h3, h4, h5⟩ := h
  obtain ⟨Fs', q1, q2⟩ := hr Fs h1 h3.fact
  have key : ∀ {Fs Fs' : List Fact}, Recs w' Fs Fs' → Mem w' Fs → Owns Fs → Mem w' Fs' ∧ Owns Fs' ∧ ∀ g ∈ Fs', ∃ f ∈ Fs, ∀ k, g.D k → f.D k := by
    intro Fs Fs' hf
    induction hf with
    | nil => intro _ _; exact ⟨⟨fun _ q => (by cases q), fun _ q => (by cases q), List.Pairwise.nil⟩, trivial, fun _ q => (by cases q)⟩
    | @cons f g Fs Fs' hfg hrest ih =>
      intro hm ho
      obtain ⟨i1, i2, i3⟩ := ih ⟨fun x hx => hm.fact x (List.mem_cons_of_mem _ hx), fun x hx => hm.flt x (List.mem_cons_of_mem _ hx), (List.pairwise_cons.1 hm.sepf).2⟩ ho.2
      refine ⟨⟨fun x hx => ?_, fun x hx k hk => ?_, List.pairwise_cons.2 ⟨fun x hx _ k hk hk' => ?_, i1.sepf⟩⟩, ⟨hfg.1, i2⟩, fun x hx => ?_⟩
      · rcases List.mem_cons.1 hx with rfl | hx
        · exact hfg.2.1 (hm.fact f List.mem_cons_self)
        · exact i1.fact x hx
      · rcases List.mem_cons.1 hx with rfl | hx
        · exact hm.flt f List.mem_cons_self k (hfg.2.2 k hk)
        · exact i1.flt x hx k hk
      · obtain ⟨y, hy, hyd⟩ := i3 x hx
        exact (List.pairwise_cons.1 hm.sepf).1 y hy (.inl ho.1) k (hfg.2.2 k hk) (hyd k hk')
      · rcases List.mem_cons.1 hx with rfl | hx
        · exact ⟨f, List.mem_cons_self, hfg.2.2⟩
        · obtain ⟨y, hy, hyd⟩ := i3 x hx
          exact ⟨y, List.mem_cons_of_mem _ hy, hyd⟩
  obtain ⟨k1, k2, k3⟩ := key q2 h3 h4
  exact ⟨Fs', q1, h2, k1, k2, fun g hg k hk => by obtain ⟨f, hf, hfd⟩ := k3 g hg; exact h5 f hf k (hfd k hk)⟩
theorem Un.app {A B : List Fact} {k : Nat} : Un (A ++ B) k ↔ Un A k ∨ Un B k := by
  unfold Un
  constructor
  · rintro ⟨g, hg, hk⟩
    rcases List.mem_append.1 hg with h | h
    · exact .inl ⟨g, h, hk⟩
    · exact .inr ⟨g, h, hk⟩
  · rintro (⟨g, hg, hk⟩ | ⟨g, hg, hk⟩)
    · exact ⟨g, List.mem_append_left _ hg, hk⟩
    · exact ⟨g, List.mem_append_right _ hg, hk⟩
theorem Un.cons {x : Fact} {B : List Fact} {k : Nat} : Un (x :: B) k ↔ x.D k ∨ Un B k := by
  unfold Un
  constructor
  · rintro ⟨g, hg, hk⟩
    rcases List.mem_cons.1 hg with rfl | h
    · exact .inl hk
    · exact .inr ⟨g, h, hk⟩
  · rintro (hk | ⟨g, hg, hk⟩)
    · exact ⟨x, List.mem_cons_self, hk⟩
    · exact ⟨g, List.mem_cons_of_mem _ hg, hk⟩
theorem sep_mid {A B : List Fact} {x : Fact} {w : World} : (sepF (A ++ x :: B)).p w ↔ x.p w ∧ (sepF (A ++ B)).p w ∧ ∀ k, x.D k → ¬ Un (A ++ B) k := by
  show ((∀ f ∈ A ++ x :: B, f.p w) ∧ (A ++ x :: B).Pairwise _) ↔ x.p w ∧ ((∀ f ∈ A ++ B, f.p w) ∧ (A ++ B).Pairwise _) ∧ _
  rw [List.pairwise_append, List.pairwise_cons, List.pairwise_append]
  constructor
  · rintro ⟨h1, h2, ⟨h3, h4⟩, h5⟩
    refine ⟨h1 x (by simp), ⟨fun f hf => h1 f ?_, h2, h4, fun a ha b hb => h5 a ha b (List.mem_cons_of_mem _ hb)⟩, fun k hk q => ?_⟩
    · rcases List.mem_append.1 hf with h | h
      · exact List.mem_append_left _ h
      · exact List.mem_append_right _ (List.mem_cons_of_mem _ h)
    · rcases Un.app.1 q with ⟨g, hg, hk'⟩ | ⟨g, hg, hk'⟩
      · exact h5 g hg x List.mem_cons_self k hk' hk
      · exact h3 g hg k hk hk'
  · rintro ⟨h1, ⟨h2, h3, h4, h5⟩, h6⟩
    refine ⟨fun f hf => ?_, h3, ⟨fun g hg k hk hk' => h6 k hk (Un.app.2 (.inr ⟨g, hg, hk'⟩)), h4⟩, fun a ha b hb k hk hk' => ?_⟩
    · rcases List.mem_append.1 hf with h | h
      · exact h2 f (List.mem_append_left _ h)
      · rcases List.mem_cons.1 h with rfl | h
        · exact h1
        · exact h2 f (List.mem_append_right _ h)
    · rcases List.mem_cons.1 hb with rfl | hb
      · exact h6 k hk' (Un.app.2 (.inl ⟨a, ha, hk⟩))
      · exact h5 a ha b hb k hk hk'
section
variable {cx : Cx} {β : Va} {n : Nat} {H : List Bk} {F : List Fact} {w : World}
theorem Sat.blur (h : Sat cx β n H F w) (i j : Nat) {A B : List Fact} {x : Fact} (hi : nth F i = some x) (hj : nth F j = some (sepF (A ++ B))) (hx : x.own = true) (hne : i ≠ j) : Sat cx β n H (sepF (A ++ x :: B) :: dropIx [i, j] 0 F) w := by
  have h1 := h.get i hi
  have h2 := h.get j hj
  have ap := h.apart (i := i) (j := j) (by rw [← nth_eq]; exact hi) (by rw [← nth_eq]; exact hj) hne (.inl hx)
  have htk : takeIx F [i, j] = [x, sepF (A ++ B)] := by simp only [takeIx, hi, hj]
  have hin : ∀ k, Un (A ++ x :: B) k → x.D k ∨ Un (A ++ B) k := by
    intro k hk
    rcases Un.app.1 hk with hk | hk
    · exact .inr (Un.app.2 (.inl hk))
    · rcases Un.cons.1 hk with hk | hk
      · exact .inl hk
      · exact .inr (Un.app.2 (.inr hk))
  refine h.swap [i, j] (by rw [htk]; exact ⟨hx, rfl, trivial⟩) (Fs := [sepF (A ++ x :: B)]) (Chg.refl _ _) ⟨fun f hf => ?_, fun f hf k hk => ?_, List.pairwise_singleton _ _⟩ (fun f hf k hk => ?_)
  · obtain rfl := List.mem_singleton.1 hf
    exact sep_mid.2 ⟨h1, h2, ap⟩
  · obtain rfl := List.mem_singleton.1 hf
    rcases hin k hk with q | q
    · exact h.getLt i hi k q
    · exact h.getLt j hj k q
  · obtain rfl := List.mem_singleton.1 hf
    rw [htk]
    rcases hin k hk with q | q
    · exact .inl ⟨x, List.mem_cons_self, q⟩
    · exact .inl ⟨_, List.mem_cons_of_mem _ List.mem_cons_self, q⟩
end
end Go.Proofs.YtlhcgofdfhfegaaGreatDoor.Sx

namespace Go.Proofs.YtlhcgofdfhfegaaGreatDoor.Sx
open Go
attribute [local irreducible] Calls
theorem join2_c (w : World) (b : Nat) (A1 A2 : Option Addr) (l1 l2 : List UInt8) (c1 c2 : Nat) (hP : Rd 1 (some ⟨b, 0, none⟩) 2 [.slice A1 l1.length c1, .slice A2 l2.length c2] w) (h1 : Bs w A1 l1) (h2 : Bs w A2 l2) (hn : l1.length + l2.length ≤ 100000000) :
    Con Tryz.prog n_bytes_Join #[.slice (some ⟨b, 0, none⟩) 2 2, .slice none 0 0] w [] (readOut (l1 ++ l2)) := by
  have h := joinN_c w b 2 [.slice A1 l1.length c1, .slice A2 l2.length c2] [l1, l2] hP (fun i v l hv hl => by
    match i with
    | 0 => cases hv; cases hl; exact Bs.holds h1 c1
    | 1 => cases hv; cases hl; exact Bs.holds h2 c2
    | n + 2 => simp at hv) (Nat.le_refl 2) (Nat.le_refl 2) (by show 2 ≤ 1000; decide) (by simp; omega)
  have e : [l1, l2].flatten = l1 ++ l2 := by simp
  rw [e] at h
  exact h
theorem join1R_c (w : World) (P A : Option Addr) (cP c : Nat) (l : List UInt8) (hP : Rd 1 P 1 [.slice A l.length c] w) (hr : Bs w A l) (hn : l.length ≤ 100000000) :
    Con Tryz.prog n_bytes_Join #[.slice P 1 cP, .slice none 0 0] w [] (readOut l) := by
  refine Calls.mono (join1_c w P A cP c l hP hr (by omega)) ?_
  rintro e w' ⟨v, rfl, hf⟩
  refine ⟨v, rfl, hf.recast ?_⟩
  rintro Fs ⟨A', c', rfl, q1, q2, rfl⟩ hp
  exact ⟨[rdoF 1 A' l.length (l.map byte)], ⟨A', c', rfl, q1, q2, rfl⟩, .cons ⟨rfl, fun h => row_rd h, browRoD (hp _ List.mem_cons_self)⟩ .nil⟩
theorem hsum_c (w : World) (A P : Option Addr) (key text : List UInt8) (c nP cP : Nat) (hr : Bs w A key) (hk : key.length ≤ 1000000) (ht : text.length ≤ 1000000) (hj : ∀ w', (oldF w).p w' → Con Tryz.prog n_bytes_Join #[.slice P nP cP, .slice none 0 0] w' [] (readOut text)) (h1 : (oddF 4).p w) (h0 : (firstF 1).p w) :
    Con Tryz.prog n_hmac_Sum #[.slice A key.length c, .slice P nP cP] w [] fun v Fs => ∃ A' c', v = .slice A' 32 c' ∧ 32 ≤ c' ∧ c' ≤ maxLen ∧ Fs = [browF ty_uint8 A' (hmL key text) c'] := by
  have g := good_hmac_Sum w (Un [])
  refine con_of_sx (cx := cx_hmac_Sum w (Un [])) g b_hmac_Sum rfl rfl (β := Va.z) [.c (.v (.slice A key.length c)), .c (.v (.slice P nP cP))] 0 [] [oldF w] rfl rfl (old_sat rfl) ?_
  refine call_con [] (fun β w' hs => pad_c w' A key c 0x36 (Rd.old hr (hs.get 0 rfl)) hk (Rd.old h1 (hs.get 0 rfl)) (Rd.old h0 (hs.get 0 rfl))) ?_
  rintro v Fs ⟨p1, j1, rfl, rfl⟩
  refine call_con [] (fun β w' hs => hj w' (hs.get 1 rfl)) ?_
  rintro v Fs ⟨A1, c1, rfl, _, _, rfl⟩
  intro b1
  have l64 : ∀ x, (padL key x).length = 64 := padL_len key
  refine call_con [] (fun β w' hs => sumJ_c w' (some ⟨b1, 0, none⟩) 2 2 (padL key 0x36 ++ text) (fun w2 ho => by
    have q := join2_c w2 b1 (some ⟨p1, 0, none⟩) A1 (padL key 0x36) text 64 c1 (by rw [l64]; exact Rd.old (row_rd (hs.get 0 rfl)) ho) (Rd.old (bk_bs (hs.get 2 rfl)) ho) (Rd.old (rdo_rd (hs.get 1 rfl)) ho) (by rw [l64]; omega)
    exact q) (by rw [List.length_append, l64]; omega) (Rd.old h1 (hs.get 3 rfl)) (Rd.old h0 (hs.get 3 rfl))) ?_
  rintro v Fs ⟨A2, c2, rfl, _, _, rfl⟩
  refine call_con [] (fun β w' hs => pad_c w' A key c 0x5c (Rd.old hr (hs.get 4 rfl)) hk (Rd.old h1 (hs.get 4 rfl)) (Rd.old h0 (hs.get 4 rfl))) ?_
  rintro v Fs ⟨p2, j2, rfl, rfl⟩
  intro b2
  have ls : (Sha.sum (padL key 0x36 ++ text)).length = 32 := sum_len _
  refine call_con [] (fun β w' hs => sumJ_c w' (some ⟨b2, 0, none⟩) 2 2 (padL key 0x5c ++ Sha.sum (padL key 0x36 ++ text)) (fun w2 ho => by
    have q := join2_c w2 b2 (some ⟨p2, 0, none⟩) A2 (padL key 0x5c) (Sha.sum (padL key 0x36 ++ text)) 64 c2 (by rw [l64, ls]; exact Rd.old (row_rd (hs.get 0 rfl)) ho) (Rd.old (bk_bs (hs.get 1 rfl)) ho) (Rd.old (row_rd (hs.get 2 rfl)) ho) (by rw [l64, ls]; decide)
    exact q) (by rw [List.length_append, l64, ls]; decide) (Rd.old h1 (hs.get 6 rfl)) (Rd.old h0 (hs.get 6 rfl))) ?_
  rintro v Fs ⟨A3, c3, rfl, h5, h6, rfl⟩
  intro β w' hs
  exact hs.fin [0] ⟨A3, c3, rfl, h5, h6, rfl⟩
structure TA where
  k : Option Addr
  t : Option Addr
  l : Option Addr
  m : Option Addr
  kc : Nat
  tc : Nat
  lc : Nat
  mc : Nat
def ints (l : List Nat) : List Value := l.map fun (n : Nat) => Value.int .i64 (n : Int)
def termV (t : Bx.Term) (a : TA) : List Value := [.int .i64 t.kind, .slice a.k t.key.length a.kc, .slice a.t t.text.length a.tc, .int .i64 t.rounds, .slice a.l t.list.length a.lc, .slice a.m t.mask.length a.mc]
def termS (t : Bx.Term) (a : TA) : List SL := [.v (.int .i64 t.kind), .v (.slice a.k t.key.length a.kc), .v (.slice a.t t.text.length a.tc), .v (.int .i64 t.rounds), .v (.slice a.l t.list.length a.lc), .v (.slice a.m t.mask.length a.mc)]
structure TRd (t : Bx.Term) (a : TA) (w : World) : Prop where
  hk : Bs w a.k t.key
  ht : Bs w a.t t.text
  hl : Rd 1 a.l t.list.length (ints t.list) w
  hm : Bs w a.m t.mask
theorem TRd.old {t : Bx.Term} {a : TA} {W w : World} (h : TRd t a W) (ho : (oldF W).p w) : TRd t a w := ⟨Rd.old h.hk ho, Rd.old h.ht ho, Rd.old h.hl ho, Rd.old h.hm ho⟩
structure TSz (t : Bx.Term) : Prop where
  kind : t.kind < 1000
  rounds : t.rounds < 1000
  key : t.key.length ≤ 1000000
  text : t.text.length ≤ 1000000
  list : t.list.length ≤ 10000
  nums : ∀ n ∈ t.list, n < 1000000
  mask : t.mask.length ≤ 1000000
theorem vints_len : ∀ (l : List Nat), (∀ n ∈ l, n < 4611686018427387904) → (l.flatMap Bx.vint).length ≤ 9 * l.length
  | [], _ => by simp
  | a :: r, h => by
    have h1 := vint_nine (h a List.mem_cons_self)
    have h2 := vints_len r (fun n hn => h n (List.mem_cons_of_mem _ hn))
    rw [List.flatMap_cons, List.length_append, List.length_cons]
    omega
theorem flat_take {l : List Nat} {k x : Nat} (h : l[k]? = some x) : (l.take (k + 1)).flatMap Bx.vint = (l.take k).flatMap Bx.vint ++ Bx.vint x := by
  obtain ⟨hk, rfl⟩ := List.getElem?_eq_some_iff.1 h
  rw [List.take_succ_eq_append_getElem hk, List.flatMap_append, List.flatMap_singleton]
theorem ints_at {l : List Nat} {k x : Nat} (h : l[k]? = some x) : (ints l)[k]? = some (.int .i64 (x : Int)) := by
  simp [ints, h]
structure PrS where
  k : Nat
  A : Option Addr
  c : Nat
def heads5 (t : Bx.Term) : List Nat := [t.kind, t.rounds, t.key.length, t.text.length, t.list.length]
theorem print_c (w : World) (t : Bx.Term) (a : TA) (hr : TRd t a w) (hs : TSz t) : Pu Tryz.prog n_box_Term_print #[.agg (termV t a).toArray] w (.string ⟨(Bx.print t).toArray⟩) := by
  have g := good_box_Term_print w (Un [])
  have h5 : ∀ n ∈ heads5 t, n < 4611686018427387904 := by
    have := hs.kind; have := hs.rounds; have := hs.key; have := hs.text; have := hs.list
    intro n hn
    simp only [heads5, List.mem_cons, List.not_mem_nil, or_false] at hn
    rcases hn with rfl | rfl | rfl | rfl | rfl <;> omega
  have h6 : ∀ n ∈ t.list, n < 4611686018427387904 := fun n hn => by have := hs.nums n hn; omega
  refine con_of_sx (cx := cx_box_Term_print w (Un [])) g b_box_Term_print rfl rfl (β := Va.z) [.agg (termS t a)] 0 [] [oldF w] rfl rfl (old_sat rfl) ?_
  intro b5
  refine reify_rule g 1 (fun _ => [.slice none 0 0]) rfl rfl (fun _ => rfl) (fun b => ?_)
  refine loop_rule (ι := PrS) 2 (fun i => [(23, .c (.v (.slice (some ⟨b5, 0, none⟩) 5 5))), (24, .c (.v (.int .i64 5))), (25, .c (.v (.int .i64 i.k))), (1, .c (.p 0 0)), (3, .c (.v (.pointer (some ⟨b, 0, none⟩)))), (4, .fn (.func n_box_Term_print_1) [] [.v (.pointer (some ⟨b, 0, none⟩))])]) (fun _ => [⟨0, ty_box_Term, termS t a⟩])
    (fun i => varF b i.A (((heads5 t).take i.k).flatMap Bx.vint) i.c ++ [rowF ty_int 1 (.slice (some ⟨b5, 0, none⟩) 5 5) 5 (ints (heads5 t)), oldF w])
    (fun i => i.k ≤ 5) (fun i => 5 - i.k) ⟨0, none, 0⟩ (Nat.zero_le _) (Ent.mk' ⟨rfl, rfl, rfl, rfl, rfl, rfl, trivial⟩ rfl ?_) g ?_
  · intro β w' hs
    exact (hs.nilRow ty_uint8 1).perm [1, 0, 2, 3]
  rintro ⟨k, A1, c1⟩ hk
  simp only at hk
  have hb1 : (((heads5 t).take k).flatMap Bx.vint).length ≤ 45 := by
    have := vints_len ((heads5 t).take k) (fun n hn => h5 n (List.take_subset _ _ hn))
    have h7 : ((heads5 t).take k).length ≤ 5 := by rw [List.length_take]; show min k 5 ≤ 5; omega
    omega
  refine BIf.dec (fun hlt => ?_) (fun hge => ?_)
  · have hlt0 : (k : Int) < 5 := hlt
    have hkl : k < (heads5 t).length := by show k < 5; omega
    obtain ⟨x, hx, hxm⟩ := at_lt hkl
    have hu := ints_at hx
    refine ⟨⟨b5, 0, none⟩, k, rfl, rfl, by omega, _, fun β w' hs => Rd.cell1 (row_rd (hs.get 2 rfl)) hu, ?_⟩
    refine call_con [0, 1] (fun β w' hs => long7_c w' b x A1 (((heads5 t).take k).flatMap Bx.vint) c1 (h5 _ hxm) (by omega) (hs.mem.take (js := [0, 1]) rfl)) ?_
    rintro v Fs ⟨rfl, A2, c2, rfl⟩
    refine ⟨((k + 1 : Nat) : Int), by rw [wrap_i64 (by omega) (by omega)]; rfl, ?_⟩
    refine ⟨⟨k + 1, A2, c2⟩, by show k + 1 ≤ 5; omega, by show 5 - (k + 1) < 5 - k; omega, Ent.mk' ⟨rfl, rfl, rfl, rfl, rfl, rfl, trivial⟩ rfl ?_⟩
    intro β w' hs
    show Sat _ _ _ _ (varF b A2 (((heads5 t).take (k + 1)).flatMap Bx.vint) c2 ++ _) _
    rw [flat_take hx]
    exact hs
  have hge0 : ¬ (k : Int) < 5 := hge
  have hke : k = 5 := by omega
  subst hke
  have hpre : ((heads5 t).take 5).flatMap Bx.vint = (heads5 t).flatMap Bx.vint := rfl
  rw [hpre] at hb1
  refine loop_rule (ι := PrS) 2 (fun i => [(34, .c (.v (.slice a.l t.list.length a.lc))), (35, .c (.v (.int .i64 t.list.length))), (36, .c (.v (.int .i64 i.k))), (1, .c (.p 0 0)), (3, .c (.v (.pointer (some ⟨b, 0, none⟩)))), (4, .fn (.func n_box_Term_print_1) [] [.v (.pointer (some ⟨b, 0, none⟩))])]) (fun _ => [⟨0, ty_box_Term, termS t a⟩])
    (fun i => varF b i.A ((heads5 t).flatMap Bx.vint ++ (t.list.take i.k).flatMap Bx.vint) i.c ++ [oldF w])
    (fun i => i.k ≤ t.list.length) (fun i => t.list.length - i.k) ⟨0, A1, c1⟩ (Nat.zero_le _) (Ent.mk' ⟨rfl, rfl, rfl, rfl, rfl, rfl, trivial⟩ rfl ?_) g ?_
  · intro β w' hs
    have e : (heads5 t).flatMap Bx.vint ++ (t.list.take 0).flatMap Bx.vint = (heads5 t).flatMap Bx.vint := by simp
    show Sat _ _ _ _ (varF b A1 ((heads5 t).flatMap Bx.vint ++ (t.list.take 0).flatMap Bx.vint) c1 ++ _) _
    rw [e]
    exact hs.perm [0, 1, 3]
  rintro ⟨k, A2, c2⟩ hk
  simp only at hk
  have hll := hs.list
  have hb2 : ((heads5 t).flatMap Bx.vint ++ (t.list.take k).flatMap Bx.vint).length ≤ 100000 := by
    have := vints_len (t.list.take k) (fun n hn => h6 n (List.take_subset _ _ hn))
    have h7 : (t.list.take k).length ≤ t.list.length := by simp; omega
    rw [List.length_append]
    omega
  refine BIf.dec (fun hlt => ?_) (fun hge => ?_)
  · have hlt0 : (k : Int) < t.list.length := hlt
    have hkl : k < t.list.length := by omega
    obtain ⟨x, hx, hxm⟩ := at_lt hkl
    have hu := ints_at hx
    obtain ⟨ad, hA, hc⟩ := hr.hl.2 (by omega)
    have hr2 := hr.hl
    rw [hA] at hr2
    refine ⟨ad, k, hA, rfl, hkl, _, fun β w' hs => Rd.cell1 (Rd.old hr2 (hs.get 2 rfl)) hu, ?_⟩
    refine call_con [0, 1] (fun β w' hs => long7_c w' b x A2 ((heads5 t).flatMap Bx.vint ++ (t.list.take k).flatMap Bx.vint) c2 (h6 _ hxm) (by omega) (hs.mem.take (js := [0, 1]) rfl)) ?_
    rintro v Fs ⟨rfl, A3, c3, rfl⟩
    refine ⟨((k + 1 : Nat) : Int), by rw [wrap_i64 (by omega) (by omega)]; rfl, ?_⟩
    refine ⟨⟨k + 1, A3, c3⟩, by show k + 1 ≤ t.list.length; omega, by show t.list.length - (k + 1) < t.list.length - k; omega, Ent.mk' ⟨rfl, rfl, rfl, rfl, rfl, rfl, trivial⟩ rfl ?_⟩
    intro β w' hs
    show Sat _ _ _ _ (varF b A3 ((heads5 t).flatMap Bx.vint ++ (t.list.take (k + 1)).flatMap Bx.vint) c3 ++ _) _
    rw [flat_take hx, ← List.append_assoc]
    exact hs
  have hge0 : ¬ (k : Int) < t.list.length := hge
  have hke : k = t.list.length := by omega
  subst hke
  have hpre2 : (heads5 t).flatMap Bx.vint ++ (t.list.take t.list.length).flatMap Bx.vint = (heads5 t).flatMap Bx.vint ++ t.list.flatMap Bx.vint := by rw [List.take_length]
  rw [hpre2] at hb2
  rw [hpre2]
  generalize hq : (heads5 t).flatMap Bx.vint ++ t.list.flatMap Bx.vint = q at hb2 ⊢
  have hcell : ∀ (w' : World) (A : Option Addr) (l : List UInt8) (c : Nat), (bkF b ty_sl_uint8 [.slice A l.length c]).p w' → w'.cell? ⟨b, 0, none⟩ = some (.slice A l.length c) := fun w' A l c h => by
    have hb : w'.heap[b]? = some (.cells #[.slice A l.length c] ty_sl_uint8 (0, 0)) := h
    rw [cell_of_row w' b 0 _ _ _ hb]; rfl
  refine ⟨.slice A2 q.length c2, fun β w' hs => hcell _ _ _ _ (hs.get 0 rfl), ?_⟩
  intro b6
  have hkey := hs.key
  have htext := hs.text
  have hmask := hs.mask
  have hfl : [q, t.key, t.text, t.mask].flatten = Bx.print t := by
    rw [Bx.print, ← hq]
    simp [heads5]
  refine call_con [] (R := readOut (Bx.print t)) (fun β w' hs => by
    have h := joinN_c w' b6 4 [.slice A2 q.length c2, .slice a.k t.key.length a.kc, .slice a.t t.text.length a.tc, .slice a.m t.mask.length a.mc] [q, t.key, t.text, t.mask] (row_rd (hs.get 0 rfl)) (fun i v l hv hl => by
      match i, hv, hl with
      | 0, hv, hl => obtain rfl := Option.some.inj hv; obtain rfl := Option.some.inj hl; exact Bs.holds (row_rd (hs.get 2 rfl)) _
      | 1, hv, hl => obtain rfl := Option.some.inj hv; obtain rfl := Option.some.inj hl; exact Bs.holds (Rd.old hr.hk (hs.get 3 rfl)) _
      | 2, hv, hl => obtain rfl := Option.some.inj hv; obtain rfl := Option.some.inj hl; exact Bs.holds (Rd.old hr.ht (hs.get 3 rfl)) _
      | 3, hv, hl => obtain rfl := Option.some.inj hv; obtain rfl := Option.some.inj hl; exact Bs.holds (Rd.old hr.hm (hs.get 3 rfl)) _
      | n + 4, hv, hl => cases hv) (by show 2 ≤ 4; decide) (Nat.le_refl 4) (by show 4 ≤ 1000; decide) (by simp; omega)
    rw [hfl] at h
    exact h) ?_
  rintro v Fs ⟨A, c, rfl, h1, h2, rfl⟩
  refine ⟨Bx.print t, fun β w hs => hs.get 0 rfl, ?_⟩
  intro β w' hs
  exact hs.fin [] ⟨rfl, rfl⟩
theorem ints_one (l : List Nat) : ∀ u ∈ ints l, u.oneCell' = true := by
  intro u hu
  obtain ⟨x, _, rfl⟩ := List.mem_map.1 hu
  rfl
abbrev irowF (A : Option Addr) (l : List Nat) (c : Nat) : Fact := rowF ty_int 1 (.slice A l.length c) l.length (ints l)
theorem cloneI_c (w : World) (A : Option Addr) (l : List Nat) (c : Nat) (hr : Rd 1 A l.length (ints l) w) (hn : l.length ≤ 10000000000000) :
    Con Tryz.prog 147 #[.slice A l.length c] w [] fun v Fs => ∃ A' c', v = .slice A' l.length c' ∧ l.length ≤ c' ∧ c' ≤ maxLen ∧ Fs = [irowF A' l c'] := by
  refine con_of_sx (cx := cx_slices_Clone_int_int w (Un [])) (good_slices_Clone_int_int w (Un [])) b_slices_Clone_int_int rfl rfl (β := Va.z) [.c (.v (.slice A l.length c))] 0 [] [rdF 1 A l.length (ints l)] rfl rfl ((Sat.start rfl).rd (fun _ h => by cases h) hr) ?_
  refine BIf.mk (fun h => ?_) (fun h => ?_)
  · intro β w' hs
    have hA : A = none := by simpa using h
    subst hA
    have hl : l = [] := by
      cases l with
      | nil => rfl
      | cons x r => obtain ⟨ad, q, _⟩ := hr.2 (by simp); cases q
    subst hl
    exact (hs.nilRow ty_int 1).fin [0] ⟨none, 0, rfl, Nat.le_refl _, Nat.zero_le _, rfl⟩
  intro b
  refine ⟨0, 0, l.length, [], ints l, _, rfl, fun β w hs => hs.get 1 rfl, ints_one l, Nat.zero_add _, rfl, by rw [maxLen_eq]; omega, by show l.length * 8 ≤ _; omega, ?_⟩
  intro A' c' h1 h2 h3 β w' hs
  exact hs.fin [0] ⟨A', c', rfl, h1, h2, rfl⟩
def copyFs (t : Bx.Term) (a : TA) : List Fact := [browF ty_uint8 a.m t.mask a.mc, irowF a.l t.list a.lc, browF ty_uint8 a.t t.text a.tc, browF ty_uint8 a.k t.key a.kc]
theorem copyOf_c (w : World) (t : Bx.Term) (a : TA) (hr : TRd t a w) (hs : TSz t) :
    Con Tryz.prog n_box_copyOf #[.agg (termV t a).toArray] w [] fun v Fs => ∃ a', v = .agg (termV t a').toArray ∧ Fs = copyFs t a' := by
  have g := good_box_copyOf w (Un [])
  have hkey := hs.key
  have htext := hs.text
  have hmask := hs.mask
  have hlist := hs.list
  refine con_of_sx (cx := cx_box_copyOf w (Un [])) g b_box_copyOf rfl rfl (β := Va.z) [.agg (termS t a)] 0 [] [oldF w] rfl rfl (old_sat rfl) ?_
  have hS : ∀ {n : Nat} {F : List Fact}, Sub (cx_box_copyOf w (Un [])) n [⟨1, ty_box_Term, ti166.zero.map SL.v⟩, ⟨0, ty_box_Term, termS t a⟩] F [⟨0, ty_box_Term, termS t a⟩] [] := fun {n F} => Sub.of (List.sublist_cons_self _ _) (List.nil_sublist _)
  refine draw_rule g p_box_copyOf_1 (by kernel_rfl) [⟨0, ty_box_Term, termS t a⟩] [] hS ?_
  refine call_con [] (fun β w' hs => clone_c w' a.k t.key a.kc (Rd.old hr.hk (hs.get 0 rfl)) (by omega)) ?_
  rintro v Fs ⟨A1, c1, rfl, _, _, rfl⟩
  refine ⟨hS, ?_⟩
  refine call_con [] (fun β w' hs => clone_c w' a.t t.text a.tc (Rd.old hr.ht (hs.get 1 rfl)) (by omega)) ?_
  rintro v Fs ⟨A2, c2, rfl, _, _, rfl⟩
  refine ⟨hS, ?_⟩
  refine call_con [] (fun β w' hs => cloneI_c w' a.l t.list a.lc (Rd.old hr.hl (hs.get 2 rfl)) (by omega)) ?_
  rintro v Fs ⟨A3, c3, rfl, _, _, rfl⟩
  refine ⟨hS, ?_⟩
  refine call_con [] (fun β w' hs => clone_c w' a.m t.mask a.mc (Rd.old hr.hm (hs.get 3 rfl)) (by omega)) ?_
  rintro v Fs ⟨A4, c4, rfl, _, _, rfl⟩
  refine ⟨hS, ?_⟩
  intro β w' hs
  exact (hs.keepB (List.nil_sublist _)).fin [0, 1, 2, 3] ⟨⟨A1, A2, A3, A4, c1, c2, c3, c4⟩, rfl, rfl⟩ rfl rfl rfl ⟨rfl, rfl, rfl, rfl, trivial⟩
def sortN (l : List Nat) : List Nat := l.mergeSort (fun x y => decide (x ≤ y))
theorem sortN_len (l : List Nat) : (sortN l).length = l.length := by simp [sortN]
def str (l : List UInt8) : ByteArray := ⟨l.toArray⟩
theorem str_inj {l m : List UInt8} : str l = str m ↔ l = m := by
  constructor
  · intro h
    have := congrArg (fun s : ByteArray => s.data.toList) h
    simpa [str] using this
  · rintro rfl; rfl
def numV (n : Nat) : Value := .int .i64 (n : Int)
def mapL : List Bx.Term → Nat → ML
  | [], _ => []
  | t :: r, k => (str (Bx.print t), numV (k + 1)) :: mapL r (k + 1)
theorem mapL_look (t : Bx.Term) : ∀ (L : List Bx.Term) (k : Nat), mlook (mapL L k) (str (Bx.print t)) = (Bx.place t L).map fun i => numV (i + k + 1)
  | [], _ => rfl
  | x :: r, k => by
    simp only [mapL, mlook, Bx.place]
    by_cases h : x = t
    · subst h
      simp
    · have h' : ¬ str (Bx.print x) = str (Bx.print t) := fun q => h (Bx.print_inj (str_inj.1 q))
      rw [if_neg h', if_neg h, mapL_look t r (k + 1), Option.map_map]
      congr 1
      funext i
      simp only [Function.comp]
      rw [show i + (k + 1) + 1 = i + 1 + k + 1 by omega]
theorem mput_new : ∀ {l : ML} {s : ByteArray} {v : Value}, mlook l s = none → mput l s v = l ++ [(s, v)]
  | [], _, _, _ => rfl
  | (k, u) :: r, s, v, h => by
    simp only [mlook] at h
    split at h
    · cases h
    · rename_i hne
      simp only [mput, if_neg hne, List.cons_append]
      rw [mput_new h]
theorem mapL_snoc (t : Bx.Term) : ∀ (L : List Bx.Term) (k : Nat), mapL (L ++ [t]) k = mapL L k ++ [(str (Bx.print t), numV (L.length + k + 1))]
  | [], k => by simp [mapL]
  | x :: r, k => by
    simp only [List.cons_append, mapL, List.length_cons]
    rw [mapL_snoc t r (k + 1), show r.length + (k + 1) + 1 = r.length + 1 + k + 1 by omega]
def TD_ (t : Bx.Term) (a : TA) (k : Nat) : Prop := (bsF a.k t.key).D k ∨ (bsF a.t t.text).D k ∨ (rdF 1 a.l t.list.length (ints t.list)).D k ∨ (bsF a.m t.mask).D k
theorem TRd.st {t : Bx.Term} {a : TA} {w w' : World} (hs : ∀ k, TD_ t a k → w'.heap[k]? = w.heap[k]?) (h : TRd t a w) : TRd t a w' :=
  ⟨(bsF a.k t.key).st w w' (fun k hk => hs k (.inl hk)) h.hk, (bsF a.t t.text).st w w' (fun k hk => hs k (.inr (.inl hk))) h.ht, (rdF 1 a.l t.list.length (ints t.list)).st w w' (fun k hk => hs k (.inr (.inr (.inl hk)))) h.hl, (bsF a.m t.mask).st w w' (fun k hk => hs k (.inr (.inr (.inr hk)))) h.hm⟩
def trdF (t : Bx.Term) (a : TA) : Fact where
  own := false
  D := TD_ t a
  p := TRd t a
  st := fun w w' hs h => TRd.st hs h
def partsF (ts : List (Bx.Term × TA)) : Fact where
  own := true
  D := fun k => ∃ p ∈ ts, TD_ p.1 p.2 k
  p := fun w => ∀ p ∈ ts, TRd p.1 p.2 w
  st := fun w w' hs h p hp => TRd.st (fun k hk => hs k ⟨p, hp, hk⟩) (h p hp)
structure Lay where
  A : Option Addr
  c : Nat
  m : Nat
  ts : List (Bx.Term × TA)
def boxCells (B : Bx.Box) (y : Lay) : List Value := [.bool B.sym, .bool B.full, .slice y.A B.L.length y.c, .map (some y.m)]
def termsV (ts : List (Bx.Term × TA)) : List Value := ts.flatMap fun p => termV p.1 p.2
def bxFs (b : Nat) (B : Bx.Box) (y : Lay) : List Fact := [bkF b ty_box_Box (boxCells B y), rowF ty_box_Term 6 (.slice y.A B.L.length y.c) B.L.length (termsV y.ts), mapF y.m (mapL B.L 0), partsF y.ts]
def bxF (b : Nat) (B : Bx.Box) (y : Lay) : Fact := sepF (bxFs b B y)
theorem box_cell {b : Nat} {B : Bx.Box} {y : Lay} {w : World} (h : (bkF b ty_box_Box (boxCells B y)).p w) {o : Nat} {v : Value} (ho : (boxCells B y)[o]? = some v) : w.cell? ⟨b, o, none⟩ = some v := by
  have hb : w.heap[b]? = some (.cells (boxCells B y).toArray ty_box_Box (0, 0)) := h
  rw [cell_of_row w b o _ _ _ hb]
  simpa using ho
theorem bk_cell {b ty : Nat} {cs : List Value} {w : World} (h : (bkF b ty cs).p w) {o : Nat} {v : Value} (ho : cs[o]? = some v) : w.cell? ⟨b, o, none⟩ = some v := by
  have hb : w.heap[b]? = some (.cells cs.toArray ty (0, 0)) := h
  rw [cell_of_row w b o _ _ _ hb]
  simpa using ho
theorem termV_one (t : Bx.Term) (a : TA) : ∀ u ∈ termV t a, u.oneCell' = true := by
  intro u hu
  simp only [termV, List.mem_cons, List.not_mem_nil, or_false] at hu
  rcases hu with rfl | rfl | rfl | rfl | rfl | rfl <;> rfl
theorem one_mem {v : Value} (h : v.oneCell' = true) : ∀ u ∈ [v], u.oneCell' = true := fun u hu => by obtain rfl := List.mem_singleton.1 hu; exact h
def tagOut (b : Nat) (B : Bx.Box) (t : Bx.Term) (v : Value) (Fs : List Fact) : Prop :=
  ∃ A c y', v = .slice A 32 c ∧ 32 ≤ c ∧ c ≤ maxLen ∧ y'.ts.map (·.1) = (B.tag t).2.L ∧ Fs = [browF ty_uint8 A (B.tag t).1 c, bxF b (B.tag t).2 y']
theorem zero_int (w : World) : (zeroValue ty_int).run Tryz.prog w = .ok (.int .i64 0) w := by kernel_rfl
theorem tag_c (w : World) (b : Nat) (B : Bx.Box) (y : Lay) (t : Bx.Term) (a : TA) (hts : y.ts.map (·.1) = B.L) (hL : B.L.length ≤ 4096) (hs : TSz t) (hm : Mem w [bxF b B y, trdF t a]) :
    Con Tryz.prog n_box_Box_tag #[.pointer (some ⟨b, 0, none⟩), .agg (termV t a).toArray] w [bxF b B y] (tagOut b B t) := by
  have g := good_box_Box_tag w (Un [bxF b B y])
  have hs0 : Sat (cx_box_Box_tag w (Un [bxF b B y])) Va.z 0 [] [bxF b B y, trdF t a] w := hm.sat0 rfl (fun f hf ho k hk => by
    simp only [List.mem_cons, List.not_mem_nil, or_false] at hf
    rcases hf with rfl | rfl
    · exact ⟨_, List.mem_singleton.2 rfl, hk⟩
    · cases ho)
  have hs1 := hs0.unsep 0 rfl
  refine con_of_sx (cx := cx_box_Box_tag w (Un [bxF b B y])) g b_box_Box_tag rfl rfl (β := Va.z) [.c (.v (.pointer (some ⟨b, 0, none⟩))), .agg (termS t a)] 0 [] (bxFs b B y ++ [trdF t a]) rfl rfl hs1 ?_
  refine call_pu (fun β w' hs' => print_c w' t a (hs'.get 4 rfl) hs) ?_
  refine ⟨.map (some y.m), fun β w' hs' => box_cell (hs'.get 0 rfl) (o := 3) rfl, ?_⟩
  have hlook := mapL_look t B.L 0
  cases hpl : Bx.place t B.L with
  | some i =>
    rw [hpl] at hlook
    refine ⟨.int .i64 0, zero_int, mapL B.L 0, some (numV (i + 1)), fun β w' hs' => hs'.get 2 rfl, hlook, ?_⟩
    refine call_con [] (fun β w' hs' => handle_c w' (i + 1)) ?_
    rintro v Fs ⟨A1, c1, rfl, q1, q2, rfl⟩
    have htag : B.tag t = (Bx.handle (i + 1), B) := by unfold Bx.Box.tag; rw [hpl]
    intro β w' hs'
    have hs2 := (hs'.keepB (List.nil_sublist _)).sep [1, 2, 3, 4] rfl ⟨rfl, rfl, rfl, rfl, trivial⟩
    exact hs2.fin [1, 0] ⟨A1, c1, y, rfl, q1, q2, by rw [htag]; exact hts, by rw [htag]; rfl⟩
  | none =>
    rw [hpl] at hlook
    refine ⟨.int .i64 0, zero_int, mapL B.L 0, none, fun β w' hs' => hs'.get 2 rfl, hlook, ?_⟩
    refine ⟨.slice y.A B.L.length y.c, fun β w' hs' => box_cell (hs'.get 0 rfl) (o := 2) rfl, ?_⟩
    refine BIf.dec (fun hge => ?_) (fun hlt => ?_)
    · have hge0 : (4096 : Int) ≤ (B.L.length : Int) := hge
      have hge1 : 4096 ≤ B.L.length := by omega
      refine ⟨_, fun β w' hs' => hs'.bkSet 0 (o := 1) (us := [.bool true]) rfl (by show 2 ≤ 4; decide) (one_mem rfl), ?_⟩
      refine ⟨32, 32, rfl, rfl, Nat.le_refl _, by decide, by decide, ?_⟩
      intro b2
      have htag : B.tag t = (Bx.noughts, { B with full := true }) := by unfold Bx.Box.tag; rw [hpl]; simp only; rw [if_pos hge1]
      intro β w' hs'
      have hs2 := (hs'.keepB (List.nil_sublist _)).sep [1, 2, 3, 4] rfl ⟨rfl, rfl, rfl, rfl, trivial⟩
      exact hs2.fin [1, 0] ⟨some ⟨b2, 0, none⟩, 32, y, rfl, Nat.le_refl _, by decide, by rw [htag]; exact hts, by rw [htag]; rfl⟩
    · have hlt0 : ¬ (4096 : Int) ≤ (B.L.length : Int) := hlt
      have hlt1 : ¬ 4096 ≤ B.L.length := by omega
      have htag : B.tag t = (Bx.handle (B.L.length + 1), { B with L := B.L ++ [t] }) := by unfold Bx.Box.tag; rw [hpl]; simp only; rw [if_neg hlt1]
      refine draw_rule g p_box_Box_tag_8 (by kernel_rfl) [⟨0, ty_box_Term, termS t a⟩] [bkF b ty_box_Box (boxCells B y)] (subPerm [0]) ?_
      refine ⟨.slice y.A B.L.length y.c, fun β w' hs' => box_cell (hs'.get 0 rfl) (o := 2) rfl, ?_⟩
      refine call_con [] (fun β w' hs' => copyOf_c w' t a (hs'.get 4 rfl) hs) ?_
      rintro v Fs ⟨a', rfl, rfl⟩
      refine ⟨subPerm [4], ?_⟩
      intro b7
      refine ⟨subPerm [5], ?_⟩
      refine ⟨6, B.L.length, B.L.length + 1, termsV y.ts, termV t a', termsV (y.ts ++ [(t, a')]), rfl, fun β w' hs' => row_rd (hs'.get 0 rfl), termV_one t a', rfl, by simp [termsV], by rw [maxLen_eq]; omega, by show (B.L.length + 1) * 112 ≤ _; omega, ?_⟩
      intro A' c' q1 q2 q3
      refine ⟨subPerm [5], ?_⟩
      refine ⟨subPerm [5], ?_⟩
      refine ⟨_, fun β w' hs' => hs'.bkSet 5 (o := 2) (us := [.slice A' (B.L.length + 1) c']) rfl (by show 3 ≤ 4; decide) (one_mem rfl), ?_⟩
      have hbx : putAll (boxCells B y) 2 [.slice A' (B.L.length + 1) c'] = [.bool B.sym, .bool B.full, .slice A' (B.L.length + 1) c', .map (some y.m)] := rfl
      rw [hbx]
      refine draw_rule g p_box_Box_tag_9 (by kernel_rfl) [⟨0, ty_box_Term, termS t a⟩] [bkF b ty_box_Box [.bool B.sym, .bool B.full, .slice A' (B.L.length + 1) c', .map (some y.m)]] (subPerm [5]) ?_
      refine ⟨.map (some y.m), fun β w' hs' => bk_cell (hs'.get 0 rfl) (o := 3) rfl, ?_⟩
      refine ⟨.slice A' (B.L.length + 1) c', fun β w' hs' => bk_cell (hs'.get 0 rfl) (o := 2) rfl, ?_⟩
      refine ⟨_, fun _ => _, fun β w' hs' => hs'.mapPutY g 7 rfl (t := ty_map_string_int) (str (Bx.print t)) (numV (B.L.length + 1)), fun _ => ?_⟩
      refine ⟨subPerm [5], ?_⟩
      refine ⟨.slice A' (B.L.length + 1) c', fun β w' hs' => bk_cell (hs'.get 5 rfl) (o := 2) rfl, ?_⟩
      refine call_con [] (fun β w' hs' => handle_c w' (B.L.length + 1)) ?_
      rintro v Fs ⟨A9, c9, rfl, r1, r2, rfl⟩
      have hmap : mput (mapL B.L 0) (str (Bx.print t)) (numV (B.L.length + 1)) = mapL (B.L ++ [t]) 0 := by rw [mput_new hlook, mapL_snoc]
      have hbF : bxF b { B with L := B.L ++ [t] } ⟨A', c', y.m, y.ts ++ [(t, a')]⟩ = sepF [bkF b ty_box_Box [.bool B.sym, .bool B.full, .slice A' (B.L.length + 1) c', .map (some y.m)], rowF ty_box_Term 6 (.slice A' (B.L.length + 1) c') (B.L.length + 1) (termsV (y.ts ++ [(t, a')])), mapF y.m (mapL (B.L ++ [t]) 0), partsF (y.ts ++ [(t, a')])] := by
        simp [bxF, bxFs, boxCells]
      intro β w' hs'
      have hs2 := (hs'.keepB (List.nil_sublist _)).fuse [2, 3, 4, 5, 9] (partsF (y.ts ++ [(t, a')])) (fun w hm => ?_) (fun k hk => ?_) rfl ⟨rfl, rfl, rfl, rfl, rfl, trivial⟩
      · have hs3 := hs2.sep [3, 4, 5, 0] rfl ⟨rfl, rfl, rfl, rfl, trivial⟩
        refine hs3.fin [1, 0] ⟨A9, c9, ⟨A', c', y.m, y.ts ++ [(t, a')]⟩, rfl, r1, r2, ?_, ?_⟩
        · rw [htag]
          show (y.ts ++ [(t, a')]).map (·.1) = B.L ++ [t]
          rw [List.map_append, hts]
          rfl
        · rw [htag]
          show _ = [browF ty_uint8 A9 (Bx.handle (B.L.length + 1)) c9, bxF b { B with L := B.L ++ [t] } ⟨A', c', y.m, y.ts ++ [(t, a')]⟩]
          rw [hbF, ← hmap]
          rfl
      · have hm' : Mem w [browF ty_uint8 a'.m t.mask a'.mc, irowF a'.l t.list a'.lc, browF ty_uint8 a'.t t.text a'.tc, browF ty_uint8 a'.k t.key a'.kc, partsF y.ts] := hm
        intro p hp
        rcases List.mem_append.1 hp with hp | hp
        · exact hm'.fact (partsF y.ts) (by simp) p hp
        · obtain rfl := List.mem_singleton.1 hp
          exact ⟨row_rd (hm'.fact (browF ty_uint8 a'.k t.key a'.kc) (by simp)), row_rd (hm'.fact (browF ty_uint8 a'.t t.text a'.tc) (by simp)), row_rd (hm'.fact (irowF a'.l t.list a'.lc) (by simp)), row_rd (hm'.fact (browF ty_uint8 a'.m t.mask a'.mc) (by simp))⟩
      · show Un [browF ty_uint8 a'.m t.mask a'.mc, irowF a'.l t.list a'.lc, browF ty_uint8 a'.t t.text a'.tc, browF ty_uint8 a'.k t.key a'.kc, partsF y.ts] k
        obtain ⟨p, hp, hk⟩ := hk
        rcases List.mem_append.1 hp with hp | hp
        · exact ⟨partsF y.ts, by simp, p, hp, hk⟩
        · obtain rfl := List.mem_singleton.1 hp
          have hrow : ∀ {size e n c : Nat} {A : Option Addr} {xs : List Value}, (rdF size A n xs).D k → (rowF e size (.slice A n c) n xs).D k := by
            rintro size e n c A xs ⟨_, ad, rfl, rfl⟩
            rfl
          rcases hk with hk | hk | hk | hk
          · exact ⟨browF ty_uint8 a'.k t.key a'.kc, by simp, hrow hk⟩
          · exact ⟨browF ty_uint8 a'.t t.text a'.tc, by simp, hrow hk⟩
          · exact ⟨irowF a'.l t.list a'.lc, by simp, hrow hk⟩
          · exact ⟨browF ty_uint8 a'.m t.mask a'.mc, by simp, hrow hk⟩
theorem bx_bk {b : Nat} {B : Bx.Box} {y : Lay} {w : World} (h : (bxF b B y).p w) : (bkF b ty_box_Box (boxCells B y)).p w := h.1 _ (by simp [bxFs])
def hashT (l : List UInt8) : Bx.Term := ⟨1, [], l, 0, [], []⟩
theorem rd_nil (w : World) (A : Option Addr) : Rd 1 A 0 [] w := ⟨rfl, fun h => by cases h⟩
theorem or_i64 {x y : Nat} (hx : x < 36028797018963968) (hy : y < 256) : bits .or .i64 ((x * 256 : Nat) : Int) (y : Int) = ((x * 256 + y : Nat) : Int) := by
  show IntKind.i64.wrap (((BitVec.ofInt 64 ((x * 256 : Nat) : Int)) ||| (BitVec.ofInt 64 (y : Int))).toNat : Int) = _
  have h1 : (BitVec.ofInt 64 ((x * 256 : Nat) : Int)).toNat = x <<< 8 := by
    rw [BitVec.toNat_ofInt, Nat.shiftLeft_eq]
    omega
  have h2 : (BitVec.ofInt 64 (y : Int)).toNat = y := by
    rw [BitVec.toNat_ofInt]
    omega
  rw [BitVec.toNat_or, h1, h2, ← Nat.shiftLeft_add_eq_or_of_lt (by omega) x, Nat.shiftLeft_eq, wrap_i64 (by omega) (by omega)]
theorem shl_i64 {x : Nat} (hx : x < 36028797018963968) : IntKind.i64.wrap ((x : Int) * 2 ^ (min (8 : Int).toNat IntKind.i64.bits)) = ((x * 256 : Nat) : Int) := by
  have h1 : min (8 : Int).toNat IntKind.i64.bits = 8 := rfl
  rw [h1, wrap_i64 (by omega) (by omega)]
  omega
theorem xorB_len (a b : List UInt8) : (Bx.xorB a b).length = min a.length b.length := by simp [Bx.xorB]
theorem Sat.ro {cx : Cx} {β : Va} {n : Nat} {H : List Bk} {F : List Fact} {w : World} (h : Sat cx β n H F w) (j : Nat) {e : Nat} {A : Option Addr} {l : List UInt8} {c : Nat} (hj : nth F j = some (browF e A l c)) : Sat cx β n H (putAt F j (bsF A l)) w := by
  have hp := h.get j hj
  exact h.upd hj rfl (Chg.refl _ _) (row_rd hp) (fun k hk => .inl (browRoD hp k hk))
end Go.Proofs.YtlhcgofdfhfegaaGreatDoor.Sx

namespace Go.Proofs.YtlhcgofdfhfegaaGreatDoor.Sx
open Go Sha
attribute [local irreducible] Calls
def ptrB (b : Nat) : Value := .pointer (some ⟨b, 0, none⟩)
end Go.Proofs.YtlhcgofdfhfegaaGreatDoor.Sx

namespace Go.Proofs.YtlhcgofdfhfegaaGreatDoor.Sx
open Go
attribute [local irreducible] Calls
abbrev Part := Option Addr × List UInt8 × Nat
def partV (p : Part) : Value := .slice p.1 p.2.1.length p.2.2
def partsT (ps : List Part) : List UInt8 := ps.flatMap (·.2.1)
def partF (P : Option Addr) (ps : List Part) : Fact where
  own := false
  D := fun k => (rdF 1 P ps.length (ps.map partV)).D k ∨ ∃ p ∈ ps, (bsF p.1 p.2.1).D k
  p := fun w => Rd 1 P ps.length (ps.map partV) w ∧ ∀ p ∈ ps, Bs w p.1 p.2.1
  st := fun w w' hs h => ⟨(rdF 1 P ps.length (ps.map partV)).st w w' (fun k hk => hs k (.inl hk)) h.1, fun p hp => (bsF p.1 p.2.1).st w w' (fun k hk => hs k (.inr ⟨p, hp, hk⟩)) (h.2 p hp)⟩
end Go.Proofs.YtlhcgofdfhfegaaGreatDoor.Sx

namespace Go.Proofs.YtlhcgofdfhfegaaGreatDoor.Sx
open Go
attribute [local irreducible] Calls
section
variable {cx : Cx} {β : Va} {n : Nat} {H : List Bk} {F : List Fact} {w : World}
theorem Sat.subN (h : Sat cx β n H F w) (js : List Nat) (hno : ∀ f ∈ takeIx F js, f.own = false) (g : Fact) (hgo : g.own = false) (hp : g.p w) (hD : ∀ k, g.D k → Un (takeIx F js) k) : Sat cx β n H (g :: F) w := by
  have hin : ∀ k, g.D k → ∃ (i : Nat) (f : Fact), F[i]? = some f ∧ f.own = false ∧ f.D k := fun k hk => by
    obtain ⟨f, hf, hfk⟩ := hD k hk
    obtain ⟨i, _, hi⟩ := takeIx_mem hf
    exact ⟨i, f, hi, hno f hf, hfk⟩
  refine h.old g hp (fun k hk => ?_) (fun b hb q => ?_) (fun q => by rw [hgo] at q; cases q) (fun g' hg' ho k hk hk' => ?_) (fun p hpp q => ?_)
  · obtain ⟨i, f, hi, _, hfk⟩ := hin k hk
    exact h.flt f (List.mem_of_getElem? hi) k hfk
  · obtain ⟨i, f, hi, _, hfk⟩ := hin _ q
    exact h.sepb f (List.mem_of_getElem? hi) b hb hfk
  · have ho' : g'.own = true := ho.resolve_left (by rw [hgo]; decide)
    obtain ⟨i, f, hi, hfo, hfk⟩ := hin k hk
    obtain ⟨j, hj⟩ := List.getElem?_of_mem hg'
    have hne : j ≠ i := fun q => by subst q; rw [hj] at hi; obtain rfl := Option.some.inj hi; rw [hfo] at ho'; cases ho'
    exact h.apart hj hi hne (.inl ho') k hk' hfk
  · obtain ⟨i, f, hi, _, hfk⟩ := hin _ q
    exact (h.pin p hpp).2.2 f (List.mem_of_getElem? hi) hfk
theorem rowD {e size : Nat} {A : Option Addr} {k c : Nat} {xs : List Value} {w : World} (h : (rowF e size (.slice A k c) k xs).p w) : ∀ b, (rdF size A k xs).D b → (rowF e size (.slice A k c) k xs).D b := by
  rintro b ⟨h0, ad, q, rfl⟩
  have hk : 0 < k := Nat.pos_of_ne_zero (fun q => by rw [q, Nat.zero_mul] at h0; exact Nat.lt_irrefl _ h0)
  rcases h.2 with ⟨he, h0⟩ | ⟨g, cap, cur, he, _⟩
  · omega
  · have hA : A = some ⟨g, 0, none⟩ := by injection he
    rw [q] at hA
    obtain rfl := Option.some.inj hA
    show Value.ownBlock (.slice A k c) = _
    rw [q]
    rfl
theorem Sat.rowRd (h : Sat cx β n H F w) (j : Nat) {e size : Nat} {A : Option Addr} {k c : Nat} {xs : List Value} (hj : nth F j = some (rowF e size (.slice A k c) k xs)) : Sat cx β n H (putAt F j (rdF size A k xs)) w := by
  have hp := h.get j hj
  exact h.upd hj rfl (Chg.refl _ _) (row_rd hp) (fun b hb => .inl (rowD hp b hb))
theorem Sat.part1 {P A : Option Addr} {l : List UInt8} {c : Nat} (h : Sat cx β n H F w) (js : List Nat) (hj : takeIx F js = [rdF 1 P 1 [.slice A l.length c], bsF A l]) : Sat cx β n H (partF P [(A, l, c)] :: F) w := by
  have hP : Rd 1 P 1 [.slice A l.length c] w := h.fact _ (by
    have : rdF 1 P 1 [.slice A l.length c] ∈ takeIx F js := by rw [hj]; simp
    obtain ⟨i, _, hi⟩ := takeIx_mem this
    exact List.mem_of_getElem? hi)
  have hA : Bs w A l := h.fact (bsF A l) (by
    have : bsF A l ∈ takeIx F js := by rw [hj]; simp
    obtain ⟨i, _, hi⟩ := takeIx_mem this
    exact List.mem_of_getElem? hi)
  refine h.subN js (fun f hf => ?_) _ rfl ⟨hP, fun p hp => ?_⟩ (fun k hk => ?_)
  · rw [hj] at hf
    simp only [List.mem_cons, List.not_mem_nil, or_false] at hf
    rcases hf with rfl | rfl <;> rfl
  · obtain rfl := List.mem_singleton.1 hp; exact hA
  · rw [hj]
    rcases hk with hk | ⟨p, hp, hk⟩
    · exact ⟨_, List.mem_cons_self, hk⟩
    · obtain rfl := List.mem_singleton.1 hp
      exact ⟨_, List.mem_cons_of_mem _ List.mem_cons_self, hk⟩
theorem Sat.part2 {P A B : Option Addr} {l m : List UInt8} {c d : Nat} (h : Sat cx β n H F w) (js : List Nat) (hj : takeIx F js = [rdF 1 P 2 [.slice A l.length c, .slice B m.length d], bsF A l, bsF B m]) : Sat cx β n H (partF P [(A, l, c), (B, m, d)] :: F) w := by
  have get : ∀ f ∈ takeIx F js, f.p w := fun f hf => by obtain ⟨i, _, hi⟩ := takeIx_mem hf; exact h.fact f (List.mem_of_getElem? hi)
  have hP : Rd 1 P 2 [.slice A l.length c, .slice B m.length d] w := get (rdF 1 P 2 [.slice A l.length c, .slice B m.length d]) (by rw [hj]; simp)
  have hA : Bs w A l := get (bsF A l) (by rw [hj]; simp)
  have hB : Bs w B m := get (bsF B m) (by rw [hj]; simp)
  refine h.subN js (fun f hf => ?_) _ rfl ⟨hP, fun p hp => ?_⟩ (fun k hk => ?_)
  · rw [hj] at hf
    simp only [List.mem_cons, List.not_mem_nil, or_false] at hf
    rcases hf with rfl | rfl | rfl <;> rfl
  · simp only [List.mem_cons, List.not_mem_nil, or_false] at hp
    rcases hp with rfl | rfl
    · exact hA
    · exact hB
  · rw [hj]
    rcases hk with hk | ⟨p, hp, hk⟩
    · exact ⟨_, List.mem_cons_self, hk⟩
    · simp only [List.mem_cons, List.not_mem_nil, or_false] at hp
      rcases hp with rfl | rfl
      · exact ⟨bsF A l, by simp, hk⟩
      · exact ⟨bsF B m, by simp, hk⟩
end
end Go.Proofs.YtlhcgofdfhfegaaGreatDoor.Sx

namespace Go.Proofs.YtlhcgofdfhfegaaGreatDoor.Sx
open Go
attribute [local irreducible] Calls
def notIn (l m : List Nat) : List Nat := l.filter fun x => !decide (x ∈ m)
structure OkS (l : List Nat) (m : List UInt8) : Prop where
  len : l.length ≤ 4096
  nums : ∀ n ∈ l, n ≤ 4096
  mask : m.length = 32
def mixL (l1 l2 : List Nat) : List Nat := sortN (notIn l1 l2 ++ notIn l2 l1)
def turnT (L : List Nat) (M : List UInt8) : Bx.Term := ⟨4, [], [], 0, L, M⟩
end Go.Proofs.YtlhcgofdfhfegaaGreatDoor.Sx

namespace Go.Proofs.YtlhcgofdfhfegaaGreatDoor.Sx
open Go
def tA : Bx.Term := hashT [97]
def tB : Bx.Term := hashT [98]
def tC : Bx.Term := turnT [1, 2] Bx.noughts
def B0 : Bx.Box := ⟨true, false, []⟩
def B1 : Bx.Box := ⟨true, false, [tA]⟩
def B2 : Bx.Box := ⟨true, false, [tA, tB]⟩
def B3 : Bx.Box := ⟨true, false, [tA, tB, tC]⟩
theorem opens_h {B : Bx.Box} {n : Nat} {t : Bx.Term} (hs : B.sym = true) (hn : n < 4294967296) (h0 : 1 ≤ n) (hl : n ≤ B.L.length) (ht : B.L[n - 1]? = some t) : B.opens (Bx.handle n) = if t.kind = 4 then some (t.list, t.mask) else some ([n], Bx.noughts) :=
  Bx.opens_in (Bx.handle_len n) hs (List.take_left' Bx.front_len) (by rw [show (Bx.handle n).drop 28 = Bx.be4 n from List.drop_left' Bx.front_len, Bx.num_be4 hn]) (by omega) ht
end Go.Proofs.YtlhcgofdfhfegaaGreatDoor.Sx

namespace Go.Proofs.YtlhcgofdfhfegaaGreatDoor.Sx
open Go
attribute [local irreducible] Calls
theorem newX_c (w : World) (sym : Bool) : Con Tryz.prog n_box_New #[.bool sym] w [] fun v Fs => ∃ b y, v = .pointer (some ⟨b, 0, none⟩) ∧ y.ts = [] ∧ Fs = [bxF b ⟨sym, false, []⟩ y] := by
  refine con_of_sx (cx := cx_box_New w (Un [])) (good_box_New w (Un [])) b_box_New rfl rfl (β := Va.z) [.c (.v (.bool sym))] 0 [] [] rfl rfl (Sat.start rfl) ?_
  intro m
  intro β w' hs
  have h2 := (hs.ofBk.nilRow ty_box_Term 6).noMem (partsF []) (fun _ h => (by cases h)) (fun k hk => by obtain ⟨p, hp, _⟩ := hk; cases hp)
  exact (h2.sep [2, 1, 3, 0] rfl ⟨rfl, rfl, rfl, rfl, trivial⟩).fin [0] ⟨_, ⟨none, 0, m, []⟩, rfl, rfl, rfl⟩
def macT (k t : List UInt8) : Bx.Term := ⟨2, k, t, 0, [], []⟩
noncomputable def macB (B : Bx.Box) (k t : List UInt8) : List UInt8 × Bx.Box := if B.sym then B.tag (macT k t) else (hmL k t, B)
def boxOut (b : Nat) (r : List UInt8 × Bx.Box) (v : Value) (Fs : List Fact) : Prop :=
  ∃ A c y', v = .slice A 32 c ∧ 32 ≤ c ∧ c ≤ maxLen ∧ y'.ts.map (·.1) = r.2.L ∧ Fs = [browF ty_uint8 A r.1 c, bxF b r.2 y']
theorem Sat.unown {cx : Cx} {β : Va} {n : Nat} {H : List Bk} {F : List Fact} {w : World} (h : Sat cx β n H F w) (j : Nat) {size : Nat} {A : Option Addr} {k : Nat} {xs : List Value} (hj : nth F j = some (rdoF size A k xs)) : Sat cx β n H (putAt F j (rdF size A k xs)) w :=
  h.upd hj rfl (Chg.refl _ _) (show (rdF size A k xs).p w from rdo_rd (h.get j hj)) (fun _ hk => .inl hk)
theorem Sat.trd {cx : Cx} {β : Va} {n : Nat} {H : List Bk} {F : List Fact} {w : World} (h : Sat cx β n H F w) (js : List Nat) (t : Bx.Term) (a : TA) (hl : t.list = []) (hm : t.mask = []) (hj : takeIx F js = [bsF a.k t.key, bsF a.t t.text]) : Sat cx β n H (trdF t a :: F) w := by
  have get : ∀ f ∈ takeIx F js, f.p w := fun f hf => by obtain ⟨i, _, hi⟩ := takeIx_mem hf; exact h.fact f (List.mem_of_getElem? hi)
  refine h.subN js (fun f hf => ?_) _ rfl ⟨get (bsF a.k t.key) (by rw [hj]; simp), get (bsF a.t t.text) (by rw [hj]; simp), by rw [hl]; exact rd_nil w a.l, by rw [hm]; exact Bs.nil w a.m⟩ (fun k hk => ?_)
  · rw [hj] at hf
    simp only [List.mem_cons, List.not_mem_nil, or_false] at hf
    rcases hf with rfl | rfl <;> rfl
  · rw [hj]
    rcases hk with hk | hk | hk | hk
    · exact ⟨_, List.mem_cons_self, hk⟩
    · exact ⟨bsF a.t t.text, by simp, hk⟩
    · rw [hl] at hk
      exact absurd hk.1 (by simp)
    · rw [hm] at hk
      exact absurd hk.1 (by simp)
theorem parts_len {ps : List Part} : (ps.map (·.2.1)).flatten = partsT ps := by
  unfold partsT
  rw [List.flatMap_def]
theorem joinP_c (w : World) (b0 : Nat) (ps : List Part) (cP : Nat) (h : (partF (some ⟨b0, 0, none⟩) ps).p w) (h0 : ps ≠ []) (hc : ps.length ≤ cP) (hl : ps.length ≤ 1000) (hn : (partsT ps).length ≤ 1000000) :
    Con Tryz.prog n_bytes_Join #[.slice (some ⟨b0, 0, none⟩) ps.length cP, .slice none 0 0] w [] (readOut (partsT ps)) := by
  match ps with
  | [] => exact absurd rfl h0
  | [p] =>
    have e : partsT [p] = p.2.1 := by simp [partsT]
    rw [e] at hn ⊢
    exact join1R_c w (some ⟨b0, 0, none⟩) p.1 cP p.2.2 p.2.1 h.1 (h.2 p List.mem_cons_self) (by omega)
  | p :: q :: r =>
    have k := joinN_c w b0 cP ((p :: q :: r).map partV) ((p :: q :: r).map (·.2.1)) (by rw [List.length_map]; exact h.1) (fun i v l hv hl => by
      rw [List.getElem?_map] at hv hl
      obtain ⟨x, hx, rfl⟩ := Option.map_eq_some_iff.1 hv
      obtain ⟨x', hx', rfl⟩ := Option.map_eq_some_iff.1 hl
      rw [hx] at hx'
      obtain rfl := Option.some.inj hx'
      exact Bs.holds (h.2 x (List.mem_of_getElem? hx)) x.2.2) (by simp) (by rw [List.length_map]; exact hc) (by rw [List.length_map]; exact hl) (by rw [parts_len]; omega)
    rw [List.length_map, parts_len] at k
    exact k
theorem partOld {P : Option Addr} {ps : List Part} {W w : World} (h : (partF P ps).p W) (ho : (oldF W).p w) : (partF P ps).p w := ⟨Rd.old h.1 ho, fun p hp => Rd.old (h.2 p hp) ho⟩
theorem macT_sz {k t : List UInt8} (hk : k.length ≤ 1000000) (hl : t.length ≤ 1000000) : TSz (macT k t) := ⟨by show 2 < 1000; decide, by show 0 < 1000; decide, hk, hl, Nat.zero_le _, fun _ h => (by cases h), Nat.zero_le _⟩
theorem macP_c (w : World) (b : Nat) (B : Bx.Box) (y : Lay) (K : Option Addr) (key : List UInt8) (cK : Nat) (b0 : Nat) (ps : List Part) (cP : Nat) (hts : y.ts.map (·.1) = B.L) (hL : B.L.length ≤ 4096) (hk : key.length ≤ 1000000) (h0 : ps ≠ []) (hc : ps.length ≤ cP) (hl : ps.length ≤ 1000) (hn : (partsT ps).length ≤ 1000000) (hm : Mem w [bxF b B y, partF (some ⟨b0, 0, none⟩) ps, bsF K key, oddF 4, firstF 1]) :
    Con Tryz.prog n_box_Box_Mac #[ptrB b, .slice K key.length cK, .slice (some ⟨b0, 0, none⟩) ps.length cP] w [bxF b B y] (boxOut b (macB B key (partsT ps))) := by
  have g := good_box_Box_Mac w (Un [bxF b B y])
  have hs0 : Sat (cx_box_Box_Mac w (Un [bxF b B y])) Va.z 0 [] [bxF b B y, partF (some ⟨b0, 0, none⟩) ps, bsF K key, oddF 4, firstF 1] w := hm.sat0 rfl (ownIn (Gs := [bxF b B y]) (fun f hf => by
    simp only [List.mem_cons, List.not_mem_nil, or_false] at hf
    rcases hf with rfl | rfl | rfl | rfl <;> rfl))
  refine con_of_sx (cx := cx_box_Box_Mac w (Un [bxF b B y])) g b_box_Box_Mac rfl rfl (β := Va.z) [.c (.v (ptrB b)), .c (.v (.slice K key.length cK)), .c (.v (.slice (some ⟨b0, 0, none⟩) ps.length cP))] 0 [] [bxF b B y, partF (some ⟨b0, 0, none⟩) ps, bsF K key, oddF 4, firstF 1] rfl rfl hs0 ?_
  cases hsym : B.sym with
  | true =>
    refine ⟨.bool true, fun β w' hs => box_cell (bx_bk (hs.get 0 rfl)) (o := 0) (by simp [boxCells, hsym]), ?_⟩
    refine call_con [] (fun β w' hs => joinP_c w' b0 ps cP (hs.get 1 rfl) h0 hc hl hn) ?_
    rintro v Fs ⟨A1, c1, rfl, q1, q2, rfl⟩
    refine call_con [1] (R := boxOut b (B.tag (macT key (partsT ps)))) (fun β w' hs => by
      have k2 := (hs.unown 0 rfl).trd [3, 0] (macT key (partsT ps)) ⟨K, A1, none, none, cK, c1, 0, 0⟩ rfl rfl rfl
      exact tag_c w' b B y (macT key (partsT ps)) ⟨K, A1, none, none, cK, c1, 0, 0⟩ hts hL (macT_sz hk hn) (k2.mem.take (js := [2, 0]) rfl)) ?_
    rintro v Fs ⟨A2, c2, y2, rfl, r1, r2, r3, rfl⟩
    intro β w' hs
    have e : macB B key (partsT ps) = B.tag (macT key (partsT ps)) := by unfold macB; rw [hsym]; rfl
    rw [e]
    exact hs.fin [0, 1] ⟨A2, c2, y2, rfl, r1, r2, r3, rfl⟩
  | false =>
    refine ⟨.bool false, fun β w' hs => box_cell (bx_bk (hs.get 0 rfl)) (o := 0) (by simp [boxCells, hsym]), ?_⟩
    refine call_con [] (fun β w' hs => hsum_c w' K (some ⟨b0, 0, none⟩) key (partsT ps) cK ps.length cP (hs.get 2 rfl) hk hn (fun w2 ho => joinP_c w2 b0 ps cP (partOld (hs.get 1 rfl) ho) h0 hc hl hn) (hs.get 3 rfl) (hs.get 4 rfl)) ?_
    rintro v Fs ⟨A2, c2, rfl, r1, r2, rfl⟩
    intro β w' hs
    have e : macB B key (partsT ps) = (hmL key (partsT ps), B) := by unfold macB; rw [hsym]; rfl
    rw [e]
    exact hs.fin [0, 1] ⟨A2, c2, y, rfl, r1, r2, hts, rfl⟩
def symL (l1 l2 : List Nat) (k : Nat) : List Nat := (List.range' 1 k).filter fun n => decide (n ∈ l1) != decide (n ∈ l2)
theorem symL_len (l1 l2 : List Nat) (k : Nat) : (symL l1 l2 k).length ≤ k := by
  have h := List.length_filter_le (fun n => decide (n ∈ l1) != decide (n ∈ l2)) (List.range' 1 k)
  rw [List.length_range'] at h
  exact h
theorem symL_mix {l1 l2 : List Nat} {N : Nat} (d1 : l1.Nodup) (d2 : l2.Nodup) (h1 : ∀ n ∈ l1, 1 ≤ n ∧ n ≤ N) (h2 : ∀ n ∈ l2, 1 ≤ n ∧ n ≤ N) : symL l1 l2 N = mixL l1 l2 := by
  have hp : (symL l1 l2 N).Perm (notIn l1 l2 ++ notIn l2 l1) := by
    refine (List.perm_ext_iff_of_nodup ?_ ?_).2 (fun n => ?_)
    · exact List.Nodup.sublist List.filter_sublist (List.nodup_range' 1)
    · refine List.nodup_append.2 ⟨List.Nodup.sublist List.filter_sublist d1, List.Nodup.sublist List.filter_sublist d2, ?_⟩
      intro x hx y hy q
      subst q
      have a := (List.mem_filter.1 hx).2
      have b := (List.mem_filter.1 hy).1
      simp [b] at a
    · simp only [symL, notIn, List.mem_filter, List.mem_append, List.mem_range'_1]
      have k1 := h1 n
      have k2 := h2 n
      by_cases a : n ∈ l1 <;> by_cases b : n ∈ l2 <;> simp [a, b]
      · have := k1 a; omega
      · have := k2 b; omega
  have hs : (mixL l1 l2).Perm (notIn l1 l2 ++ notIn l2 l1) := List.mergeSort_perm _ _
  refine List.Perm.eq_of_pairwise (le := fun a b => a ≤ b) (fun a b _ _ p q => Nat.le_antisymm p q) ?_ ?_ (hp.trans hs.symm)
  · exact ((List.pairwise_lt_range' 1).sublist List.filter_sublist).imp (fun h => Nat.le_of_lt h)
  · have h := List.pairwise_mergeSort (le := fun x y : Nat => decide (x ≤ y)) (by simp only [decide_eq_true_eq]; omega) (by simp only [Bool.or_eq_true, decide_eq_true_eq]; omega) (notIn l1 l2 ++ notIn l2 l1)
    exact h.imp (fun h => of_decide_eq_true h)
theorem Con.grow {P : Program} {k : FuncId} {args : Array Value} {w : World} {Gs Gs' : List Fact} {R : Value → List Fact → Prop} (hsub : ∀ k, Un Gs k → Un Gs' k) (h : Con P k args w Gs R) : Con P k args w Gs' R :=
  Calls.mono h fun _ _ ⟨v, he, Fs, hR, hc, hm, ho, hD⟩ => ⟨v, he, Fs, hR, hc.mono (fun i _ => hsub i), hm, ho, fun f hf k hk => (hD f hf k hk).imp_left (hsub k)⟩
def OkN (B : Bx.Box) (l : List Nat) (m : List UInt8) : Prop := OkS l m ∧ l.Nodup ∧ ∀ n ∈ l, 1 ≤ n ∧ n ≤ B.L.length
structure Nf (B : Bx.Box) (l : List Nat) (m : List UInt8) : Prop where
  mask : m.length = 32
  sorted : l.Pairwise (· < ·)
  nums : ∀ n ∈ l, 1 ≤ n ∧ n ≤ B.L.length
  base : ∀ n ∈ l, ∀ u, B.L[n - 1]? = some u → u.kind ≠ 4
structure K4 (B : Bx.Box) (t : Bx.Term) : Prop where
  nf : Nf B t.list t.mask
  form : t = turnT t.list t.mask
  one : ¬ (t.list.length = 1 ∧ t.mask = Bx.noughts)
  raw : ¬ (t.list = [] ∧ ¬ t.mask.take 28 = Bx.front)
structure BInv (B : Bx.Box) : Prop where
  sz : ∀ t ∈ B.L, TSz t
  nodup : B.L.Nodup
  k4 : ∀ t ∈ B.L, t.kind = 4 → K4 B t
  plain : B.sym = false → B.L = []
  len : B.L.length ≤ 4096
structure Ext (B B' : Bx.Box) : Prop where
  sym : B'.sym = B.sym
  full : B'.full = B.full
  len : B'.L.length ≤ B.L.length + 1
  inv : BInv B'
  mono : ∀ h r, B.opens h = some r → B'.opens h = some r
theorem Ext.refl {B : Bx.Box} (h : BInv B) : Ext B B := ⟨rfl, rfl, Nat.le_succ _, h, fun _ _ h => h⟩
theorem Nf.grow {B : Bx.Box} {l : List Nat} {m : List UInt8} (t : Bx.Term) (h : Nf B l m) : Nf { B with L := B.L ++ [t] } l m := by
  refine ⟨h.mask, h.sorted, fun n hn => ?_, fun n hn u hu => ?_⟩
  · have := h.nums n hn
    simp only [List.length_append, List.length_cons, List.length_nil]
    omega
  · have := h.nums n hn
    refine h.base n hn u ?_
    simp only at hu
    rw [List.getElem?_append_left (by omega)] at hu
    exact hu
theorem Nf.ok {B : Bx.Box} {l : List Nat} {m : List UInt8} (hi : BInv B) (h : Nf B l m) : OkN B l m := by
  have hnd : l.Nodup := h.sorted.imp (fun q => Nat.ne_of_lt q)
  refine ⟨⟨?_, fun n hn => ?_, h.mask⟩, hnd, h.nums⟩
  · have e := symL_mix (l2 := []) hnd List.nodup_nil h.nums (fun n hn => (by cases hn))
    have e2 : (mixL l []).length = l.length := by
      rw [mixL, sortN_len]
      have e3 : notIn l [] = l := List.filter_eq_self.2 (fun a _ => by simp)
      rw [e3]
      simp [notIn]
    have := symL_len l [] B.L.length
    rw [e, e2] at this
    have := hi.len
    omega
  · have := h.nums n hn
    have := hi.len
    omega
theorem opens_grow {B : Bx.Box} {t : Bx.Term} {h : List UInt8} {r : List Nat × List UInt8} (h0 : B.opens h = some r) : ({ B with L := B.L ++ [t] } : Bx.Box).opens h = some r := by
  unfold Bx.Box.opens at h0 ⊢
  split at h0
  · rename_i h32
    rw [if_pos h32]
    split at h0
    · rename_i hs
      rw [if_pos hs]
      split at h0
      · cases h0
      · rename_i hn
        have hn' : ¬ (Bx.num (h.drop 28) < 1 ∨ (B.L ++ [t]).length < Bx.num (h.drop 28)) := by
          rw [List.length_append]
          omega
        rw [if_neg hn']
        simp only
        rw [List.getElem?_append_left (by omega)]
        exact h0
    · rename_i hs
      rw [if_neg hs]
      exact h0
  · cases h0
theorem K4.grow {B : Bx.Box} {t : Bx.Term} (u : Bx.Term) (h : K4 B t) : K4 { B with L := B.L ++ [u] } t := ⟨h.nf.grow u, h.form, h.one, h.raw⟩
theorem tag_ext {B : Bx.Box} (hi : BInv B) (hs : B.sym = true) (hl : B.L.length < 4096) {t : Bx.Term} (hz : TSz t) (h4 : t.kind = 4 → K4 B t) : Ext B (B.tag t).2 ∧ ∃ k, (B.tag t).1 = Bx.handle (k + 1) ∧ (B.tag t).2.L[k]? = some t := by
  unfold Bx.Box.tag
  cases hp : Bx.place t B.L with
  | some i => exact ⟨Ext.refl hi, i, rfl, Bx.place_some hp⟩
  | none =>
    simp only
    rw [if_neg (by omega)]
    refine ⟨⟨rfl, rfl, by simp, ⟨fun u hu => ?_, ?_, fun u hu hk => ?_, fun q => ?_, ?_⟩, fun h r q => opens_grow q⟩, B.L.length, rfl, by simp⟩
    · rcases List.mem_append.1 hu with hu | hu
      · exact hi.sz u hu
      · obtain rfl := List.mem_singleton.1 hu
        exact hz
    · refine List.nodup_append.2 ⟨hi.nodup, List.nodup_cons.2 ⟨fun q => (by cases q), List.nodup_nil⟩, fun a ha b hb q => ?_⟩
      obtain rfl := List.mem_singleton.1 hb
      exact Bx.place_none hp (q ▸ ha)
    · rcases List.mem_append.1 hu with hu | hu
      · exact (hi.k4 u hu hk).grow t
      · obtain rfl := List.mem_singleton.1 hu
        exact (h4 hk).grow u
    · rw [show ({ B with L := B.L ++ [t] } : Bx.Box).sym = B.sym from rfl, hs] at q
      cases q
    · simp only [List.length_append, List.length_cons, List.length_nil]
      omega
theorem mem_mix {l1 l2 : List Nat} {n : Nat} (h : n ∈ mixL l1 l2) : n ∈ l1 ∨ n ∈ l2 := by
  have h3 : n ∈ notIn l1 l2 ++ notIn l2 l1 := (List.mergeSort_perm _ _).mem_iff.1 h
  rcases List.mem_append.1 h3 with q | q
  · exact .inl (List.mem_filter.1 q).1
  · exact .inr (List.mem_filter.1 q).1
theorem Nf.mix {B : Bx.Box} {l1 l2 : List Nat} {m1 m2 : List UInt8} (h1 : Nf B l1 m1) (h2 : Nf B l2 m2) : Nf B (mixL l1 l2) (Bx.xorB m1 m2) := by
  have d1 : l1.Nodup := h1.sorted.imp (fun q => Nat.ne_of_lt q)
  have d2 : l2.Nodup := h2.sorted.imp (fun q => Nat.ne_of_lt q)
  refine ⟨by rw [xorB_len, h1.mask, h2.mask]; exact Nat.min_self _, ?_, fun n hn => ?_, fun n hn => ?_⟩
  · rw [← symL_mix d1 d2 h1.nums h2.nums]
    exact (List.pairwise_lt_range' 1).sublist List.filter_sublist
  · rcases mem_mix hn with q | q
    · exact h1.nums n q
    · exact h2.nums n q
  · rcases mem_mix hn with q | q
    · exact h1.base n q
    · exact h2.base n q
theorem len_cons {l : List Value} {n : Nat} (h : l.length = n + 1) : ∃ a r, l = a :: r ∧ r.length = n := by
  cases l with
  | nil => cases h
  | cons a r => exact ⟨a, r, rfl, by simpa using h⟩
theorem cutC (w : World) (A : Option Addr) (l : List UInt8) (c k : Nat) (hr : Bs w A l) (hc : l.length ≤ c) (hn : k ≤ lim) :
    Con Tryz.prog n_ostiaryref01_Cut #[.slice A l.length c, .int .i64 k] w [] fun v Fs => ∃ A' c', v = .slice A' (l.take k).length c' ∧ (l.take k).length ≤ c' ∧ c' ≤ maxLen ∧ Fs = [browF ty_uint8 A' (l.take k) c'] := con_row (cut_c w A l c k hr hc hn)
theorem cut_D {A : Option Addr} {l m : List UInt8} {c i k : Nat} (hm : m.length ≤ l.length) (h : (bsF (cutA A c i 1) m).D k) : (bsF A l).D k := by
  obtain ⟨h0, ad, hA, rfl⟩ := h
  have h0' : 0 < m.length * 1 := h0
  unfold cutA at hA
  split at hA
  · exact ⟨by show 0 < l.length * 1; omega, ad, hA, rfl⟩
  · cases A with
    | none => cases hA
    | some a =>
      have hA' : a.add (i * 1) = ad := by simpa using hA
      exact ⟨by show 0 < l.length * 1; omega, a, rfl, by rw [← hA']; unfold Addr.add; split <;> rfl⟩
def GoodT (B : Bx.Box) (r : List UInt8 × Bx.Box) : Prop := Ext B r.2 ∧ r.1.length = 32 ∧ ∃ q, r.2.opens r.1 = some q
theorem tag_good {B : Bx.Box} (hi : BInv B) (hs : B.sym = true) (hl : B.L.length < 4096) {t : Bx.Term} (hz : TSz t) (h4 : t.kind ≠ 4) : GoodT B (B.tag t) := by
  obtain ⟨he, k, hk, hkt⟩ := tag_ext hi hs hl hz (fun q => absurd q h4)
  refine ⟨he, by rw [hk]; rfl, ?_⟩
  rw [hk]
  have hlen := he.inv.len
  have hlt := (List.getElem?_eq_some_iff.1 hkt).1
  exact ⟨_, (opens_h (he.sym.trans hs) (by omega) (by omega) (by omega) hkt).trans (if_neg h4)⟩
theorem raw_good {B : Bx.Box} (hi : BInv B) (hs : B.sym = false) {h : List UInt8} (hh : h.length = 32) : GoodT B (h, B) :=
  ⟨Ext.refl hi, hh, _, Bx.opens_raw hh (fun q => by rw [hs] at q; cases q.1)⟩
theorem mac_good {B : Bx.Box} (hi : BInv B) (hl : B.L.length < 4096) {k t : List UInt8} (hk : k.length ≤ 1000000) (ht : t.length ≤ 1000000) : GoodT B (macB B k t) := by
  cases hs : B.sym with
  | true => rw [show macB B k t = B.tag (macT k t) by unfold macB; rw [hs]; rfl]; exact tag_good hi hs hl (macT_sz hk ht) (by show ¬ 2 = 4; decide)
  | false => rw [show macB B k t = (hmL k t, B) by unfold macB; rw [hs]; rfl]; exact raw_good hi hs (hmL_len k t)
theorem who_of {w : World} {m : Nat} {cs : List Value} (h : Opens Tryz.prog w m ty_api_Who cs) : ∃ a b c : List UInt8, cs = [.string (mkS a), .string (mkS b), .string (mkS c)] := by
  have cW : Tryz.prog.cellsOf ty_api_Who = 3 := by kernel_rfl
  have cT : Tryz.prog.cellsOf ty_string = 1 := by kernel_rfl
  obtain ⟨m3, hl, hf⟩ := h.structT (ok24) rfl
  have f0 := hf 0 0 1 ty_string rfl rfl
  have f1 := hf 1 1 1 ty_string rfl rfl
  have f2 := hf 2 2 1 ty_string rfl rfl
  rw [cW] at hl
  rw [cT] at f0 f1 f2
  obtain ⟨x0, r0, rfl, k0⟩ := len_cons hl
  obtain ⟨x1, r1, rfl, k1⟩ := len_cons k0
  obtain ⟨x2, r2, rfl, k2⟩ := len_cons k1
  obtain rfl := List.eq_nil_of_length_eq_zero k2
  have hs : Tryz.prog.underlying ty_string = some .string := (ok9).real (d := .string) rfl rfl
  obtain ⟨a, ha, _⟩ := f0.str hs
  obtain ⟨b, hb, _⟩ := f1.str hs
  obtain ⟨c, hc, _⟩ := f2.str hs
  simp at ha hb hc
  subst ha hb hc
  exact ⟨a.data.toList, b.data.toList, c.data.toList, by simp [mkS]⟩
theorem tk_of {w : World} {m : Nat} {cs : List Value} (h : Opens Tryz.prog w m ty_ostiaryref18_Ticket cs) : ∃ t : Tk, cs = t.cells ∧ t.epoch < 18446744073709551616 ∧ t.serial < 18446744073709551616 ∧ t.fro < 18446744073709551616 ∧ t.til < 18446744073709551616 ∧ t.gen < 18446744073709551616 := by
  have cT : Tryz.prog.cellsOf ty_ostiaryref18_Ticket = 8 := by kernel_rfl
  have cW : Tryz.prog.cellsOf ty_api_Who = 3 := by kernel_rfl
  have cU : Tryz.prog.cellsOf ty_uint64 = 1 := by kernel_rfl
  obtain ⟨m3, hl, hf⟩ := h.structT (ok26) rfl
  have f0 := hf 0 0 1 ty_uint64 rfl rfl
  have f1 := hf 1 1 1 ty_uint64 rfl rfl
  have f2 := hf 2 2 1 ty_uint64 rfl rfl
  have f3 := hf 3 3 1 ty_uint64 rfl rfl
  have f4 := hf 4 4 1 ty_uint64 rfl rfl
  have f5 := hf 5 5 3 ty_api_Who rfl rfl
  rw [cT] at hl
  rw [cU] at f0 f1 f2 f3 f4
  rw [cW] at f5
  obtain ⟨x0, r0, rfl, k0⟩ := len_cons hl
  obtain ⟨x1, r1, rfl, k1⟩ := len_cons k0
  obtain ⟨x2, r2, rfl, k2⟩ := len_cons k1
  obtain ⟨x3, r3, rfl, k3⟩ := len_cons k2
  obtain ⟨x4, r4, rfl, k4⟩ := len_cons k3
  obtain ⟨x5, r5, rfl, k5⟩ := len_cons k4
  obtain ⟨x6, r6, rfl, k6⟩ := len_cons k5
  obtain ⟨x7, r7, rfl, k7⟩ := len_cons k6
  obtain rfl := List.eq_nil_of_length_eq_zero k7
  have hu : Tryz.prog.underlying ty_uint64 = some (.int .u64) := (ok22).real (d := .int .u64) rfl rfl
  have num : ∀ {x : Value}, Opens Tryz.prog w m3 ty_uint64 [x] → ∃ n : Nat, x = .int .u64 (n : Int) ∧ n < 18446744073709551616 := fun {x} f => by
    obtain ⟨n, hn, h1, h2⟩ := f.int hu
    have h1 : 0 ≤ n := h1
    have h2 : n ≤ 18446744073709551615 := h2
    simp only [List.cons.injEq, and_true] at hn
    exact ⟨n.toNat, by rw [hn, Int.toNat_of_nonneg h1], by omega⟩
  obtain ⟨n0, rfl, q0⟩ := num f0
  obtain ⟨n1, rfl, q1⟩ := num f1
  obtain ⟨n2, rfl, q2⟩ := num f2
  obtain ⟨n3, rfl, q3⟩ := num f3
  obtain ⟨n4, rfl, q4⟩ := num f4
  obtain ⟨a, b, c, hw⟩ := who_of f5
  simp at hw
  obtain ⟨rfl, rfl, rfl⟩ := hw
  exact ⟨⟨n0, n1, n2, n3, n4, a, b, c⟩, rfl, q0, q1, q2, q3, q4⟩
def numsT (t : Tk) : List Nat := [t.serial, t.fro, t.til, t.gen]
def txtsT (t : Tk) : List (List UInt8) := [t.ten, t.usr, t.rol]
def preT (t : Tk) (j : Nat) : List UInt8 := 1 :: be 4 t.epoch ++ ((numsT t).take j).flatMap (be 8)
def pre2T (t : Tk) (j : Nat) : List UInt8 := preT t 4 ++ ((txtsT t).take j).flatMap txtL
theorem pre_len (t : Tk) (j : Nat) : (preT t j).length ≤ 37 := by
  unfold preT
  rw [List.length_append, List.length_cons, be_length, List.length_flatMap]
  have h : ∀ (l : List Nat), (l.map fun a => (be 8 a).length).sum = 8 * l.length := by
    intro l
    induction l with
    | nil => rfl
    | cons a r ih => rw [List.map_cons, List.sum_cons, ih, be_length, List.length_cons]; omega
  rw [h, List.length_take]
  have : (numsT t).length = 4 := rfl
  omega
open Classical in
theorem tkBody_c (w : World) (t : Tk) (hn : NamT w) (ht : t.Ok) : Con Tryz.prog n_ticket_Ticket_Body #[.agg t.cells.toArray] w [] fun v Fs => (t.Right ∧ ∃ A c, v = .tuple #[.slice A (bodyL t).length c, .int .i64 0] ∧ (bodyL t).length ≤ c ∧ Fs = [browF ty_uint8 A (bodyL t) c]) ∨ (¬ t.Right ∧ v = .tuple #[.slice none 0 0, .int .i64 4] ∧ Fs = []) := by
  have g := good_ticket_Ticket_Body w (Un [])
  have hml := maxLen_eq
  refine con_of_sx (cx := cx_ticket_Ticket_Body w (Un [])) g b_ticket_Ticket_Body rfl rfl (β := Va.z) [.agg (t.cells.map SL.v)] 0 [] [oldF w] rfl rfl (old_sat rfl) ?_
  refine call_pu (v := .bool (decide t.Right)) (fun β w' hs => tkRight_c w' t (hn.old (hs.get 0 rfl)) ht) ?_
  refine BIf.not (BIf.dec (fun hr => ?_) (fun hr => ?_))
  rotate_left
  · intro β w' hs
    exact (hs.keepB (List.nil_sublist _)).fin [] (.inr ⟨hr, rfl, rfl⟩)
  have l1 := plainF_len hr.ten
  have l2 := namedT_len hr.usr
  have l3 := plainF_len hr.rol
  intro b1
  refine call_con [] (fun β w' hs => tnum_c w' t.epoch 4 ht.e (by decide)) ?_
  rintro v Fs ⟨A1, c1, rfl, hc1, rfl⟩
  have hb4 := be_length 4 t.epoch
  have e0 : preT t 0 = [1] ++ be 4 t.epoch := by unfold preT; simp
  refine ⟨1, 1, (preT t 0).length, [Value.int .u8 1], (be 4 t.epoch).map byte, (preT t 0).map byte, rfl, fun β w' hs => row_rd (hs.get 0 rfl), bytes_one _, by rw [e0, List.length_append]; rfl, by rw [e0, List.map_append]; rfl, by have := pre_len t 0; omega, by have := pre_len t 0; show (preT t 0).length * 1 ≤ _; omega, ?_⟩
  intro A2 c2 _ _ _
  intro b2
  refine loop_rule (ι := Nat × Option Addr × Nat) 1 (fun j => [(1, .c (.p 0 0)), (4, .c (.v (.slice j.2.1 (preT t j.1).length j.2.2))), (25, .c (.v (.slice (some ⟨b2, 0, none⟩) 4 4))), (26, .c (.v (.int .i64 4))), (27, .c (.v (.int .i64 (j.1 : Int))))]) (fun _ => [⟨0, ty_ticket_Ticket, t.cells.map SL.v⟩]) (fun j => [rowF ty_uint64 1 (.slice (some ⟨b2, 0, none⟩) 4 4) 4 ((numsT t).map fun n : Nat => Value.int .u64 (n : Int)), browF ty_uint8 j.2.1 (preT t j.1) j.2.2, oldF w])
    (fun j => j.1 ≤ 4) (fun j => 4 - j.1) (0, A2, c2) (Nat.zero_le _) (Ent.mk' ⟨rfl, rfl, rfl, rfl, rfl, trivial⟩ rfl (fun β w' hs => hs.perm [0, 2, 3])) g ?_
  rintro ⟨j, A, c⟩ hj
  simp only at hj
  have hpl := pre_len t j
  refine BIf.dec (fun hlt => ?_) (fun hge => ?_)
  · have hlt0 : (j : Int) < 4 := hlt
    obtain ⟨n, hx, hxm⟩ := at_lt (l := numsT t) (k := j) (by show j < 4; omega)
    have hn8 : n < 18446744073709551616 := by
      simp only [numsT, List.mem_cons, List.not_mem_nil, or_false] at hxm
      rcases hxm with rfl | rfl | rfl | rfl
      · exact ht.s
      · exact ht.f
      · exact ht.l
      · exact ht.g
    refine ⟨⟨b2, 0, none⟩, j, rfl, rfl, by omega, .int .u64 (n : Int), fun β w' hs => Rd.cell1 (show Rd 1 (some ⟨b2, 0, none⟩) 4 ((numsT t).map fun n : Nat => Value.int .u64 (n : Int)) w' from row_rd (hs.get 0 rfl)) (by rw [List.getElem?_map, hx]; rfl), ?_⟩
    refine call_con [] (fun β w' hs => tnum_c w' n 8 hn8 (by decide)) ?_
    rintro v Fs ⟨A3, c3, rfl, hc3, rfl⟩
    have hb8 := be_length 8 n
    have hs1 : preT t (j + 1) = preT t j ++ be 8 n := by
      unfold preT
      rw [List.take_add_one, hx, List.flatMap_append, ← List.append_assoc]
      simp
    have hpl1 := pre_len t (j + 1)
    refine ⟨2, (preT t j).length, (preT t (j + 1)).length, (preT t j).map byte, (be 8 n).map byte, (preT t (j + 1)).map byte, rfl, fun β w' hs => row_rd (hs.get 0 rfl), bytes_one _, by rw [hs1, List.length_append], by rw [hs1, List.map_append], by omega, by show (preT t (j + 1)).length * 1 ≤ _; omega, ?_⟩
    intro A4 c4 _ _ _
    refine ⟨((j + 1 : Nat) : Int), by rw [wrap_i64 (by omega) (by omega)]; rfl, ?_⟩
    exact ⟨(j + 1, A4, c4), by show j + 1 ≤ 4; omega, by show 4 - (j + 1) < 4 - j; omega, Ent.mk' ⟨rfl, rfl, rfl, rfl, rfl, trivial⟩ rfl (fun β w' hs => hs.perm [1, 2, 3])⟩
  · have hge0 : ¬ (j : Int) < 4 := hge
    obtain rfl : j = 4 := by omega
    intro b3
    have p0 : pre2T t 0 = preT t 4 := by unfold pre2T; simp
    have hp2 : ∀ j, (pre2T t j).length ≤ 200 := fun j => by
      unfold pre2T
      rw [List.length_append]
      have h : (((txtsT t).take j).flatMap txtL).length ≤ ((txtsT t).flatMap txtL).length := by
        have e := congrArg (fun l => (l.flatMap txtL).length) (List.take_append_drop j (txtsT t))
        simp only [List.flatMap_append, List.length_append] at e
        omega
      have h2 : ((txtsT t).flatMap txtL).length = t.ten.length + 1 + (t.usr.length + 1 + (t.rol.length + 1)) := by simp [txtsT, txtL]; omega
      omega
    refine loop_rule (ι := Nat × Option Addr × Nat) 1 (fun j => [(4, .c (.v (.slice j.2.1 (pre2T t j.1).length j.2.2))), (45, .c (.v (.slice (some ⟨b3, 0, none⟩) 3 3))), (46, .c (.v (.int .i64 3))), (47, .c (.v (.int .i64 (j.1 : Int))))]) (fun _ => []) (fun j => [rowF ty_string 1 (.slice (some ⟨b3, 0, none⟩) 3 3) 3 ((txtsT t).map fun l => Value.string (mkS l)), browF ty_uint8 j.2.1 (pre2T t j.1) j.2.2, oldF w])
      (fun j => j.1 ≤ 3) (fun j => 3 - j.1) (0, A, c) (Nat.zero_le _) (Ent.mk' ⟨by rw [p0]; rfl, rfl, rfl, rfl, trivial⟩ rfl (fun β w' hs => by rw [p0]; exact (hs.keepB (List.nil_sublist _)).perm [0, 2, 3])) g ?_
    rintro ⟨i, A5, c5⟩ hi
    simp only at hi
    have hpi := hp2 i
    refine BIf.dec (fun hlt2 => ?_) (fun hge2 => ?_)
    · have hlt20 : (i : Int) < 3 := hlt2
      obtain ⟨l, hx, hxm⟩ := at_lt (l := txtsT t) (k := i) (by show i < 3; omega)
      refine ⟨⟨b3, 0, none⟩, i, rfl, rfl, by omega, .string (mkS l), fun β w' hs => Rd.cell1 (show Rd 1 (some ⟨b3, 0, none⟩) 3 ((txtsT t).map fun l => Value.string (mkS l)) w' from row_rd (hs.get 0 rfl)) (by rw [List.getElem?_map, hx]; rfl), ?_⟩
      have hl32 : l.length ≤ 32 := by
        simp only [txtsT, List.mem_cons, List.not_mem_nil, or_false] at hxm
        rcases hxm with rfl | rfl | rfl
        · exact l1
        · exact l2
        · exact l3
      have hs2 : pre2T t (i + 1) = (pre2T t i ++ [UInt8.ofNat l.length]) ++ l := by
        unfold pre2T
        rw [List.take_add_one, hx, List.flatMap_append, ← List.append_assoc]
        simp [txtL]
      have hbl : byte (UInt8.ofNat l.length) = .int .u8 (l.length : Int) := byte_ofNat _ (by omega)
      refine ⟨(l.length : Int), by show IntKind.u8.wrap (l.length : Int) = _; rw [wrap_u8]; omega, ?_⟩
      intro b4
      refine ⟨2, (pre2T t i).length, (pre2T t i ++ [UInt8.ofNat l.length]).length, (pre2T t i).map byte, [Value.int .u8 (l.length : Int)], (pre2T t i ++ [UInt8.ofNat l.length]).map byte, rfl, fun β w' hs => row_rd (hs.get 0 rfl), fun u hu => by obtain rfl := List.mem_singleton.1 hu; rfl, by rw [List.length_append]; rfl, by rw [List.map_append, ← hbl]; rfl, by rw [List.length_append, hml]; show _ + 1 ≤ _; omega, by rw [List.length_append]; show (_ + 1) * 1 ≤ _; omega, ?_⟩
      intro A6 c6 _ _ _
      have hpi1 := hp2 (i + 1)
      refine ⟨2, (pre2T t i ++ [UInt8.ofNat l.length]).length, l.length, (pre2T t (i + 1)).length, (pre2T t i ++ [UInt8.ofNat l.length]).map byte, l.map byte, (pre2T t (i + 1)).map byte, rfl, ⟨rfl, rfl, by rw [mkS_out]⟩, by rw [hs2]; exact List.length_append.symm, by rw [hs2]; exact List.map_append.symm, by omega, by show (pre2T t (i + 1)).length * 1 ≤ _; omega, ?_⟩
      intro A7 c7 _ _ _
      refine ⟨((i + 1 : Nat) : Int), by rw [wrap_i64 (by omega) (by omega)]; rfl, ?_⟩
      exact ⟨(i + 1, A7, c7), by show i + 1 ≤ 3; omega, by show 3 - (i + 1) < 3 - i; omega, Ent.mk' ⟨rfl, rfl, rfl, rfl, trivial⟩ rfl (fun β w' hs => hs.perm [1, 2, 3])⟩
    · have hge20 : ¬ (i : Int) < 3 := hge2
      obtain rfl : i = 3 := by omega
      have e3 : pre2T t 3 = bodyL t := by
        unfold pre2T preT bodyL
        simp [numsT, txtsT]
      rw [e3] at *
      intro β w' hs
      exact hs.fin [1] (.inl ⟨hr, A5, c5, rfl, brow_cap (hs.get 1 rfl), rfl⟩)
theorem runesAt_neg {l : List UInt8} {x : Rn} (hx : x ∈ runesAt l 0) : x.2 = -1 ∨ 0 ≤ x.2 := by
  have h := runesAt_vals l _ 0 (Nat.le_refl _)
  rw [List.drop_zero] at h
  have hm : x.2 ∈ (Nam.runes l).map runeI := by rw [← h]; exact List.mem_map.2 ⟨x, hx, rfl⟩
  obtain ⟨o, _, he⟩ := List.mem_map.1 hm
  cases o with
  | none => exact .inl he.symm
  | some r => right; rw [← he]; exact Int.natCast_nonneg r
theorem signRd {w : World} {ad : Addr} {L : List Rn} (h : Rd 2 (some ad) L.length (signsV L) w) {k : Nat} {x : Rn} (hx : L[k]? = some x) : ∀ j u, (signV x)[j]? = some u → w.cell? ((ad.add (k * 2)).add j) = some u := by
  obtain ⟨hil, hie⟩ := List.getElem?_eq_some_iff.1 hx
  have h2 := Rd.elem (f := signV) (fun _ => rfl) h rfl hil
  rw [hie] at h2
  exact h2
structure PrR where
  k : Nat
  out : List UInt8
  A : Option Addr
  c : Nat
theorem rbytesL_len (r : Nat) : (rbytesL r).length ≤ 4 := by
  unfold rbytesL
  split
  · exact (by decide : 1 ≤ 4)
  · split
    · exact (by decide : 2 ≤ 4)
    · split
      · exact (by decide : 3 ≤ 4)
      · exact Nat.le_refl 4
set_option maxHeartbeats 1000000 in
theorem rprepare_c (w : World) (s : ByteArray) (hl : s.size ≤ 100000) :
    Pu Tryz.prog n_ostiaryref04_Prepare #[.string s] w (.tuple #[.string (mkS (prepF s.data.toList).1), .int .i64 (prepF s.data.toList).2]) := by
  have g := good_ostiaryref04_Prepare w (Un [])
  have hml := maxLen_eq
  have hlen : s.data.toList.length = s.size := rfl
  have hLl := runesAt_len s.data.toList _ 0 (Nat.le_refl _)
  obtain ⟨p, e, hpe⟩ : ∃ p e, prepF s.data.toList = (p, e) := ⟨_, _, rfl⟩
  rw [hpe]
  have hpr := rprep_eq s.data.toList
  rw [hpe] at hpr
  have fin : ∀ (q : List UInt8) (d : Int), (p, e) = (q, d) → ∀ {n : Nat} {H : List Bk} {F : List Fact} (β : Va) (w' : World), Sat (cx_ostiaryref04_Prepare w (Un [])) β n H F w' → Fin w [] (fun u Fs => u = .tuple #[.string (mkS (p, e).1), .int .i64 (p, e).2] ∧ Fs = []) (.tuple #[.string (mkS q), .int .i64 d]) w' := by
    intro q d h n H F β w' hs
    rw [h]
    exact (hs.keepB (List.nil_sublist _)).fin [] ⟨rfl, rfl⟩
  refine con_of_sx (cx := cx_ostiaryref04_Prepare w (Un [])) g b_ostiaryref04_Prepare rfl rfl (β := Va.z) [.c (.v (.string s))] 0 [] [] rfl rfl (Sat.start rfl) ?_
  refine call_con [] (fun β w' hs => rsigns_c w' s (by omega)) ?_
  rintro v Fs ⟨A, c, rfl, hc, hA, rfl⟩
  have hneg := fun (x : Rn) (hx : x ∈ runesAt s.data.toList 0) => runesAt_neg hx
  have hvi := valid_iff s.data.toList
  have hsv := fun hv => signs_val (l := s.data.toList) hv
  generalize runesAt s.data.toList 0 = L at *
  generalize validB s.data.toList = bv at *
  have hL2 : L.length ≤ 100000 := by omega
  refine loop_rule 0 (fun k : Nat => [(4, .c (.v (.slice A L.length c))), (12, .c (.v (.slice A L.length c))), (13, .c (.v (.int .i64 L.length))), (14, .c (.v (.int .i64 (k : Int))))]) (fun _ => []) (fun _ => [sgnF A L c])
    (fun k => k ≤ L.length ∧ ∀ x ∈ L.take k, x.2 ≠ -1) (fun k => L.length - k) 0 ⟨Nat.zero_le _, fun x h => by cases h⟩ (Ent.same ⟨rfl, rfl, rfl, rfl, trivial⟩ rfl) g ?_
  rintro k ⟨hk, hall⟩
  refine BIf.dec (fun hlt => ?_) (fun hge => ?_)
  · have hlt0 : (k : Int) < L.length := hlt
    have hkl : k < L.length := by omega
    obtain ⟨x, hx, hxm⟩ := at_lt hkl
    obtain ⟨ad, rfl⟩ := hA (by omega)
    have hsn : L.take (k + 1) = L.take k ++ [x] := by rw [List.take_add_one, hx]; rfl
    refine ⟨ad, k, rfl, rfl, hkl, signV x, rfl, fun β w' hs => signRd (row_rd (hs.get 0 rfl)) hx, ?_⟩
    refine BIf.dec (fun h0 => ?_) (fun h0 => ?_)
    · have h00 : x.2 < 0 := h0
      have hx1 : x.2 = -1 := by rcases hneg x hxm with h | h; exact h; omega
      have hbv : ¬ bv = true := fun q => hvi.1 q x hxm hx1
      rw [if_neg hbv] at hpr
      exact fun β w' hs => fin [] 4 hpr β w' hs
    · have h00 : ¬ x.2 < 0 := h0
      refine ⟨((k + 1 : Nat) : Int), by rw [wrap_i64 (by omega) (by omega)]; rfl, ?_⟩
      refine ⟨k + 1, ⟨by omega, fun y hy => ?_⟩, by omega, Ent.mk' ⟨rfl, rfl, rfl, rfl, trivial⟩ rfl (fun β w hs => (hs.keepB (List.nil_sublist _)).lower)⟩
      rw [hsn] at hy
      rcases List.mem_append.1 hy with q | q
      · exact hall y q
      · obtain rfl := List.mem_singleton.1 q
        omega
  · have hge0 : ¬ (k : Int) < L.length := hge
    obtain rfl : k = L.length := by omega
    rw [List.take_length] at hall
    have hbv : bv = true := hvi.2 hall
    rw [if_pos hbv] at hpr
    have hsv := hsv hbv
    refine loop_rule (ι := PrR) 0 (fun i => [(7, .c (.v (.slice i.A i.out.length i.c))), (22, .c (.v (.slice A L.length c))), (23, .c (.v (.int .i64 L.length))), (24, .c (.v (.int .i64 (i.k : Int))))]) (fun _ => []) (fun i => [browF ty_uint8 i.A i.out i.c, sgnF A L c])
      (fun i => i.k ≤ L.length ∧ prepR (L.map (·.2)) = (prepR ((L.drop i.k).map (·.2))).map (i.out ++ ·) ∧ i.out.length ≤ i.c ∧ i.out.length ≤ 4 * i.k) (fun i => L.length - i.k) ⟨0, [], none, 0⟩ ⟨Nat.zero_le _, by rw [List.drop_zero]; cases prepR (L.map (·.2)) <;> rfl, Nat.zero_le _, Nat.zero_le _⟩ (Ent.mk' ⟨rfl, rfl, rfl, rfl, trivial⟩ rfl (fun β w hs => hs.nilRow _ _)) g ?_
    rintro ⟨k, out, A1, c1⟩ ⟨hk, hinv, hoc, hol⟩
    simp only at hk hinv hoc hol
    simp only
    refine BIf.dec (fun hlt => ?_) (fun hge => ?_)
    · have hlt0 : (k : Int) < L.length := hlt
      have hkl : k < L.length := by omega
      obtain ⟨x, hx, hxm⟩ := at_lt hkl
      obtain ⟨ad, rfl⟩ := hA (by omega)
      have hdr : L.drop k = x :: L.drop (k + 1) := by
        obtain ⟨h1, h2⟩ := List.getElem?_eq_some_iff.1 hx
        rw [List.drop_eq_getElem_cons h1, h2]
      rw [hdr, List.map_cons, prepR] at hinv
      obtain ⟨r, hxr, hsg, hr⟩ := hsv x hxm
      obtain ⟨z, hz⟩ : ∃ z, x.2 = z := ⟨_, rfl⟩
      rw [hz] at hinv hxr
      obtain ⟨x1, x2⟩ := x
      simp only at hz
      subst hz
      refine ⟨ad, k, rfl, rfl, hkl, signV (x1, x2), rfl, fun β w' hs => signRd (row_rd (hs.get 1 rfl)) hx, ?_⟩
      obtain ⟨b1, hb1⟩ : ∃ b1, rblank x2 = b1 := ⟨_, rfl⟩
      refine call_pu (v := .bool b1) (fun β w' hs => by rw [← hb1]; exact rblank_c w' x2) ?_
      cases b1 with
      | true =>
        rw [if_pos hb1] at hinv
        intro b2
        refine ⟨1, out.length, out.length + 1, out.map byte, [32].map byte, (out ++ [32]).map byte, rfl, fun β w hs => row_rd (hs.get 0 rfl), bytes_one _, rfl, List.map_append.symm, by rw [maxLen_eq]; omega, by show (out.length + 1) * 1 ≤ _; omega, ?_⟩
        intro A' c' q1 q2 _
        refine ⟨((k + 1 : Nat) : Int), by rw [wrap_i64 (by omega) (by omega)]; rfl, ?_⟩
        have hle : (out ++ [32] : List UInt8).length = out.length + 1 := by simp
        refine ⟨⟨k + 1, out ++ [32], A', c'⟩, ⟨by show k + 1 ≤ _; omega, ?_, by show (out ++ [32] : List UInt8).length ≤ c'; omega, by show (out ++ [32] : List UInt8).length ≤ 4 * (k + 1); omega⟩, by show L.length - (k + 1) < L.length - k; omega, ?_⟩
        · rw [hinv]
          show _ = (prepR ((L.drop (k + 1)).map (·.2))).map (out ++ [32] ++ ·)
          cases prepR ((L.drop (k + 1)).map (·.2)) with
          | none => rfl
          | some q => simp
        · simp only [browF, hle]
          exact Ent.mk' ⟨rfl, rfl, rfl, rfl, trivial⟩ rfl (fun β w hs => ((hs.perm [1, 2]).keepB (List.nil_sublist _)).lower)
      | false =>
        rw [if_neg (by rw [hb1]; decide)] at hinv
        obtain ⟨b2, hb2⟩ : ∃ b2, rgoes x2 = b2 := ⟨_, rfl⟩
        refine call_pu (v := .bool b2) (fun β w' hs => by rw [← hb2]; exact rgoes_c w' x2) ?_
        cases b2 with
        | true =>
          rw [if_pos hb2] at hinv
          refine ⟨((k + 1 : Nat) : Int), by rw [wrap_i64 (by omega) (by omega)]; rfl, ?_⟩
          exact ⟨⟨k + 1, out, A1, c1⟩, ⟨by show k + 1 ≤ _; omega, hinv, hoc, by show out.length ≤ 4 * (k + 1); omega⟩, by show L.length - (k + 1) < L.length - k; omega, Ent.mk' ⟨rfl, rfl, rfl, rfl, trivial⟩ rfl (fun β w hs => (hs.keepB (List.nil_sublist _)).lower)⟩
        | false =>
          rw [if_neg (by rw [hb2]; decide)] at hinv
          obtain ⟨b3, hb3⟩ : ∃ b3, rbars x2 = b3 := ⟨_, rfl⟩
          refine call_pu (v := .bool b3) (fun β w' hs => by rw [← hb3]; exact rbars_c w' x2 (by omega)) ?_
          cases b3 with
          | true =>
            rw [if_pos hb3] at hinv
            have hno : prepR (L.map (·.2)) = none := hinv
            rw [hno] at hpr
            exact fun β w' hs => fin [] 5 hpr β w' hs
          | false =>
            rw [if_neg (by rw [hb3]; decide)] at hinv
            refine call_con [] (fun β w' hs => rbytes_c w' r x2 hxr.symm hsg) ?_
            rintro v Fs ⟨A2, c2, rfl, hc2, hm2, rfl⟩
            have hrl := rbytesL_len r
            rw [hxr, Int.toNat_natCast] at hinv
            generalize rbytesL r = bs at *
            refine ⟨1, out.length, out.length + bs.length, out.map byte, bs.map byte, (out ++ bs).map byte, rfl, fun β w hs => row_rd (hs.get 0 rfl), bytes_one _, rfl, List.map_append.symm, by rw [maxLen_eq]; omega, by show (out.length + bs.length) * 1 ≤ _; omega, ?_⟩
            intro A' c' q1 q2 _
            refine ⟨((k + 1 : Nat) : Int), by rw [wrap_i64 (by omega) (by omega)]; rfl, ?_⟩
            have hle : (out ++ bs).length = out.length + bs.length := List.length_append
            refine ⟨⟨k + 1, out ++ bs, A', c'⟩, ⟨by show k + 1 ≤ _; omega, ?_, by show (out ++ bs).length ≤ c'; omega, by show (out ++ bs).length ≤ 4 * (k + 1); omega⟩, by show L.length - (k + 1) < L.length - k; omega, ?_⟩
            · rw [hinv]
              show _ = (prepR ((L.drop (k + 1)).map (·.2))).map (out ++ bs ++ ·)
              cases prepR ((L.drop (k + 1)).map (·.2)) with
              | none => rfl
              | some q => simp
            · simp only [browF, hle]
              exact Ent.mk' ⟨rfl, rfl, rfl, rfl, trivial⟩ rfl (fun β w hs => ((hs.perm [1, 2]).keepB (List.nil_sublist _)).lower)
    · have hge0 : ¬ (k : Int) < L.length := hge
      obtain rfl : k = L.length := by omega
      rw [List.drop_length] at hinv
      have hso : prepR (L.map (·.2)) = some out := by rw [hinv]; simp [prepR]
      rw [hso] at hpr
      refine ⟨out, fun β w hs => row_rd (hs.get 0 rfl), ?_⟩
      exact fun β w' hs => fin out 0 hpr β w' hs
theorem rsized_c (w : World) (s : ByteArray) (most : Nat) (hl : s.size ≤ 100000) :
    Pu Tryz.prog n_ostiaryref04_Sized #[.string s, .int .i64 (most : Int)] w (.tuple #[.string (mkS (sizF s.data.toList most).1), .int .i64 (sizF s.data.toList most).2]) := by
  have g := good_ostiaryref04_Sized w (Un [])
  refine con_of_sx (cx := cx_ostiaryref04_Sized w (Un [])) g b_ostiaryref04_Sized rfl rfl (β := Va.z) [.c (.v (.string s)), .c (.v (.int .i64 (most : Int)))] 0 [] [oldF w] rfl rfl (old_sat rfl) ?_
  obtain ⟨p, e, hpe⟩ : ∃ p e, prepF s.data.toList = (p, e) := ⟨_, _, rfl⟩
  have hz : sizF s.data.toList most = if e = 0 then if p = [] then ([], 2) else if most < p.length then ([], 3) else (p, 0) else ([], e) := by unfold sizF; rw [hpe]
  refine call_pu (v := .tuple #[.string (mkS p), .int .i64 e]) (fun β w' hs => by
    have h := rprepare_c w' s hl
    rw [hpe] at h
    exact h) ?_
  have fin : ∀ (q : List UInt8) (d : Int), sizF s.data.toList most = (q, d) → ∀ {n : Nat} {H : List Bk} {F : List Fact} (β : Va) (w' : World), Sat (cx_ostiaryref04_Sized w (Un [])) β n H F w' → Fin w [] (fun u Fs => u = .tuple #[.string (mkS (sizF s.data.toList most).1), .int .i64 (sizF s.data.toList most).2] ∧ Fs = []) (.tuple #[.string (mkS q), .int .i64 d]) w' := by
    intro q d h n H F β w' hs
    rw [h]
    exact (hs.keepB (List.nil_sublist _)).fin [] ⟨rfl, rfl⟩
  have hsz : (mkS p).size = p.length := by simp [mkS, ByteArray.size]
  refine BIf.not (BIf.dec (fun he => ?_) (fun he => ?_))
  · have he0 : e = 0 := he
    rw [if_pos he0] at hz
    refine BIf.dec (fun hp => ?_) (fun hp => ?_)
    · have hp0 : ((mkS p).size : Int) = 0 := hp
      rw [hsz] at hp0
      have hp1 : p = [] := List.length_eq_zero_iff.1 (by omega)
      rw [if_pos hp1] at hz
      exact fun β w' hs => fin [] 2 hz β w' hs
    · have hp0 : ¬ ((mkS p).size : Int) = 0 := hp
      rw [hsz] at hp0
      rw [if_neg (fun q => hp0 (by rw [q]; rfl))] at hz
      refine BIf.dec (fun hm => ?_) (fun hm => ?_)
      · have hm0 : (most : Int) < ((mkS p).size : Int) := hm
        rw [hsz] at hm0
        rw [if_pos (by omega)] at hz
        exact fun β w' hs => fin [] 3 hz β w' hs
      · have hm0 : ¬ (most : Int) < ((mkS p).size : Int) := hm
        rw [hsz] at hm0
        rw [if_neg (by omega)] at hz
        exact fun β w' hs => fin p 0 hz β w' hs
  · have he0 : ¬ e = 0 := he
    rw [if_neg he0] at hz
    exact fun β w' hs => fin [] e hz β w' hs
end Go.Proofs.YtlhcgofdfhfegaaGreatDoor.Sx

namespace Go.Proofs.YtlhcgofdfhfegaaGreatDoor.Sx
open Go Sha
attribute [local irreducible] Calls
end Go.Proofs.YtlhcgofdfhfegaaGreatDoor.Sx

namespace Go.Proofs.YtlhcgofdfhfegaaGreatDoor.Sx
open Go
attribute [local irreducible] Calls
set_option maxHeartbeats 1000000 in
theorem rplain_c (w : World) (s : ByteArray) (hl : s.size ≤ 100000) : Pu Tryz.prog n_ostiaryref04_Plain #[.string s] w (.bool (plainF s.data.toList)) := by
  have g := good_ostiaryref04_Plain w (Un [])
  have hlen : s.data.toList.length = s.size := rfl
  refine con_of_sx (cx := cx_ostiaryref04_Plain w (Un [])) g b_ostiaryref04_Plain rfl rfl (β := Va.z) [.c (.v (.string s))] 0 [] [] rfl rfl (Sat.start rfl) ?_
  refine loop_rule 0 (fun k : Nat => [(0, .c (.v (.string s))), (3, .c (.v (.int .i64 (k : Int))))]) (fun _ => []) (fun _ => [])
    (fun k => k ≤ s.size ∧ (s.data.toList.take k).all okc = true) (fun k => s.size - k) 0 ⟨Nat.zero_le _, rfl⟩ (Ent.same ⟨rfl, rfl, trivial⟩ rfl) g ?_
  rintro k ⟨hk, hall⟩
  refine BIf.dec (fun hlt => ?_) (fun hge => ?_)
  · have hlt0 : (k : Int) < s.size := hlt
    have hkl : k < s.size := by omega
    obtain ⟨x, hx, hxm⟩ := at_lt (l := s.data.toList) (k := k) (by omega)
    obtain ⟨z, hz⟩ : ∃ z : Int, (x.toNat : Int) = z := ⟨_, rfl⟩
    have hsn : okc x = true → (s.data.toList.take (k + 1)).all okc = true := fun h => by rw [List.take_add_one, hx, List.all_append, hall]; simp [h]
    have bad : okc x = false → ∀ {n : Nat} {H : List Bk} {F : List Fact} (β : Va) (w' : World), Sat (cx_ostiaryref04_Plain w (Un [])) β n H F w' → Fin w [] (fun u Fs => u = .bool (plainF s.data.toList) ∧ Fs = []) (.bool false) w' := by
      intro h n H F β w' hs
      refine (hs.keepB (List.nil_sublist _)).fin [] ⟨?_, rfl⟩
      have : s.data.toList.all okc = false := by
        rw [List.all_eq_false]
        exact ⟨x, hxm, by rw [h]; decide⟩
      unfold plainF
      rw [this]
      rfl
    refine ⟨k, x, rfl, hx, ?_⟩
    have hb : byte x = .int .u8 z := by rw [← hz]; rfl
    rw [hb]
    clear hb
    repeat' first
      | refine BIf.dec (fun h => ?_) (fun h => ?_)
      | refine BIf.not (BIf.dec (fun h => ?_) (fun h => ?_))
    all_goals first
      | exact fun β w' hs => bad (by simp only [okc, decide_eq_false_iff_not]; omega) β w' hs
      | (refine ⟨((k + 1 : Nat) : Int), by rw [wrap_i64 (by omega) (by omega)]; rfl, ?_⟩
         exact ⟨k + 1, ⟨hkl, hsn (by simp only [okc, decide_eq_true_eq]; omega)⟩, by omega, Ent.same ⟨rfl, rfl, trivial⟩ rfl⟩)
  · have hge0 : ¬ (k : Int) < s.size := hge
    obtain rfl : k = s.size := by omega
    rw [← hlen, List.take_length] at hall
    have hpl : plainF s.data.toList = (decide (s.data.toList ≠ []) && decide (s.data.toList.length ≤ 32)) := by unfold plainF; rw [hall, Bool.true_and]
    have hne : s.data.toList ≠ [] ↔ 1 ≤ s.size := by
      rw [← hlen]
      exact ⟨fun h => List.length_pos_iff.2 h, fun h => List.length_pos_iff.1 h⟩
    refine BIf.dec (fun h1 => ?_) (fun h1 => ?_)
    · have h10 : (1 : Int) ≤ s.size := h1
      intro β w' hs
      refine (hs.keepB (List.nil_sublist _)).fin [] ⟨?_, rfl⟩
      rw [hpl, decide_eq_true (hne.2 (by omega)), Bool.true_and, hlen]
      show Value.bool (decide ((s.size : Int) ≤ 32)) = _
      congr 1
      exact decide_eq_decide.2 (by omega)
    · have h10 : ¬ (1 : Int) ≤ s.size := h1
      intro β w' hs
      refine (hs.keepB (List.nil_sublist _)).fin [] ⟨?_, rfl⟩
      rw [hpl, decide_eq_false (fun q => h10 (by have := hne.1 q; omega)), Bool.false_and]
      rfl
end Go.Proofs.YtlhcgofdfhfegaaGreatDoor.Sx

namespace Go.Proofs.YtlhcgofdfhfegaaGreatDoor.Sx
open Go
attribute [local irreducible] Calls
open Classical in
theorem refRight_c (w : World) (t : Tk) (ht : t.Ok) : Pu Tryz.prog n_ostiaryref18_Right #[.agg t.cells.toArray] w (.bool (decide t.Right)) := by
  have g := good_ostiaryref18_Right w (Un [])
  have hu : (mkS t.usr).size ≤ 100000 := ht.u
  have hte : (mkS t.ten).size ≤ 100000 := ht.n
  have hro : (mkS t.rol).size ≤ 100000 := ht.r
  obtain ⟨e, he⟩ : ∃ e : Int, (t.epoch : Int) = e := ⟨_, rfl⟩
  obtain ⟨s, hs⟩ : ∃ s : Int, (t.serial : Int) = s := ⟨_, rfl⟩
  obtain ⟨f, hf⟩ : ∃ f : Int, (t.fro : Int) = f := ⟨_, rfl⟩
  obtain ⟨l, hl⟩ : ∃ l : Int, (t.til : Int) = l := ⟨_, rfl⟩
  obtain ⟨n, hn⟩ : ∃ n : Int, (t.gen : Int) = n := ⟨_, rfl⟩
  have hc : t.cells = [.int .u64 e, .int .u64 s, .int .u64 f, .int .u64 l, .int .u64 n, .string (mkS t.ten), .string (mkS t.usr), .string (mkS t.rol)] := by unfold Tk.cells; rw [he, hs, hf, hl, hn]
  rw [hc]
  clear hc
  refine con_of_sx (cx := cx_ostiaryref18_Right w (Un [])) g b_ostiaryref18_Right rfl rfl (β := Va.z) [.agg [.v (.int .u64 e), .v (.int .u64 s), .v (.int .u64 f), .v (.int .u64 l), .v (.int .u64 n), .v (.string (mkS t.ten)), .v (.string (mkS t.usr)), .v (.string (mkS t.rol))]] 0 [] [] rfl rfl (Sat.start rfl) ?_
  have no : ¬ t.Right → ∀ {β : Va} {n : Nat} {H : List Bk} {F : List Fact} {w' : World}, Sat (cx_ostiaryref18_Right w (Un [])) β n H F w' → Fin w [] (fun v Fs => v = .bool (decide t.Right) ∧ Fs = []) (.bool false) w' := fun h β n H F w' hs => (hs.keepB (List.nil_sublist _)).fin [] ⟨by rw [decide_eq_false h], rfl⟩
  refine call_pu (fun β w' hs => by
    have h := rsized_c w' (mkS t.usr) 32 hu
    rw [mkS_out] at h
    exact h) ?_
  refine BIf.not (BIf.dec (fun h1 => ?_) (fun h1 => ?_))
  rotate_left
  · intro β w' hs
    exact no (fun h => h1 (by have := h.usr; unfold namedT at this; simp only [Bool.and_eq_true, decide_eq_true_iff] at this; exact this.1)) hs
  refine BIf.not (BIf.dec (fun h2 => ?_) (fun h2 => ?_))
  rotate_left
  · intro β w' hs
    exact no (fun h => h2 (by have := h.usr; unfold namedT at this; simp only [Bool.and_eq_true, decide_eq_true_iff] at this; rw [this.2])) hs
  have hnm : namedT t.usr = true := by
    unfold namedT
    rw [Bool.and_eq_true, decide_eq_true_iff, decide_eq_true_iff]
    exact ⟨h1, mkS_one h2⟩
  refine call_pu (v := .bool (plainF t.ten)) (fun β w' hs => by
    have h := rplain_c w' (mkS t.ten) hte
    rw [mkS_out] at h
    exact h) ?_
  cases h3 : plainF t.ten with
  | false =>
    intro β w' hs
    exact no (fun h => by rw [h.ten] at h3; cases h3) hs
  | true =>
  refine call_pu (v := .bool (plainF t.rol)) (fun β w' hs => by
    have h := rplain_c w' (mkS t.rol) hro
    rw [mkS_out] at h
    exact h) ?_
  cases h4 : plainF t.rol with
  | false =>
    intro β w' hs
    exact no (fun h => by rw [h.rol] at h4; cases h4) hs
  | true =>
  refine BIf.dec (fun c0 => ?_) (fun c0 => ?_)
  rotate_left
  · have d0 : ¬ e ≥ 1 := c0
    intro β w' hs
    exact no (fun h => d0 (by have := h.e1; omega)) hs
  have d0 : e ≥ 1 := c0
  refine BIf.dec (fun c1 => ?_) (fun c1 => ?_)
  rotate_left
  · have d1 : ¬ e < 4294967296 := c1
    intro β w' hs
    exact no (fun h => d1 (by have := h.e2; omega)) hs
  have d1 : e < 4294967296 := c1
  refine BIf.dec (fun c2 => ?_) (fun c2 => ?_)
  rotate_left
  · have d2 : ¬ s ≥ 1 := c2
    intro β w' hs
    exact no (fun h => d2 (by have := h.s1; omega)) hs
  have d2 : s ≥ 1 := c2
  refine BIf.dec (fun c3 => ?_) (fun c3 => ?_)
  rotate_left
  · have d3 : ¬ s ≤ 9007199254740992 := c3
    intro β w' hs
    exact no (fun h => d3 (by have := h.s2; omega)) hs
  have d3 : s ≤ 9007199254740992 := c3
  refine BIf.dec (fun c4 => ?_) (fun c4 => ?_)
  rotate_left
  · have d4 : ¬ n ≥ 1 := c4
    intro β w' hs
    exact no (fun h => d4 (by have := h.g1; omega)) hs
  have d4 : n ≥ 1 := c4
  refine BIf.dec (fun c5 => ?_) (fun c5 => ?_)
  rotate_left
  · have d5 : ¬ n ≤ 9007199254740992 := c5
    intro β w' hs
    exact no (fun h => d5 (by have := h.g2; omega)) hs
  have d5 : n ≤ 9007199254740992 := c5
  refine BIf.dec (fun c6 => ?_) (fun c6 => ?_)
  rotate_left
  · have d6 : ¬ f < l := c6
    intro β w' hs
    exact no (fun h => d6 (by have := h.lt; omega)) hs
  have d6 : f < l := c6
  intro β w' hs
  refine (hs.keepB (List.nil_sublist _)).fin [] ⟨?_, rfl⟩
  show Value.bool (decide (l ≤ 1099511627776)) = _
  congr 1
  exact decide_eq_decide.2 ⟨fun h => ⟨hnm, h3, h4, by omega, by omega, by omega, by omega, by omega, by omega, by omega, by omega⟩, fun h => by have := h.le; omega⟩
open Classical in
theorem refBody_c (w : World) (t : Tk) (ht : t.Ok) : Con Tryz.prog n_ostiaryref18_Body #[.agg t.cells.toArray] w [] fun v Fs => (t.Right ∧ ∃ A c, v = .tuple #[.slice A (bodyL t).length c, .int .i64 0] ∧ (bodyL t).length ≤ c ∧ Fs = [browF ty_uint8 A (bodyL t) c]) ∨ (¬ t.Right ∧ v = .tuple #[.slice none 0 0, .int .i64 4] ∧ Fs = []) := by
  have g := good_ostiaryref18_Body w (Un [])
  have hml := maxLen_eq
  refine con_of_sx (cx := cx_ostiaryref18_Body w (Un [])) g b_ostiaryref18_Body rfl rfl (β := Va.z) [.agg (t.cells.map SL.v)] 0 [] [] rfl rfl (Sat.start rfl) ?_
  refine call_pu (v := .bool (decide t.Right)) (fun β w' hs => refRight_c w' t ht) ?_
  refine BIf.not (BIf.dec (fun hr => ?_) (fun hr => ?_))
  rotate_left
  · intro β w' hs
    exact (hs.keepB (List.nil_sublist _)).fin [] (.inr ⟨hr, rfl, rfl⟩)
  have l1 := plainF_len hr.ten
  have l2 := namedT_len hr.usr
  have l3 := plainF_len hr.rol
  intro b1
  refine call_con [] (fun β w' hs => be_con w' t.epoch 4 ht.e (by decide)) ?_
  rintro v Fs ⟨A1, c1, rfl, hc1, _, rfl⟩
  have hb4 := be_length 4 t.epoch
  have e0 : preT t 0 = [1] ++ be 4 t.epoch := by unfold preT; simp
  refine ⟨1, 1, (preT t 0).length, [Value.int .u8 1], (be 4 t.epoch).map byte, (preT t 0).map byte, rfl, fun β w' hs => row_rd (hs.get 0 rfl), bytes_one _, by rw [e0, List.length_append]; rfl, by rw [e0, List.map_append]; rfl, by have := pre_len t 0; omega, by have := pre_len t 0; show (preT t 0).length * 1 ≤ _; omega, ?_⟩
  intro A2 c2 _ _ _
  have hSub : ∀ {n : Nat} {F : List Fact}, Sub (cx_ostiaryref18_Body w (Un [])) n [⟨0, ty_ostiaryref18_Ticket, t.cells.map SL.v⟩] F [⟨0, ty_ostiaryref18_Ticket, t.cells.map SL.v⟩] [] := fun {n F} => Sub.of (List.Sublist.refl _) (List.nil_sublist _)
  refine draw_rule g p_ostiaryref18_Body_4 (by kernel_rfl) [⟨0, ty_ostiaryref18_Ticket, t.cells.map SL.v⟩] [] hSub ?_
  have hs1 : ∀ (j : Nat) (n : Nat), (numsT t)[j]? = some n → preT t (j + 1) = preT t j ++ be 8 n := fun j n hx => by
    unfold preT
    rw [List.take_add_one, hx, List.flatMap_append, ← List.append_assoc]
    simp
  have hpl := pre_len t
  refine call_con [] (fun β w' hs => be_con w' t.serial 8 ht.s (by decide)) ?_
  rintro v Fs ⟨B0, d0, rfl, _, _, rfl⟩
  refine ⟨hSub, ?_⟩
  have q0 := hs1 0 t.serial rfl
  have b0 := be_length 8 t.serial
  refine ⟨2, (preT t 0).length, (preT t 1).length, (preT t 0).map byte, (be 8 t.serial).map byte, (preT t 1).map byte, rfl, fun β w' hs => row_rd (hs.get 0 rfl), bytes_one _, by rw [q0, List.length_append], by rw [q0, List.map_append], by have := hpl 1; omega, by have := hpl 1; show (preT t 1).length * 1 ≤ _; omega, ?_⟩
  intro E0 e0 _ _ _
  refine ⟨hSub, ?_⟩
  refine call_con [] (fun β w' hs => be_con w' t.fro 8 ht.f (by decide)) ?_
  rintro v Fs ⟨B1, d1, rfl, _, _, rfl⟩
  refine ⟨hSub, ?_⟩
  have q1 := hs1 1 t.fro rfl
  have b1 := be_length 8 t.fro
  refine ⟨3, (preT t 1).length, (preT t 2).length, (preT t 1).map byte, (be 8 t.fro).map byte, (preT t 2).map byte, rfl, fun β w' hs => row_rd (hs.get 0 rfl), bytes_one _, by rw [q1, List.length_append], by rw [q1, List.map_append], by have := hpl 2; omega, by have := hpl 2; show (preT t 2).length * 1 ≤ _; omega, ?_⟩
  intro E1 e1 _ _ _
  refine ⟨hSub, ?_⟩
  refine call_con [] (fun β w' hs => be_con w' t.til 8 ht.l (by decide)) ?_
  rintro v Fs ⟨B2, d2, rfl, _, _, rfl⟩
  refine ⟨hSub, ?_⟩
  have q2 := hs1 2 t.til rfl
  have b2 := be_length 8 t.til
  refine ⟨4, (preT t 2).length, (preT t 3).length, (preT t 2).map byte, (be 8 t.til).map byte, (preT t 3).map byte, rfl, fun β w' hs => row_rd (hs.get 0 rfl), bytes_one _, by rw [q2, List.length_append], by rw [q2, List.map_append], by have := hpl 3; omega, by have := hpl 3; show (preT t 3).length * 1 ≤ _; omega, ?_⟩
  intro E2 e2 _ _ _
  refine ⟨hSub, ?_⟩
  refine call_con [] (fun β w' hs => be_con w' t.gen 8 ht.g (by decide)) ?_
  rintro v Fs ⟨B3, d3, rfl, _, _, rfl⟩
  refine ⟨hSub, ?_⟩
  have q3 := hs1 3 t.gen rfl
  have b3 := be_length 8 t.gen
  refine ⟨5, (preT t 3).length, (preT t 4).length, (preT t 3).map byte, (be 8 t.gen).map byte, (preT t 4).map byte, rfl, fun β w' hs => row_rd (hs.get 0 rfl), bytes_one _, by rw [q3, List.length_append], by rw [q3, List.map_append], by have := hpl 4; omega, by have := hpl 4; show (preT t 4).length * 1 ≤ _; omega, ?_⟩
  intro E3 e3 _ _ _
  refine ⟨hSub, ?_⟩
  intro b4
  have hpl4 := hpl 4
  have p0 : pre2T t 0 = preT t 4 := by unfold pre2T; simp
  have hp2 : ∀ j, (pre2T t j).length ≤ 200 := fun j => by
    unfold pre2T
    rw [List.length_append]
    have h : (((txtsT t).take j).flatMap txtL).length ≤ ((txtsT t).flatMap txtL).length := by
      have e := congrArg (fun l => (l.flatMap txtL).length) (List.take_append_drop j (txtsT t))
      simp only [List.flatMap_append, List.length_append] at e
      omega
    have h2 : ((txtsT t).flatMap txtL).length = t.ten.length + 1 + (t.usr.length + 1 + (t.rol.length + 1)) := by simp [txtsT, txtL]; omega
    omega
  refine loop_rule (ι := Nat × Option Addr × Nat) 1 (fun j => [(4, .c (.v (.slice j.2.1 (pre2T t j.1).length j.2.2))), (41, .c (.v (.slice (some ⟨b4, 0, none⟩) 3 3))), (42, .c (.v (.int .i64 3))), (43, .c (.v (.int .i64 (j.1 : Int))))]) (fun _ => []) (fun j => [rowF ty_string 1 (.slice (some ⟨b4, 0, none⟩) 3 3) 3 ((txtsT t).map fun l => Value.string (mkS l)), browF ty_uint8 j.2.1 (pre2T t j.1) j.2.2])
    (fun j => j.1 ≤ 3) (fun j => 3 - j.1) (0, E3, e3) (Nat.zero_le _) (Ent.mk' ⟨by rw [p0]; rfl, rfl, rfl, rfl, trivial⟩ rfl (fun β w' hs => by rw [p0]; exact (hs.keepB (List.nil_sublist _)).perm [0, 6])) g ?_
  rintro ⟨i, A5, c5⟩ hi
  simp only at hi
  have hpi := hp2 i
  refine BIf.dec (fun hlt2 => ?_) (fun hge2 => ?_)
  · have hlt20 : (i : Int) < 3 := hlt2
    obtain ⟨l, hx, hxm⟩ := at_lt (l := txtsT t) (k := i) (by show i < 3; omega)
    refine ⟨⟨b4, 0, none⟩, i, rfl, rfl, by omega, .string (mkS l), fun β w' hs => Rd.cell1 (show Rd 1 (some ⟨b4, 0, none⟩) 3 ((txtsT t).map fun l => Value.string (mkS l)) w' from row_rd (hs.get 0 rfl)) (by rw [List.getElem?_map, hx]; rfl), ?_⟩
    have hl32 : l.length ≤ 32 := by
      simp only [txtsT, List.mem_cons, List.not_mem_nil, or_false] at hxm
      rcases hxm with rfl | rfl | rfl
      · exact l1
      · exact l2
      · exact l3
    have hs2 : pre2T t (i + 1) = (pre2T t i ++ [UInt8.ofNat l.length]) ++ l := by
      unfold pre2T
      rw [List.take_add_one, hx, List.flatMap_append, ← List.append_assoc]
      simp [txtL]
    have hbl : byte (UInt8.ofNat l.length) = .int .u8 (l.length : Int) := byte_ofNat _ (by omega)
    refine ⟨(l.length : Int), by show IntKind.u8.wrap (l.length : Int) = _; rw [wrap_u8]; omega, ?_⟩
    intro b5
    refine ⟨2, (pre2T t i).length, (pre2T t i ++ [UInt8.ofNat l.length]).length, (pre2T t i).map byte, [Value.int .u8 (l.length : Int)], (pre2T t i ++ [UInt8.ofNat l.length]).map byte, rfl, fun β w' hs => row_rd (hs.get 0 rfl), fun u hu => by obtain rfl := List.mem_singleton.1 hu; rfl, by rw [List.length_append]; rfl, by rw [List.map_append, ← hbl]; rfl, by rw [List.length_append, hml]; show _ + 1 ≤ _; omega, by rw [List.length_append]; show (_ + 1) * 1 ≤ _; omega, ?_⟩
    intro A6 c6 _ _ _
    have hpi1 := hp2 (i + 1)
    refine ⟨2, (pre2T t i ++ [UInt8.ofNat l.length]).length, l.length, (pre2T t (i + 1)).length, (pre2T t i ++ [UInt8.ofNat l.length]).map byte, l.map byte, (pre2T t (i + 1)).map byte, rfl, ⟨rfl, rfl, by rw [mkS_out]⟩, by rw [hs2]; exact List.length_append.symm, by rw [hs2]; exact List.map_append.symm, by omega, by show (pre2T t (i + 1)).length * 1 ≤ _; omega, ?_⟩
    intro A7 c7 _ _ _
    refine ⟨((i + 1 : Nat) : Int), by rw [wrap_i64 (by omega) (by omega)]; rfl, ?_⟩
    exact ⟨(i + 1, A7, c7), by show i + 1 ≤ 3; omega, by show 3 - (i + 1) < 3 - i; omega, Ent.mk' ⟨rfl, rfl, rfl, rfl, trivial⟩ rfl (fun β w' hs => hs.perm [1, 2])⟩
  · have hge20 : ¬ (i : Int) < 3 := hge2
    obtain rfl : i = 3 := by omega
    have e3 : pre2T t 3 = bodyL t := by
      unfold pre2T preT bodyL
      simp [numsT, txtsT]
    rw [e3] at *
    intro β w' hs
    exact hs.fin [1] (.inl ⟨hr, A5, c5, rfl, brow_cap (hs.get 1 rfl), rfl⟩)
end Go.Proofs.YtlhcgofdfhfegaaGreatDoor.Sx

namespace Go.Proofs.YtlhcgofdfhfegaaGreatDoor.Sx
open Go
attribute [local irreducible] Calls
theorem letA_1 {url : Bool} {n : Nat} (h : n < 26) : letA url n = UInt8.ofNat (65 + n) := by unfold letA; rw [if_pos h]
theorem letA_2 {url : Bool} {n : Nat} (h1 : ¬ n < 26) (h : n < 52) : letA url n = UInt8.ofNat (97 + n - 26) := by unfold letA; rw [if_neg h1, if_pos h]
theorem letA_3 {url : Bool} {n : Nat} (h1 : ¬ n < 26) (h2 : ¬ n < 52) (h : n < 62) : letA url n = UInt8.ofNat (48 + n - 52) := by unfold letA; rw [if_neg h1, if_neg h2, if_pos h]
theorem byte_of {k : Nat} (h : k < 256) : Value.int .u8 ((k : Nat) : Int) = byte (UInt8.ofNat k) := by
  unfold byte
  congr 2
  rw [UInt8.toNat_ofNat']
  omega
theorem letter_c (w : World) (n : Nat) (url : Bool) (hn : n < 64) : Pu Tryz.prog n_ostiaryref03_letter #[.int .i64 (n : Int), .bool url] w (byte (letA url n)) := by
  have g := good_ostiaryref03_letter w (Un [])
  refine con_of_sx (cx := cx_ostiaryref03_letter w (Un [])) g b_ostiaryref03_letter rfl rfl (β := Va.z) [.c (.v (.int .i64 (n : Int))), .c (.v (.bool url))] 0 [] [] rfl rfl (Sat.start rfl) ?_
  refine BIf.dec (fun h1 => ?_) (fun h1 => ?_)
  · have h10 : (n : Int) < 26 := h1
    rw [letA_1 (by omega)]
    refine ⟨(((65 + n) : Nat) : Int), by rw [wrap_i64 (by omega) (by omega)]; rfl, ?_⟩
    refine ⟨((65 + n : Nat) : Int), by rw [IntKind.wrap_u8]; omega, ?_⟩
    intro β w' hs
    exact hs.fin [] ⟨byte_of (by omega), rfl⟩
  have h10 : ¬ (n : Int) < 26 := h1
  refine BIf.dec (fun h2 => ?_) (fun h2 => ?_)
  · have h20 : (n : Int) < 52 := h2
    rw [letA_2 (by omega) (by omega)]
    refine ⟨(((97 + n) : Nat) : Int), by rw [wrap_i64 (by omega) (by omega)]; rfl, ?_⟩
    refine ⟨(((97 + n - 26) : Nat) : Int), by rw [wrap_i64 (by omega) (by omega)]; omega, ?_⟩
    refine ⟨((97 + n - 26 : Nat) : Int), by rw [IntKind.wrap_u8]; omega, ?_⟩
    intro β w' hs
    exact hs.fin [] ⟨byte_of (by omega), rfl⟩
  have h20 : ¬ (n : Int) < 52 := h2
  refine BIf.dec (fun h3 => ?_) (fun h3 => ?_)
  · have h30 : (n : Int) < 62 := h3
    rw [letA_3 (by omega) (by omega) (by omega)]
    refine ⟨(((48 + n) : Nat) : Int), by rw [wrap_i64 (by omega) (by omega)]; rfl, ?_⟩
    refine ⟨(((48 + n - 52) : Nat) : Int), by rw [wrap_i64 (by omega) (by omega)]; omega, ?_⟩
    refine ⟨((48 + n - 52 : Nat) : Int), by rw [IntKind.wrap_u8]; omega, ?_⟩
    intro β w' hs
    exact hs.fin [] ⟨byte_of (by omega), rfl⟩
  have h30 : ¬ (n : Int) < 62 := h3
  refine BIf.dec (fun h4 => ?_) (fun h4 => ?_)
  · have h40 : (n : Int) = 62 := h4
    obtain rfl : n = 62 := by omega
    cases url with
    | true =>
      intro β w' hs
      exact hs.fin [] ⟨by rfl, rfl⟩
    | false =>
      intro β w' hs
      exact hs.fin [] ⟨by rfl, rfl⟩
  · have h40 : ¬ (n : Int) = 62 := h4
    obtain rfl : n = 63 := by omega
    cases url with
    | true =>
      intro β w' hs
      exact hs.fin [] ⟨by rfl, rfl⟩
    | false =>
      intro β w' hs
      exact hs.fin [] ⟨by rfl, rfl⟩
def decOutP (l : Option (List UInt8)) (v : Value) (Fs : List Fact) : Prop := ∃ A l' c e, v = .tuple #[.slice A l'.length c, .int .i64 e] ∧ ((e = 0 ∧ l = some l') ∨ (e ≠ 0 ∧ l = none)) ∧ l'.length ≤ c ∧ Fs = [browF ty_uint8 A l' c]
theorem DecodeURL_c (w : World) (s : List UInt8) (hL : s.length ≤ 1000000) : Con Tryz.prog n_b64_DecodeURL #[.string (mkS s)] w [] (decOutP (decU s)) := by
  have g := good_b64_DecodeURL w (Un [])
  have hml := maxLen_eq
  refine con_of_sx (cx := cx_b64_DecodeURL w (Un [])) g b_b64_DecodeURL rfl rfl (β := Va.z) [.c (.v (.string (mkS s)))] 0 [] [] rfl rfl (Sat.start rfl) ?_
  have huz := mkS_sz s
  refine ⟨by first | decide | omega, ?_⟩
  refine ⟨(((mkS s).size % 4 : Nat) : Int), Int.ofNat_tmod _ _, ?_⟩
  refine BIf.dec (fun h1 => ?_) (fun h1 => ?_)
  · have h11 : (((mkS s).size % 4 : Nat) : Int) = 1 := h1
    intro β w' hs
    exact (hs.nilRow ty_uint8 1).fin [0] ⟨none, [], 0, 2, rfl, .inr ⟨by decide, by unfold decU; rw [if_pos (by omega)]⟩, Nat.le_refl _, rfl⟩
  · have h11 : ¬ (((mkS s).size % 4 : Nat) : Int) = 1 := h1
    have hdp : decU s = decS true s := by unfold decU; rw [if_neg (by omega)]
    refine call_con [] (fun β w' hs => b64dec_c w' _ (mkS s) true ⟨by decide, by decide, by decide⟩ (by omega) (by omega)) ?_
    rintro v Fs ⟨A, l, c, e, rfl, hle, hcap, rfl⟩
    rw [show (mkS s).data.toList = s by simp [mkS], ← hdp] at hle
    intro β w' hs
    exact hs.fin [0] ⟨A, l, c, e, rfl, hle, hcap, rfl⟩
end Go.Proofs.YtlhcgofdfhfegaaGreatDoor.Sx

namespace Go.Proofs.YtlhcgofdfhfegaaGreatDoor.Sx
open Go
theorem BIf.no {P Q : Prop} {b : Bool} (hb : b = false) (h : Q) : BIf P Q b := by subst hb; exact h
end Go.Proofs.YtlhcgofdfhfegaaGreatDoor.Sx

namespace Go.Proofs.YtlhcgofdfhfegaaGreatDoor.Sx
open Go
attribute [local irreducible] Calls
structure OpA where
  d : UInt8
  p : Int
  q : Int
  K : Option Addr
  key : List UInt8
  cK : Nat
  X : Option Addr
  text : List UInt8
  cX : Nat
  r : Int
  raw : Bool
def OpA.cells (o : OpA) : List Value := [.int .u8 o.d.toNat, .int .i64 o.p, .int .i64 o.q, .slice o.K o.key.length o.cK, .slice o.X o.text.length o.cX, .int .i64 o.r, .bool o.raw]
structure TOk (B : Bx.Box) (ts : List Part) : Prop where
  inv : BInv B
  n : ts.length ≤ 1000
  tg : ∀ p ∈ ts, p.2.1.length = 32 ∧ ∃ r, B.opens p.2.1 = some r
structure Lo (B : Bx.Box) (y z : Lay) : Prop where
  y : y.ts.map (·.1) = B.L
  z : z.ts.map (·.1) = B.L
def OpA.ok (w : World) (o : OpA) : Prop := (Bs w o.K o.key ∧ o.key.length ≤ o.cK) ∧ (Bs w o.X o.text ∧ o.text.length ≤ o.cX)
structure LS where
  k : Nat
  B : Bx.Box
  y : Lay
  z : Lay
  T : Option Addr
  c : Nat
  ts : List Part
structure LS.Ok (i : LS) (n m : Nat) : Prop where
  k : i.k ≤ n
  lo : Lo i.B i.y i.z
  ok : TOk i.B i.ts
  bl : i.B.L.length ≤ min i.k m
  tl : i.ts.length ≤ min i.k m
def LS.start (sym : Bool) (y0 : Lay) : LS := ⟨0, ⟨sym, false, []⟩, y0, ⟨none, 0, 0, []⟩, none, 0, []⟩
theorem LS.Ok.next {i : LS} {n m : Nat} (h : i.Ok n m) (hk : i.k < n) (hm : i.k < m) {B' : Bx.Box} {y z : Lay} {T : Option Addr} {c : Nat} {ts' : List Part} (he : Ext i.B B') (hl : Lo B' y z) (ho : TOk B' ts') (ht : ts'.length ≤ i.ts.length + 1) : (LS.mk (i.k + 1) B' y z T c ts').Ok n m := by
  have h1 := h.bl
  have h2 := h.tl
  have h3 := he.len
  exact ⟨hk, hl, ho, by show B'.L.length ≤ min (i.k + 1) m; omega, by show ts'.length ≤ min (i.k + 1) m; omega⟩
def hit (t : List UInt8) (i : Nat) : Option Nat := match Bx.looks ((t.drop i).take 32) with
  | some n => if 0 < n then some n else none
  | none => none
def eqs (n : Nat) : List UInt8 := List.replicate n 61
end Go.Proofs.YtlhcgofdfhfegaaGreatDoor.Sx

namespace Go.Proofs.YtlhcgofdfhfegaaGreatDoor.Sx
open Go
open Go.ChangeMaps (setBlock)
variable {kk : IntKind}
def itIP (kk : IntKind) (b r : Nat) (l ss : MLI) (cur : Option (Int × Value)) (w : World) : Prop :=
  ∃ (es ds : List MEI) (k since c0 : Nat) (seen : Array Nat), w.heap[b]? = some (.map (es.map (MEI.ent kk)).toArray k) ∧ MapIOk es k l ∧ w.heap[r]? = some (.mapIter (some b) since seen c0) ∧ r ≠ b ∧ (∀ e ∈ es, e.2.2 < since) ∧ since ≤ c0 ∧ since ≤ k ∧
    ds.map MEI.cut = ss ∧ seen.toList = ds.map (·.2.2) ∧ (∀ d ∈ ds, d ∈ es) ∧ (ds.map (·.2.2)).Nodup ∧
    ∀ x, cur = some x → ∃ (d : MEI) (s0 : Array Nat), d ∈ es ∧ d.cut = x ∧ seen = s0.push d.2.2 ∧ c0 = k
def itIF (kk : IntKind) (b r : Nat) (l ss : MLI) (cur : Option (Int × Value)) : Fact where
  own := true
  D := fun g => g = b ∨ g = r
  p := itIP kk b r l ss cur
  st := fun w w' hs ⟨es, ds, k, since, c0, seen, h1, h2, h3, h4⟩ => ⟨es, ds, k, since, c0, seen, by rw [hs b (.inl rfl)]; exact h1, h2, by rw [hs r (.inr rfl)]; exact h3, h4⟩
theorem born_inj {es : List MEI} {k : Nat} {l : MLI} (h : MapIOk es k l) {d e : MEI} (hd : d ∈ es) (he : e ∈ es) (q : d.2.2 = e.2.2) : d = e := by
  have hp := List.pairwise_map.1 h.inc
  clear h
  induction es with
  | nil => cases hd
  | cons a r ih =>
    obtain ⟨h1, h2⟩ := List.pairwise_cons.1 hp
    rcases List.mem_cons.1 hd with rfl | hd'
    · rcases List.mem_cons.1 he with rfl | he'
      · rfl
      · have := h1 e he'
        omega
    · rcases List.mem_cons.1 he with rfl | he'
      · have := h1 d hd'
        omega
      · exact ih hd' he' h2
theorem born_nodup {es : List MEI} {k : Nat} {l : MLI} (h : MapIOk es k l) : (es.map (·.2.2)).Nodup := h.inc.imp fun h => Nat.ne_of_lt h
theorem nodup_len : ∀ {xs ys : List Nat}, xs.Nodup → (∀ x ∈ xs, x ∈ ys) → xs.length ≤ ys.length
  | [], _, _, _ => Nat.zero_le _
  | x :: r, ys, hn, hs => by
    obtain ⟨h1, h2⟩ := List.nodup_cons.1 hn
    have hx := hs x (by simp)
    have ih := nodup_len (xs := r) (ys := ys.erase x) h2 fun y hy => (List.mem_erase_of_ne (fun q : y = x => h1 (q ▸ hy))).2 (hs y (by simp [hy]))
    have hl := List.length_erase_of_mem hx
    have hp := List.length_pos_of_mem hx
    simp only [List.length_cons]
    omega
def nxtV (kk : IntKind) : Option (Int × Value) → Value
  | none => .tuple #[.bool false]
  | some x => .tuple #[.bool true, .int kk x.1, x.2]
def NxtI (l ss : MLI) : Option (Int × Value) → Prop
  | none => ss.Perm l
  | some x => x ∈ l ∧ ss.length < l.length
def nxtF (kk : IntKind) (b r : Nat) (l ss : MLI) (cur : Option (Int × Value)) : Option (Int × Value) → Fact
  | none => itIF kk b r l ss cur
  | some x => itIF kk b r l (ss ++ [x]) (some x)
theorem perm_of {es ds : List MEI} (h1 : (es.map (·.2.2)).Nodup) (h2 : (ds.map (·.2.2)).Nodup) (hs : ∀ d ∈ ds, d ∈ es) (ha : ∀ e ∈ es, e ∈ ds) : ds.Perm es := by
  have n1 : es.Nodup := (List.pairwise_map.1 h1).imp fun {a b} q e => q (by rw [e])
  have n2 : ds.Nodup := (List.pairwise_map.1 h2).imp fun {a b} q e => q (by rw [e])
  exact (List.perm_ext_iff_of_nodup n2 n1).2 fun x => ⟨hs x, ha x⟩
section
variable {cx : Cx} {β : Va} {n : Nat} {H : List Bk} {F : List Fact} {w : World}
theorem Sat.rangeI (h : Sat cx β n H F w) (g : Good cx) (j : Nat) {b : Nat} {l : MLI} (hj : nth F j = some (mapIF kk b l)) {t kt et : TypeId} {i : TI} (hi : lk cx.tt t = some i := by rfl) (hd : i.desc = .map kt et := by rfl) :
    ∃ r w', (Instr.range t (.map (some b))).run cx.P w = .ok (.pointer (some ⟨r, 0, none⟩)) w' ∧ Sat cx β n H (putAt F j (itIF kk b r l [] none)) w' := by
  obtain ⟨es, k, hb, hm⟩ := h.get j hj
  have hlt : b < w.heap.size := (Array.getElem?_eq_some_iff.1 hb).1
  refine ⟨w.heap.size, _, run_range_map w t kt et b _ k ((g.ti hi).real (d := .map _ _) hd rfl) hb, h.upd hj rfl ((Chg.alloc w _).mono fun _ _ h => h.elim) ⟨es, [], k, k, k, #[], ?_, hm, heap_alloc_new w _, by omega, hm.lt, Nat.le_refl _, Nat.le_refl _, rfl, rfl, (fun d h => by cases h), List.nodup_nil, fun x h => by cases h⟩ (fun q hq => ?_)⟩
  · exact ((MapKept.heap_alloc w _).2 b hlt).trans hb
  · rcases hq with rfl | rfl
    · exact .inl rfl
    · exact .inr ⟨Nat.le_refl _, by simp⟩
theorem Sat.nextI (h : Sat cx β n H F w) (j : Nat) {b r : Nat} {l ss : MLI} {cur : Option (Int × Value)} (hj : nth F j = some (itIF kk b r l ss cur)) (ty : TypeId) :
    ∃ (o : {o : Option (Int × Value) // NxtI l ss o}) (w' : World), (Instr.next (.pointer (some ⟨r, 0, none⟩)) false ty).run cx.P w = .ok (nxtV kk o.1) w' ∧ Sat cx β n H (putAt F j (nxtF kk b r l ss cur o.1)) w' := by
  have hp := h.get j hj
  obtain ⟨es, ds, k, since, c0, seen, hb, hm, hr, hne, hold, hsc, hsk, hss, hseen, hsub, hnd, hcur⟩ := hp
  have hold' : ∀ x ∈ (es.map (MEI.ent kk)).toArray.toList, x.born < since := by
    intro x hx
    rw [List.toList_toArray] at hx
    obtain ⟨e, he, rfl⟩ := List.mem_map.1 hx
    exact hold e he
  have hin : ∀ e ∈ es, seen.contains e.2.2 = true → e ∈ ds := by
    intro e he q
    have q2 : e.2.2 ∈ ds.map (·.2.2) := by rw [← hseen]; simpa using q
    obtain ⟨d, hd, e2⟩ := List.mem_map.1 q2
    rwa [← born_inj hm (hsub d hd) he e2]
  rcases run_next_at (P := cx.P) w ty r b since c0 seen _ k hr hb hold' hsc with ⟨h0, hrun⟩ | ⟨e, he, w1, hal, hrun⟩
  · have hall : ∀ e ∈ es, e ∈ ds := by
      intro e he
      refine hin e he ?_
      cases q : seen.contains e.2.2 with
      | true => rfl
      | false =>
        have : (MEI.ent kk e) ∈ leftOf (es.map (MEI.ent kk)).toArray seen := by
          unfold leftOf
          rw [Array.mem_filter]
          exact ⟨by rw [List.mem_toArray]; exact List.mem_map.2 ⟨e, he, rfl⟩, by show (!seen.contains e.2.2) = true; rw [q]; rfl⟩
        have e0 := Array.eq_empty_of_size_eq_zero h0
        rw [e0] at this
        simp at this
    have hperm : ss.Perm l := by
      rw [← hss, ← hm.cut]
      exact (perm_of (born_nodup hm) hnd hsub hall).map _
    refine ⟨⟨none, hperm⟩, w, hrun, ?_⟩
    show Sat cx β n H (putAt F j (itIF kk b r l ss cur)) w
    exact h.upd hj rfl (Chg.refl _ _) (h.get j hj) (fun q hq => .inl hq)
  · unfold leftOf at he
    rw [Array.mem_toList_iff, Array.mem_filter] at he
    obtain ⟨he1, he2⟩ := he
    obtain ⟨d, hd, rfl⟩ : ∃ d ∈ es, MEI.ent kk d = e := by simpa using he1
    have hns : ¬ seen.contains d.2.2 = true := by
      intro q
      have q2 : (!seen.contains d.2.2) = true := he2
      rw [q] at q2
      cases q2
    have hnd2 : d ∉ ds := fun q => hns (by
      have : d.2.2 ∈ seen.toList := by rw [hseen]; exact List.mem_map.2 ⟨d, q, rfl⟩
      simpa using this)
    have hlen : ss.length < l.length := by
      have hx := nodup_len (xs := d.2.2 :: ds.map (·.2.2)) (ys := es.map (·.2.2)) (List.nodup_cons.2 ⟨fun q => ?_, hnd⟩) (fun x hx => ?_)
      · rw [← hss, ← hm.cut, List.length_map, List.length_map]
        simp only [List.length_cons, List.length_map] at hx
        omega
      · obtain ⟨d', hd', e2⟩ := List.mem_map.1 q
        rw [born_inj hm (hsub d' hd') hd e2] at hd'
        exact hnd2 hd'
      · rcases List.mem_cons.1 hx with rfl | hx
        · exact List.mem_map.2 ⟨d, hd, rfl⟩
        · obtain ⟨d', hd', rfl⟩ := List.mem_map.1 hx
          exact List.mem_map.2 ⟨d', hsub d' hd', rfl⟩
    have hmem : d.cut ∈ l := by rw [← hm.cut]; exact List.mem_map.2 ⟨d, hd, rfl⟩
    refine ⟨⟨some d.cut, hmem, hlen⟩, _, hrun, ?_⟩
    have hr1 : w1.heap[r]? = some (.mapIter (some b) since seen c0) := by rcases hal with rfl | rfl <;> exact hr
    have hb1 : w1.heap[b]? = some (.map (es.map (MEI.ent kk)).toArray k) := by rcases hal with rfl | rfl <;> exact hb
    have hset := MapKept.heap_set (o' := .mapIter (some b) since (seen.push d.2.2) k) hr1
    refine h.upd hj rfl ?_ ?_ (fun q hq => .inl hq)
    · rcases hal with rfl | rfl <;> exact ⟨rfl, rfl, rfl, by simp [setBlock], fun i _ hi => hset.2 i (fun e1 => hi (.inr e1))⟩
    · refine ⟨es, ds ++ [d], k, since, k, seen.push d.2.2, (hset.2 b (fun e1 => hne e1.symm)).trans hb1, hm, hset.1, hne, hold, hsk, hsk, ?_, ?_, ?_, ?_, ?_⟩
      · rw [List.map_append, hss]
        rfl
      · rw [Array.toList_push, hseen, List.map_append]
        rfl
      · intro x hx
        rcases List.mem_append.1 hx with hx | hx
        · exact hsub x hx
        · obtain rfl := List.mem_singleton.1 hx
          exact hd
      · rw [List.map_append]
        refine List.nodup_append.2 ⟨hnd, by simp, fun x hx y hy q => ?_⟩
        simp only [List.map_cons, List.map_nil, List.mem_singleton] at hy
        subst hy q
        rw [← hseen] at hx
        exact hns (by simpa using hx)
      · intro x hx
        cases hx
        exact ⟨d, seen, hd, rfl, rfl, rfl⟩
theorem Sat.entryI (h : Sat cx β n H F w) (j : Nat) {b r : Nat} {l ss : MLI} {x : Int × Value} (hj : nth F j = some (itIF kk b r l ss (some x))) :
    (Instr.entry (.pointer (some ⟨r, 0, none⟩))).run cx.P w = .ok (.tuple #[.int kk x.1, x.2]) w := by
  obtain ⟨es, ds, k, since, c0, seen, hb, hm, hr, hne, hold, hsc, hsk, hss, hseen, hsub, hnd, hcur⟩ := h.get j hj
  obtain ⟨d, s0, hd, rfl, rfl, rfl⟩ := hcur x rfl
  have hn : ((es.map (MEI.ent kk)).toArray.toList.map (·.born)).Nodup := by
    rw [List.toList_toArray, List.map_map]
    exact born_nodup hm
  exact run_entry_at w r b since s0 _ c0 (MEI.ent kk d) hr hb (by rw [List.toList_toArray]; exact List.mem_map.2 ⟨d, hd, rfl⟩) hn
end
end Go.Proofs.YtlhcgofdfhfegaaGreatDoor.Sx

namespace Go.Proofs.YtlhcgofdfhfegaaGreatDoor.Sx
open Go
attribute [local irreducible] Calls
theorem decG_len : ∀ {vs : List Nat} {l : List UInt8}, decG vs = some l → l.length ≤ vs.length
  | [], l, h => by
    simp only [decG] at h
    obtain rfl := Option.some.inj h
    exact Nat.le_refl _
  | [a], l, h => by simp [decG] at h
  | [a, b], l, h => by
    simp only [decG] at h
    split at h
    · obtain rfl := Option.some.inj h
      simp
    · cases h
  | [a, b, c], l, h => by
    simp only [decG] at h
    split at h
    · obtain rfl := Option.some.inj h
      simp
    · cases h
  | a :: b :: c :: d :: r, l, h => by
    simp only [decG] at h
    cases hr : decG r with
    | none => rw [hr] at h; cases h
    | some m =>
      rw [hr] at h
      obtain rfl := Option.some.inj h
      have := decG_len hr
      simp only [List.length_cons]
      omega
theorem decS_len {url : Bool} {s l : List UInt8} (h : decS url s = some l) : l.length ≤ s.length := by
  unfold decS at h
  cases hv : valsA url s with
  | none => rw [hv] at h; cases h
  | some vs =>
    rw [hv] at h
    have h1 := decG_len (show decG vs = some l from h)
    rw [(valsA_len hv).1] at h1
    exact h1
theorem decU_len {s l : List UInt8} (h : decU s = some l) : l.length ≤ s.length := by
  unfold decU at h
  split at h
  · cases h
  · exact decS_len h
theorem eqs_snoc (m : Nat) : eqs m ++ [61] = eqs (m + 1) := by
  unfold eqs
  rw [List.replicate_succ']
theorem eqs_len (m : Nat) : (eqs m).length = m := by simp [eqs]
def bitA (p : List UInt8) (i : Nat) : Nat := (p.getD (i / 8) 0).toNat / 2 ^ (7 - i % 8) % 2
def sixM (p : List UInt8) (a m : Nat) : Nat := (List.range m).foldl (fun n j => n * 2 + bitA p (a + j)) 0
theorem sixM_succ (p : List UInt8) (a m : Nat) : sixM p a (m + 1) = sixM p a m * 2 + bitA p (a + m) := by
  unfold sixM
  rw [List.range_succ, List.foldl_append]
  rfl
def encG : List UInt8 → List Nat
  | x :: y :: z :: r => x.toNat / 4 :: (x.toNat % 4 * 16 + y.toNat / 16) :: (y.toNat % 16 * 4 + z.toNat / 64) :: (z.toNat % 64) :: encG r
  | [x, y] => [x.toNat / 4, x.toNat % 4 * 16 + y.toNat / 16, y.toNat % 16 * 4]
  | [x] => [x.toNat / 4, x.toNat % 4 * 16]
  | [] => []
theorem u8n_at (x : UInt8) : u8n x.toNat = x := UInt8.ofNat_toNat
theorem encG_lt : ∀ (p : List UInt8), ∀ v ∈ encG p, v < 64
  | x :: y :: z :: r, v, h => by
    have hx := x.toNat_lt
    have hy := y.toNat_lt
    have hz := z.toNat_lt
    simp only [encG, List.mem_cons] at h
    rcases h with rfl | rfl | rfl | rfl | h
    · omega
    · omega
    · omega
    · omega
    · exact encG_lt r v h
  | [x, y], v, h => by
    have hx := x.toNat_lt
    have hy := y.toNat_lt
    simp only [encG, List.mem_cons, List.not_mem_nil, or_false] at h
    rcases h with rfl | rfl | rfl <;> omega
  | [x], v, h => by
    have hx := x.toNat_lt
    simp only [encG, List.mem_cons, List.not_mem_nil, or_false] at h
    rcases h with rfl | rfl <;> omega
  | [], v, h => by cases h
theorem dec_enc : ∀ (p : List UInt8), decG (encG p) = some p
  | x :: y :: z :: r => by
    have hx := x.toNat_lt
    have hy := y.toNat_lt
    have hz := z.toNat_lt
    simp only [encG, decG, dec_enc r, Option.map_some]
    have e1 : x.toNat / 4 * 4 + (x.toNat % 4 * 16 + y.toNat / 16) / 16 = x.toNat := by omega
    have e2 : (x.toNat % 4 * 16 + y.toNat / 16) % 16 * 16 + (y.toNat % 16 * 4 + z.toNat / 64) / 4 = y.toNat := by omega
    have e3 : (y.toNat % 16 * 4 + z.toNat / 64) % 4 * 64 + z.toNat % 64 = z.toNat := by omega
    rw [e1, e2, e3, u8n_at, u8n_at, u8n_at]
  | [x, y] => by
    have hx := x.toNat_lt
    have hy := y.toNat_lt
    simp only [encG, decG]
    have e0 : y.toNat % 16 * 4 % 4 = 0 := by omega
    have e1 : x.toNat / 4 * 4 + (x.toNat % 4 * 16 + y.toNat / 16) / 16 = x.toNat := by omega
    have e2 : (x.toNat % 4 * 16 + y.toNat / 16) % 16 * 16 + (y.toNat % 16 * 4) / 4 = y.toNat := by omega
    rw [if_pos e0, e1, e2, u8n_at, u8n_at]
  | [x] => by
    have hx := x.toNat_lt
    simp only [encG, decG]
    have e0 : x.toNat % 4 * 16 % 16 = 0 := by omega
    have e1 : x.toNat / 4 * 4 + x.toNat % 4 * 16 / 16 = x.toNat := by omega
    rw [if_pos e0, e1, u8n_at]
  | [] => rfl
theorem encG_len : ∀ (p : List UInt8), (encG p).length = (8 * p.length + 5) / 6
  | x :: y :: z :: r => by
    have := encG_len r
    simp only [encG, List.length_cons]
    omega
  | [x, y] => by simp [encG]
  | [x] => by simp [encG]
  | [] => by simp [encG]
theorem sixM_6 (p : List UInt8) (a : Nat) : sixM p a 6 = ((((bitA p a * 2 + bitA p (a + 1)) * 2 + bitA p (a + 2)) * 2 + bitA p (a + 3)) * 2 + bitA p (a + 4)) * 2 + bitA p (a + 5) := by
  simp only [sixM_succ]
  simp [sixM]
theorem bitA_drop (x y z : UInt8) (r : List UInt8) (i : Nat) : bitA (x :: y :: z :: r) (24 + i) = bitA r i := by
  unfold bitA
  rw [show (24 + i) / 8 = i / 8 + 1 + 1 + 1 by omega, show (24 + i) % 8 = i % 8 by omega]
  simp only [List.getD_cons_succ]
theorem enc_at : ∀ (p : List UInt8) (k : Nat), k < (encG p).length → (encG p)[k]? = some (sixM p (6 * k) 6)
  | x :: y :: z :: r, k, h => by
    have hx := x.toNat_lt
    have hy := y.toNat_lt
    have hz := z.toNat_lt
    match k, h with
    | 0, _ =>
      rw [sixM_6]
      simp only [encG, bitA, List.getElem?_cons_zero]
      simp
      omega
    | 1, _ =>
      rw [sixM_6]
      simp only [encG, bitA, List.getElem?_cons_succ, List.getElem?_cons_zero]
      simp
      omega
    | 2, _ =>
      rw [sixM_6]
      simp only [encG, bitA, List.getElem?_cons_succ, List.getElem?_cons_zero]
      simp
      omega
    | 3, _ =>
      rw [sixM_6]
      simp only [encG, bitA, List.getElem?_cons_succ, List.getElem?_cons_zero]
      simp
      omega
    | k + 4, h =>
      have ih := enc_at r k (by simp only [encG, List.length_cons] at h; omega)
      simp only [encG, List.getElem?_cons_succ]
      rw [ih, sixM_6, sixM_6, show 6 * (k + 4) = 24 + 6 * k by omega]
      simp only [Nat.add_assoc, bitA_drop]
  | [x, y], k, h => by
    have hx := x.toNat_lt
    have hy := y.toNat_lt
    match k, h with
    | 0, _ => rw [sixM_6]; simp only [encG, bitA, List.getElem?_cons_zero]; simp; omega
    | 1, _ => rw [sixM_6]; simp only [encG, bitA, List.getElem?_cons_succ, List.getElem?_cons_zero]; simp; omega
    | 2, _ => rw [sixM_6]; simp only [encG, bitA, List.getElem?_cons_succ, List.getElem?_cons_zero]; simp; omega
    | k + 3, h => simp only [encG, List.length_cons, List.length_nil] at h; omega
  | [x], k, h => by
    have hx := x.toNat_lt
    match k, h with
    | 0, _ => rw [sixM_6]; simp only [encG, bitA, List.getElem?_cons_zero]; simp; omega
    | 1, _ => rw [sixM_6]; simp only [encG, bitA, List.getElem?_cons_succ, List.getElem?_cons_zero]; simp; omega
    | k + 2, h => simp only [encG, List.length_cons, List.length_nil] at h; omega
  | [], k, h => by cases h
def b64L (url : Bool) (p : List UInt8) : List UInt8 := (encG p).map (letA url)
def encS (url : Bool) (p : List UInt8) : List UInt8 := match url with
  | true => b64L true p
  | false => b64L false p ++ eqs ((4 - (b64L false p).length % 4) % 4)
theorem bitA_lt (p : List UInt8) (i : Nat) : bitA p i < 2 := Nat.mod_lt _ (by decide)
theorem bitA_out {p : List UInt8} {i : Nat} (h : ¬ i < 8 * p.length) : bitA p i = 0 := by
  unfold bitA
  rw [List.getD_eq_getElem?_getD, List.getElem?_eq_none (by omega)]
  simp
theorem sixM_lt (p : List UInt8) (a : Nat) : ∀ m, m ≤ 6 → sixM p a m < 2 ^ m
  | 0, _ => Nat.one_pos
  | m + 1, h => by
    have := sixM_lt p a m (by omega)
    have := bitA_lt p (a + m)
    rw [sixM_succ, Nat.pow_succ]
    omega
theorem and1_u8 {x : Nat} (hx : x < 256) : bits .and .u8 (x : Int) 1 = ((x % 2 : Nat) : Int) := by
  show IntKind.u8.wrap (((BitVec.ofInt 8 (x : Int)) &&& (BitVec.ofInt 8 1)).toNat : Int) = _
  have h1 : (BitVec.ofInt 8 (x : Int)).toNat = x := by
    rw [BitVec.toNat_ofInt]
    omega
  have h2 : (BitVec.ofInt 8 1).toNat = 2 ^ 1 - 1 := by decide
  rw [BitVec.toNat_and, h1, h2, Nat.and_two_pow_sub_one_eq_mod, IntKind.wrap_u8]
  omega
theorem rEncode_c (w : World) (A : Option Addr) (p : List UInt8) (c : Nat) (url : Bool) (hl : p.length ≤ 1000000) (hm : Mem w [bsF A p]) : Con Tryz.prog n_ostiaryref03_Encode #[.slice A p.length c, .bool url] w [] fun v Fs => v = .string (mkS (encS url p)) ∧ Fs = [] := by
  have g := good_ostiaryref03_Encode w (Un [])
  have hml := maxLen_eq
  have hs0 : Sat (cx_ostiaryref03_Encode w (Un [])) Va.z 0 [] [bsF A p] w := hm.sat0 rfl (fun f hf ho k hk => by obtain rfl := List.mem_singleton.1 hf; cases ho)
  have hp : Bs w A p := hm.fact (bsF A p) (by simp)
  refine con_of_sx (cx := cx_ostiaryref03_Encode w (Un [])) g b_ostiaryref03_Encode rfl rfl (β := Va.z) [.c (.v (.slice A p.length c)), .c (.v (.bool url))] 0 [] _ rfl rfl hs0 ?_
  refine ⟨(((8 * p.length) : Nat) : Int), by rw [wrap_i64 (by omega) (by omega)]; rfl, ?_⟩
  have hEl : (b64L url p).length = (8 * p.length + 5) / 6 := by unfold b64L; rw [List.length_map, encG_len]
  obtain ⟨E, hE⟩ : ∃ E, b64L url p = E := ⟨_, rfl⟩
  rw [hE] at hEl
  refine loop_rule (ι := Nat × Option Addr × Nat) 0 (fun j => [(0, .c (.v (.slice A p.length c))), (1, .c (.v (.bool url))), (5, .c (.v (.slice j.2.1 (E.take j.1).length j.2.2))), (6, .c (.v (.int .i64 ((8 * p.length : Nat) : Int)))), (7, .c (.v (.int .i64 ((6 * j.1 : Nat) : Int))))]) (fun _ => []) (fun j => [browF ty_uint8 j.2.1 (E.take j.1) j.2.2, bsF A p])
    (fun j => j.1 ≤ E.length) (fun j => E.length - j.1) (0, none, 0) (Nat.zero_le _) (Ent.mk' ⟨rfl, rfl, rfl, rfl, rfl, trivial⟩ rfl (fun β w' hs => hs.nilRow ty_uint8 1)) g ?_
  rintro ⟨k, B, d⟩ hk
  simp only at hk
  have hkl : (E.take k).length = k := by rw [List.length_take]; omega
  refine BIf.dec (fun hlt => ?_) (fun hge => ?_)
  · have hlt0 : ((6 * k : Nat) : Int) < ((8 * p.length : Nat) : Int) := hlt
    have hkE : k < E.length := by omega
    have hEk : E[k]? = some (letA url (sixM p (6 * k) 6)) := by
      rw [← hE]
      unfold b64L
      rw [List.getElem?_map, enc_at p k (by rw [encG_len]; omega)]
      rfl
    refine loop_rule (ι := Nat) 0 (fun j => [(0, .c (.v (.slice A p.length c))), (1, .c (.v (.bool url))), (5, .c (.v (.slice B (E.take k).length d))), (6, .c (.v (.int .i64 ((8 * p.length : Nat) : Int)))), (7, .c (.v (.int .i64 ((6 * k : Nat) : Int)))), (8, .c (.v (.int .i64 (sixM p (6 * k) j : Int)))), (9, .c (.v (.int .i64 ((6 * k + j : Nat) : Int))))]) (fun _ => []) (fun j => [browF ty_uint8 B (E.take k) d, bsF A p])
      (fun j => j ≤ 6) (fun j => 6 - j) (0 : Nat) (Nat.zero_le _) (Ent.mk' ⟨rfl, rfl, rfl, rfl, rfl, rfl, rfl, trivial⟩ rfl (fun β w' hs => hs)) g ?_
    intro m hm6
    have h6 := sixM_lt p (6 * k) m hm6
    have h64 : 2 ^ m ≤ 64 := Nat.pow_le_pow_right (by decide) hm6
    refine ⟨((6 * k + 6 : Nat) : Int), by rw [wrap_i64 (by omega) (by omega)]; rfl, ?_⟩
    refine BIf.dec (fun hlt2 => ?_) (fun hge2 => ?_)
    · have hlt20 : ((6 * k + m : Nat) : Int) < ((6 * k + 6 : Nat) : Int) := hlt2
      refine ⟨((sixM p (6 * k) m * 2 : Nat) : Int), by rw [wrap_i64 (by omega) (by omega)]; rfl, ?_⟩
      refine BIf.dec (fun hin => ?_) (fun hout => ?_)
      · have hin0 : ((6 * k + m : Nat) : Int) < ((8 * p.length : Nat) : Int) := hin
        obtain ⟨y, hy, -⟩ := at_lt (show (6 * k + m) / 8 < p.length by omega)
        obtain ⟨ad, hA⟩ := Bs.addr hp (by omega)
        have hbit : bitA p (6 * k + m) = y.toNat / 2 ^ (7 - (6 * k + m) % 8) % 2 := by
          unfold bitA
          rw [List.getD_eq_getElem?_getD, hy]
          rfl
        refine ⟨by first | decide | omega, ?_⟩
        refine ⟨(((6 * k + m) / 8 : Nat) : Int), by rw [show (((6 * k + m : Nat) : Int)).tdiv 8 = (((6 * k + m) / 8 : Nat) : Int) from (Int.ofNat_tdiv _ _).symm, wrap_i64 (by omega) (by omega)], ?_⟩
        refine ⟨ad, (6 * k + m) / 8, hA, rfl, by omega, ?_⟩
        refine ⟨byte y, fun β w' hs => Rd.cell1 (show Rd 1 (some ad) p.length (p.map byte) w' from hA ▸ hs.get 1 rfl) (by rw [List.getElem?_map, hy]; rfl), ?_⟩
        refine ⟨by first | decide | omega, ?_⟩
        refine ⟨(((6 * k + m) % 8 : Nat) : Int), Int.ofNat_tmod _ _, ?_⟩
        refine ⟨((7 - (6 * k + m) % 8 : Nat) : Int), by rw [wrap_i64 (by omega) (by omega)]; omega, ?_⟩
        refine ⟨by first | decide | omega, ?_⟩
        obtain ⟨sh, hsh⟩ : ∃ sh, 7 - (6 * k + m) % 8 = sh := ⟨_, rfl⟩
        rw [hsh] at hbit ⊢
        refine ⟨((y.toNat / 2 ^ sh : Nat) : Int), by
          rw [Int.toNat_natCast, show min sh IntKind.u8.bits = sh from Nat.min_eq_left (by show sh ≤ 8; omega), show ((2 : Int) ^ sh) = ((2 ^ sh : Nat) : Int) by simp, Int.fdiv_eq_ediv_of_nonneg _ (Int.natCast_nonneg _)]
          rfl, ?_⟩
        have hyl := y.toNat_lt
        have hdv : y.toNat / 2 ^ sh < 256 := Nat.lt_of_le_of_lt (Nat.div_le_self _ _) hyl
        refine ⟨((y.toNat / 2 ^ sh % 2 : Nat) : Int), and1_u8 hdv, ?_⟩
        rw [← hbit]
        have hb2 := bitA_lt p (6 * k + m)
        refine BIf.dec (fun h1 => ?_) (fun h1 => ?_)
        · have h10 : ((bitA p (6 * k + m) : Nat) : Int) = 1 := h1
          have hb1 : bitA p (6 * k + m) = 1 := by omega
          refine ⟨((sixM p (6 * k) m * 2 + 1 : Nat) : Int), by rw [wrap_i64 (by omega) (by omega)]; rfl, ?_⟩
          refine ⟨((6 * k + (m + 1) : Nat) : Int), by rw [wrap_i64 (by omega) (by omega)]; rfl, ?_⟩
          exact ⟨m + 1, by omega, by omega, Ent.mk' ⟨rfl, rfl, rfl, rfl, rfl, by rw [sixM_succ, hb1]; rfl, rfl, trivial⟩ rfl (fun β w' hs => hs)⟩
        · have h10 : ¬ ((bitA p (6 * k + m) : Nat) : Int) = 1 := h1
          have hb0 : bitA p (6 * k + m) = 0 := by omega
          refine ⟨((6 * k + (m + 1) : Nat) : Int), by rw [wrap_i64 (by omega) (by omega)]; rfl, ?_⟩
          exact ⟨m + 1, by omega, by omega, Ent.mk' ⟨rfl, rfl, rfl, rfl, rfl, by rw [sixM_succ, hb0]; rfl, rfl, trivial⟩ rfl (fun β w' hs => hs)⟩
      · have hout0 : ¬ ((6 * k + m : Nat) : Int) < ((8 * p.length : Nat) : Int) := hout
        have hb0 := bitA_out (p := p) (i := 6 * k + m) (by omega)
        refine ⟨((6 * k + (m + 1) : Nat) : Int), by rw [wrap_i64 (by omega) (by omega)]; rfl, ?_⟩
        exact ⟨m + 1, by omega, by omega, Ent.mk' ⟨rfl, rfl, rfl, rfl, rfl, by rw [sixM_succ, hb0]; rfl, rfl, trivial⟩ rfl (fun β w' hs => hs)⟩
    · have hge20 : ¬ ((6 * k + m : Nat) : Int) < ((6 * k + 6 : Nat) : Int) := hge2
      obtain rfl : m = 6 := by omega
      refine call_pu (fun β w' hs => letter_c w' (sixM p (6 * k) 6) url (by omega)) ?_
      intro b1
      have hE1 : E.take (k + 1) = E.take k ++ [letA url (sixM p (6 * k) 6)] := by rw [List.take_add_one, hEk]; rfl
      have hE1l : (E.take k).length + 1 = (E.take (k + 1)).length := by rw [hE1, List.length_append]; rfl
      refine ⟨1, (E.take k).length, (E.take (k + 1)).length, (E.take k).map byte, [letA url (sixM p (6 * k) 6)].map byte, (E.take (k + 1)).map byte, rfl, fun β w' hs => row_rd (hs.get 0 rfl), bytes_one _, hE1l, by rw [hE1, List.map_append], by rw [hml]; omega, by show (E.take (k + 1)).length * 1 ≤ _; omega, ?_⟩
      intro B2 d2 r1 r2 r3
      refine ⟨((6 * (k + 1) : Nat) : Int), by rw [wrap_i64 (by omega) (by omega)]; omega, ?_⟩
      exact ⟨(k + 1, B2, d2), by show k + 1 ≤ _; omega, by show E.length - (k + 1) < E.length - k; omega, Ent.mk' ⟨rfl, rfl, rfl, rfl, rfl, trivial⟩ rfl (fun β w' hs => hs.perm [1, 2])⟩
  · have hge0 : ¬ ((6 * k : Nat) : Int) < ((8 * p.length : Nat) : Int) := hge
    obtain rfl : k = E.length := by omega
    rw [List.take_length]
    have hxs : ∃ q, q = (if url = true then 0 else (4 - E.length % 4) % 4) := ⟨_, rfl⟩
    obtain ⟨q, hq⟩ := hxs
    have hS : encS url p = E ++ eqs q := by
      rw [hq, ← hE]
      cases url with
      | true => show b64L true p = _; simp [eqs]
      | false => rfl
    rw [hS]
    refine loop_rule (ι := Nat × Option Addr × Nat) 0 (fun j => [(1, .c (.v (.bool url))), (5, .c (.v (.slice j.2.1 (E ++ eqs j.1).length j.2.2)))]) (fun _ => []) (fun j => [browF ty_uint8 j.2.1 (E ++ eqs j.1) j.2.2])
      (fun j => j.1 ≤ q) (fun j => 4 - j.1) (0, B, d) (Nat.zero_le _) (Ent.mk' ⟨rfl, by simp only [eqs, List.replicate_zero, List.append_nil]; rfl, trivial⟩ rfl (fun β w' hs => by simp only [eqs, List.replicate_zero, List.append_nil]; exact hs.perm [0])) g ?_
    rintro ⟨m, B, d⟩ hmq
    simp only at hmq
    have hEm : (E ++ eqs m).length = E.length + m := by rw [List.length_append, eqs_len]
    refine BIf.mk (fun hu => ?_) (fun hu => ?_)
    · have hu0 : url = false := by simpa using hu
      rw [hu0, if_neg (by decide)] at hq
      refine ⟨by first | decide | omega, ?_⟩
      refine ⟨(((E ++ eqs m).length % 4 : Nat) : Int), Int.ofNat_tmod _ _, ?_⟩
      refine BIf.not (BIf.dec (fun h4 => ?_) (fun h4 => ?_))
      · have h40 : (((E ++ eqs m).length % 4 : Nat) : Int) = 0 := h4
        obtain rfl : m = q := by omega
        refine ⟨_, fun β w' hs => row_rd (hs.get 0 rfl), ?_⟩
        intro β w' hs
        exact hs.fin [] ⟨rfl, rfl⟩
      · have h40 : ¬ (((E ++ eqs m).length % 4 : Nat) : Int) = 0 := h4
        intro b1
        have hE2 : E ++ eqs (m + 1) = (E ++ eqs m) ++ [61] := by rw [← eqs_snoc, List.append_assoc]
        obtain ⟨E2, hE2d⟩ : ∃ E2, E ++ eqs (m + 1) = E2 := ⟨_, rfl⟩
        have hE2l : (E ++ eqs m).length + 1 = E2.length := by rw [← hE2d, hE2]; simp; omega
        refine ⟨1, (E ++ eqs m).length, E2.length, (E ++ eqs m).map byte, [(61 : UInt8)].map byte, E2.map byte, rfl, fun β w' hs => row_rd (hs.get 0 rfl), bytes_one _, hE2l, by rw [← hE2d, hE2]; simp, by rw [hml]; omega, by show E2.length * 1 ≤ _; omega, ?_⟩
        intro B2 d2 r1 r2 r3
        refine ⟨(m + 1, B2, d2), by show m + 1 ≤ q; omega, by show 4 - (m + 1) < 4 - m; omega, ?_⟩
        simp only [hE2d]
        exact Ent.mk' ⟨rfl, rfl, trivial⟩ rfl (fun β w' hs => hs.perm [1])
    · have hu0 : url = true := by simpa using hu
      rw [hu0, if_pos rfl] at hq
      obtain rfl : m = q := by omega
      refine ⟨_, fun β w' hs => row_rd (hs.get 0 rfl), ?_⟩
      intro β w' hs
      exact hs.fin [] ⟨rfl, rfl⟩
def mlF : Fact where
  own := false
  D := fun k => k = 0
  p := fun w => ∃ m : Int, w.cell? ⟨0, 0, none⟩ = some (.int .i64 m)
  st := fun w w' hs ⟨m, h⟩ => ⟨m, by rw [← h]; exact World.cell?_of_block (hs _ rfl)⟩
structure Md where
  b : Nat
  bx : Nat
  P : Option Addr
  ps : List Part
  c : Nat
  m : Nat
  seen : List Nat
def Md.vs (x : Md) : List Value := [.pointer (some ⟨x.bx, 0, none⟩), .slice x.P x.ps.length x.c, .map (some x.m)]
def Md.ss (x : Md) : List (List UInt8) := x.ps.map (·.2.1)
end Go.Proofs.YtlhcgofdfhfegaaGreatDoor.Sx

namespace Go.Proofs.YtlhcgofdfhfegaaGreatDoor.Sx
open Go
theorem tri_sat {cx : Cx} {c : Code} {Q : Exit → KT} {n : Nat} {env : Env} {H : List Bk} {F F' : List Fact} (hS : ∀ β w, Sat cx β n H F w → Sat cx β n H F' w) (h : Tri cx c Q n env H F') : Tri cx c Q n env H F :=
  ⟨fun β a w hi => h.run β a w ⟨hi.ag, hi.size, hi.df, hi.lte, hS β w hi.sat⟩⟩
theorem reify_tri {cx : Cx} {c : Code} {Q : Exit → KT} {n : Nat} {env : Env} {H : List Bk} {F : List Fact} (id : Nat) {ty : TypeId} {cs : List SL} (vs : Nat → List Value) (h1 : tyAt H id = some ty) (h2 : cellsAt H id = some cs) (h3 : ∀ b, allV (cs.map (SL.re id b)) = some (vs b))
    (h : ∀ b, Tri cx c Q n (envRe id b env) (bksRe id b H) (bkF b ty (vs b) :: F)) : Tri cx c Q n env H F :=
  tri_join (ι := Nat) (fun _ => True) n (fun b => envRe id b env) (fun b => bksRe id b H) (fun b => bkF b ty (vs b) :: F) (fun b _ => h b) (EntX.reify id vs h1 h2 h3 (fun b => EntX.of b trivial ⟨fun β a w hi => ⟨β, rfl, rfl, hi⟩⟩))
end Go.Proofs.YtlhcgofdfhfegaaGreatDoor.Sx

namespace Go.Proofs.YtlhcgofdfhfegaaGreatDoor.Sx
open Go
attribute [local irreducible] Calls
def markB (l : List Bool) (n : Int) : Bool := decide (0 ≤ n) && l.getD n.toNat false
def haveB (l : List Nat) (made : List Bool) : Bool := l.all fun n => markB made (n : Int)
structure Nd where
  of : List Nat
  ok : Bool
  turn : Bool
def IsM (l : List Bool) (n : Nat) : Prop := markB l (n : Int) = true
theorem markB_nat (l : List Bool) (n : Nat) : markB l (n : Int) = l.getD n false := by
  unfold markB
  rw [decide_eq_true (Int.natCast_nonneg n), Bool.true_and, Int.toNat_natCast]
theorem isM_iff {l : List Bool} {n : Nat} : IsM l n ↔ l[n]? = some true := by
  unfold IsM
  rw [markB_nat, List.getD_eq_getElem?_getD]
  cases l[n]? with
  | none => simp
  | some b => simp
theorem isM_set {l : List Bool} {n m : Nat} (hn : n < l.length) : IsM (l.set n true) m ↔ IsM l m ∨ m = n := by
  rw [isM_iff, isM_iff, List.getElem?_set]
  by_cases h : n = m
  · subst h
    rw [if_pos rfl, if_pos hn]
    simp
  · rw [if_neg h]
    exact ⟨.inl, fun q => q.elim id (fun e => absurd e.symm h)⟩
theorem have_iff {of : List Nat} {C : List Bool} : haveB of C = true ↔ ∀ n ∈ of, IsM C n := by
  unfold haveB IsM
  exact List.all_eq_true
def leftL (C : List Bool) (of : List Nat) : List Nat := of.filter fun n => !markB C (n : Int)
def OkAt (C : List Bool) (n : Nat) (d : Nd) : Prop := (d.ok = true → haveB d.of C = true → IsM C n) ∧ (d.turn = true → IsM C n → ∀ k, leftL C d.of = [k] → k < C.length → IsM C k)
def Closed (nds : List Nd) (C : List Bool) : Prop := C.length = nds.length ∧ ∀ n d, nds[n]? = some d → 0 < n → OkAt C n d
def Le (A C : List Bool) : Prop := A.length = C.length ∧ ∀ n, IsM A n → IsM C n
def Least (nds : List Nd) (I R : List Bool) : Prop := Closed nds R ∧ Le I R ∧ ∀ C, Closed nds C → Le I C → Le R C
theorem Le.refl (A : List Bool) : Le A A := ⟨rfl, fun _ h => h⟩
theorem Le.trans {A B C : List Bool} (h : Le A B) (h2 : Le B C) : Le A C := ⟨h.1.trans h2.1, fun n q => h2.2 n (h.2 n q)⟩
theorem Le.set {A C : List Bool} {n : Nat} (h : Le A C) (hn : n < A.length) (hc : IsM C n) : Le (A.set n true) C := by
  refine ⟨by rw [List.length_set]; exact h.1, fun m q => ?_⟩
  rcases (isM_set hn).1 q with q | rfl
  · exact h.2 m q
  · exact hc
theorem Le.have {A C : List Bool} (h : Le A C) {of : List Nat} (q : haveB of A = true) : haveB of C = true := have_iff.2 fun n hn => h.2 n (have_iff.1 q n hn)
def cntF (l : List Bool) : Nat := l.count false
theorem cntF_set : ∀ {l : List Bool} {n : Nat}, n < l.length → ¬ IsM l n → cntF (l.set n true) + 1 = cntF l
  | [], n, h, _ => absurd h (Nat.not_lt_zero _)
  | b :: r, 0, _, hm => by
    cases b with
    | true => exact absurd rfl hm
    | false => simp [cntF]
  | b :: r, n + 1, h, hm => by
    have ih := cntF_set (l := r) (n := n) (by simpa using h) (fun q => hm (isM_iff.2 (by rw [List.getElem?_cons_succ]; exact isM_iff.1 q)))
    unfold cntF at ih ⊢
    rw [List.set_cons_succ, List.count_cons, List.count_cons]
    omega
structure Inn (nds : List Nd) (I m0 made : List Bool) (n : Nat) (more : Bool) : Prop where
  len : made.length = nds.length
  le0 : Le I made
  least : ∀ C, Closed nds C → Le I C → Le made C
  lt : more = true → cntF made < cntF m0
  same : more = false → made = m0 ∧ ∀ i d, nds[i]? = some d → 0 < i → i < n → OkAt made i d
theorem Inn.cnt {nds : List Nd} {I m0 made : List Bool} {n : Nat} {more : Bool} (h : Inn nds I m0 made n more) : cntF made ≤ cntF m0 := by
  cases more with
  | true => exact Nat.le_of_lt (h.lt rfl)
  | false => rw [(h.same rfl).1]; exact Nat.le_refl _
theorem Inn.put {nds : List Nd} {I m0 made : List Bool} {n k : Nat} {more : Bool} (h : Inn nds I m0 made n more) (hk : k < made.length) (hm : ¬ IsM made k) (hC : ∀ C, Closed nds C → Le I C → Le made C → IsM C k) : Inn nds I m0 (made.set k true) n true where
  len := by rw [List.length_set]; exact h.len
  le0 := ⟨by rw [List.length_set]; exact h.le0.1, fun m q => (isM_set hk).2 (.inl (h.le0.2 m q))⟩
  least := fun C h1 h2 => (h.least C h1 h2).set hk (hC C h1 h2 (h.least C h1 h2))
  lt := fun _ => by have := cntF_set hk hm; have := h.cnt; omega
  same := fun q => by cases q
theorem Inn.next {nds : List Nd} {I m0 made : List Bool} {n : Nat} {d : Nd} {more : Bool} (h : Inn nds I m0 made n more) (hd : nds[n]? = some d) (hn : 0 < n → more = false → OkAt made n d) : Inn nds I m0 made (n + 1) more where
  len := h.len
  le0 := h.le0
  least := h.least
  lt := h.lt
  same := fun q => ⟨(h.same q).1, fun i d' hi h0 hlt => by
    rcases Nat.lt_or_ge i n with q2 | q2
    · exact (h.same q).2 i d' hi h0 q2
    · obtain rfl : i = n := by omega
      rw [hd] at hi
      obtain rfl := Option.some.inj hi
      exact hn h0 q⟩
theorem Inn.start {nds : List Nd} {I made : List Bool} (hl : made.length = nds.length) (h0 : Le I made) (h1 : ∀ C, Closed nds C → Le I C → Le made C) : Inn nds I made made 0 false := ⟨hl, h0, h1, fun q => (by cases q), fun _ => ⟨rfl, fun i d _ _ q => absurd q (Nat.not_lt_zero _)⟩⟩
theorem Inn.done {nds : List Nd} {I m0 made : List Bool} (h : Inn nds I m0 made nds.length false) : Least nds I made := by
  refine ⟨⟨h.len, fun n d hd h0 => (h.same rfl).2 n d hd h0 (List.getElem?_eq_some_iff.1 hd).1⟩, h.le0, h.least⟩
end Go.Proofs.YtlhcgofdfhfegaaGreatDoor.Sx

namespace Go.Proofs.YtlhcgofdfhfegaaGreatDoor.Sx
open Go
section
variable {cx : Cx} {β : Va} {n : Nat} {env : Env} {H : List Bk} {F : List Fact} {w : World}
end
end Go.Proofs.YtlhcgofdfhfegaaGreatDoor.Sx

namespace Go.Proofs.YtlhcgofdfhfegaaGreatDoor.Sx
open Go
attribute [local irreducible] Calls
structure DelI (f : Nat → Bool) (l : List Nat) (i j : Nat) (dk : List Nat) : Prop where
  len : dk.length = l.length
  lt : i < j
  le : j ≤ l.length
  low : dk.take i = (l.take j).filter fun n => !f n
  high : ∀ q, j ≤ q → dk[q]? = l[q]?
theorem DelI.start {f : Nat → Bool} {l : List Nat} (h : l.any f = true) : DelI f l (l.findIdx f) (l.findIdx f + 1) l := by
  obtain ⟨x, hx, hf⟩ := List.any_eq_true.1 h
  have hlt : l.findIdx f < l.length := List.findIdx_lt_length_of_exists ⟨x, hx, hf⟩
  refine ⟨rfl, Nat.lt_succ_self _, hlt, ?_, fun _ _ => rfl⟩
  rw [List.take_add_one, List.getElem?_eq_getElem hlt, List.filter_append]
  have e1 : (l.take (l.findIdx f)).filter (fun n => !f n) = l.take (l.findIdx f) := by
    rw [List.filter_eq_self]
    intro a ha
    obtain ⟨q, hq, rfl⟩ := List.mem_take_iff_getElem.1 ha
    have := List.not_of_lt_findIdx (p := f) (xs := l) (i := q) (by omega)
    simpa using this
  have e2 : f l[l.findIdx f] = true := List.findIdx_getElem (w := hlt)
  rw [e1]
  simp [e2]
theorem DelI.keep {f : Nat → Bool} {l dk : List Nat} {i j x : Nat} (h : DelI f l i j dk) (hx : l[j]? = some x) (hf : f x = false) : DelI f l (i + 1) (j + 1) (dk.set i x) := by
  have hj := (List.getElem?_eq_some_iff.1 hx).1
  have h1 := h.lt
  have h2 := h.len
  refine ⟨by rw [List.length_set]; exact h.len, by omega, hj, ?_, fun q hq => ?_⟩
  · rw [List.take_add_one, List.take_add_one, hx, List.filter_append, List.take_set_of_le (Nat.le_refl _), h.low, List.getElem?_set, if_pos rfl, if_pos (by omega)]
    simp [hf]
  · rw [List.getElem?_set, if_neg (by omega), h.high q (by omega)]
theorem DelI.skip {f : Nat → Bool} {l dk : List Nat} {i j x : Nat} (h : DelI f l i j dk) (hx : l[j]? = some x) (hf : f x = true) : DelI f l i (j + 1) dk := by
  have hj := (List.getElem?_eq_some_iff.1 hx).1
  have h1 := h.lt
  refine ⟨h.len, by omega, hj, ?_, fun q hq => h.high q (by omega)⟩
  rw [List.take_add_one, hx, List.filter_append, h.low]
  simp [hf]
structure NdR where
  d : Nd
  A : Option Addr
  c : Nat
def NdR.vs (q : NdR) : List Value := [.slice q.A q.d.of.length q.c, .bool q.d.ok, .bool q.d.turn]
def ownN (qs : List NdR) : Fact where
  own := true
  D := fun k => ∃ q ∈ qs, (rdF 1 q.A q.d.of.length (ints q.d.of)).D k
  p := fun w => ∀ q ∈ qs, Rd 1 q.A q.d.of.length (ints q.d.of) w
  st := fun w w' hs h q hq => (rdF 1 q.A q.d.of.length (ints q.d.of)).st w w' (fun k hk => hs k ⟨q, hq, hk⟩) (h q hq)
theorem rdD_row {A : Option Addr} {n c : Nat} {xs : List Value} {e s k : Nat} (h : (rdF s A n xs).D k) : (rowF e s (.slice A n c) n xs).D k := by
  obtain ⟨_, ad, rfl, rfl⟩ := h
  rfl
theorem Sat.addN {cx : Cx} {β : Va} {n : Nat} {H : List Bk} {F : List Fact} {w : World} (h : Sat cx β n H F w) (js : List Nat) {qs : List NdR} {A : Option Addr} {l : List Nat} {c : Nat} (e : takeIx F js = [ownN qs, irowF A l c]) (ok turn : Bool) (hn : nodupB js = true := by rfl) : Sat cx β n H (ownN (qs ++ [⟨⟨l, ok, turn⟩, A, c⟩]) :: dropIx js 0 F) w := by
  refine h.fuse js (ownN (qs ++ [⟨⟨l, ok, turn⟩, A, c⟩])) (fun w hm => ?_) (fun k hk => ?_) hn (by rw [e]; exact ⟨rfl, rfl, trivial⟩)
  · rw [e] at hm
    intro q hq
    rcases List.mem_append.1 hq with hq | hq
    · exact (show (ownN qs).p w from hm.fact (ownN qs) List.mem_cons_self) q hq
    · obtain rfl := List.mem_singleton.1 hq
      exact row_rd (show (irowF A l c).p w from hm.fact (irowF A l c) (List.mem_cons_of_mem _ (List.mem_singleton.2 rfl)))
  · rw [e]
    obtain ⟨q, hq, hk⟩ := hk
    rcases List.mem_append.1 hq with hq | hq
    · exact ⟨ownN qs, List.mem_cons_self, q, hq, hk⟩
    · obtain rfl := List.mem_singleton.1 hq
      exact ⟨irowF A l c, List.mem_cons_of_mem _ (List.mem_singleton.2 rfl), rdD_row hk⟩
theorem letA_run (url : Bool) {n : Nat} (h : n < 64) : runC (letA url n) = true := by
  have key : ∀ u : Bool, ∀ n : _root_.Fin 64, runC (letA u n.1) = true := by decide +kernel
  exact key url ⟨n, h⟩
theorem val_letA (url : Bool) {n : Nat} (h : n < 64) : valA url (letA url n) = some n := by
  have key : ∀ u : Bool, ∀ n : _root_.Fin 64, valA u (letA u n.1) = some n.1 := by decide +kernel
  exact key url ⟨n, h⟩
theorem vals_letA (url : Bool) : ∀ (vs : List Nat), (∀ v ∈ vs, v < 64) → valsA url (vs.map (letA url)) = some vs
  | [], _ => rfl
  | v :: r, h => by
    have ih := vals_letA url r (fun x hx => h x (List.mem_cons_of_mem _ hx))
    rw [List.map_cons, valsA, val_letA url (h v List.mem_cons_self), ih]
theorem decS_b64 (url : Bool) (p : List UInt8) : decS url (b64L url p) = some p := by
  unfold decS b64L
  rw [vals_letA url _ (encG_lt p)]
  exact dec_enc p
theorem b64L_run (url : Bool) (p : List UInt8) : ∀ x ∈ b64L url p, runC x = true := by
  intro x hx
  obtain ⟨v, hv, rfl⟩ := List.mem_map.1 hx
  exact letA_run url (encG_lt p v hv)
theorem b64L_len (url : Bool) (p : List UInt8) : (b64L url p).length = (8 * p.length + 5) / 6 := by unfold b64L; rw [List.length_map, encG_len]
def triL : List UInt8 → List (List UInt8)
  | a :: b :: c :: r => [a, b, c] :: triL r
  | [] => []
  | l => [l]
theorem b64_tri (url : Bool) : ∀ (p : List UInt8), b64L url p = (triL p).flatMap (b64L url)
  | [] => rfl
  | [a] => by simp [triL]
  | [a, b] => by simp [triL]
  | a :: b :: c :: r => by
    have ih := b64_tri url r
    show b64L url (a :: b :: c :: r) = b64L url [a, b, c] ++ (triL r).flatMap (b64L url)
    rw [← ih]
    unfold b64L
    rw [← List.map_append]
    congr 1
theorem tri_len : ∀ (p : List UInt8), ∀ q ∈ triL p, 1 ≤ q.length ∧ q.length ≤ 3
  | [], q, h => by cases h
  | [a], q, h => by
    obtain rfl : q = [a] := by simpa [triL] using h
    exact ⟨by simp, by simp⟩
  | [a, b], q, h => by
    obtain rfl : q = [a, b] := by simpa [triL] using h
    exact ⟨by simp, by simp⟩
  | a :: b :: c :: r, q, h => by
    rcases List.mem_cons.1 h with rfl | h
    · exact ⟨by simp, by simp⟩
    · exact tri_len r q h
theorem tri_next {p : List UInt8} (h : p ≠ []) : triL p = p.take 3 :: triL (p.drop 3) := by
  match p, h with
  | [a], _ => rfl
  | [a, b], _ => rfl
  | a :: b :: c :: r, _ => rfl
def trV (p : List UInt8) : Nat → Nat
  | 0 => 0
  | j + 1 => trV p j * 256 + (p.getD j 0).toNat
theorem trV_lt (p : List UInt8) : ∀ j, trV p j < 256 ^ j
  | 0 => Nat.one_pos
  | j + 1 => by
    have := trV_lt p j
    have h := (p.getD j 0).toNat_lt
    rw [trV, Nat.pow_succ]
    omega
theorem trV_out {p : List UInt8} {j : Nat} (h : p.length ≤ j) : trV p (j + 1) = trV p j * 256 := by
  rw [trV, List.getD_eq_getElem?_getD, List.getElem?_eq_none h]
  exact Nat.add_zero _
theorem encT_at : ∀ {p : List UInt8} {i : Nat}, p.length ≤ 3 → 1 ≤ p.length → i < p.length + 1 → (encG p)[i]? = some (trV p 3 / 64 ^ (3 - i) % 64)
  | [x], i, _, _, h => by
    have hx := x.toNat_lt
    match i, h with
    | 0, _ => simp [encG, trV]; omega
    | 1, _ => simp [encG, trV]; omega
  | [x, y], i, _, _, h => by
    have hx := x.toNat_lt
    have hy := y.toNat_lt
    match i, h with
    | 0, _ => simp [encG, trV]; omega
    | 1, _ => simp [encG, trV]; omega
    | 2, _ => simp [encG, trV]; omega
  | [x, y, z], i, _, _, h => by
    have hx := x.toNat_lt
    have hy := y.toNat_lt
    have hz := z.toNat_lt
    match i, h with
    | 0, _ => simp [encG, trV]; omega
    | 1, _ => simp [encG, trV]; omega
    | 2, _ => simp [encG, trV]; omega
    | 3, _ => simp [encG, trV]; omega
theorem enc_len3 {p : List UInt8} (h3 : p.length ≤ 3) (h1 : 1 ≤ p.length) : (encG p).length = p.length + 1 := by
  rw [encG_len]
  omega
theorem shr64 {X i : Nat} (hi : i ≤ 3) : (X : Int).fdiv (2 ^ min (6 * (i : Int)).toNat IntKind.i64.bits) = ((X / 64 ^ i : Nat) : Int) := by
  rw [show (6 * (i : Int)).toNat = 6 * i by omega, show min (6 * i) IntKind.i64.bits = 6 * i from Nat.min_eq_left (by show _ ≤ 64; omega), show ((2 : Int) ^ (6 * i)) = ((64 ^ i : Nat) : Int) by rw [show (64 : Nat) = 2 ^ 6 from rfl, ← Nat.pow_mul]; simp]
  rw [Int.fdiv_eq_ediv_of_nonneg _ (Int.natCast_nonneg _)]
  rfl
theorem cutZ {A : Option Addr} {c s : Nat} : cutA A c 0 s = A := by
  cases A <;> simp [cutA, Addr.add]
structure Lies (A A' : Option Addr) (p p' : List UInt8) : Prop where
  rd : ∀ w, Bs w A p → Bs w A' p'
  d : ∀ k, (bsF A' p').D k → (bsF A p).D k
theorem Lies.trans {A A' A'' : Option Addr} {p p' p'' : List UInt8} (h : Lies A A' p p') (h2 : Lies A' A'' p' p'') : Lies A A'' p p'' := ⟨fun w q => h2.rd w (h.rd w q), fun k q => h.d k (h2.d k q)⟩
theorem Lies.refl (A : Option Addr) (p : List UInt8) : Lies A A p p := ⟨fun _ q => q, fun _ q => q⟩
theorem Lies.nil (A A' : Option Addr) (p : List UInt8) : Lies A A' p [] := ⟨fun w _ => Bs.nil w A', fun k h => absurd h.1 (by decide)⟩
theorem Lies.drop {A : Option Addr} {p : List UInt8} {c n : Nat} (hc : p.length ≤ c) (hn : n ≤ p.length) : Lies A (cutA A c n 1) p (p.drop n) :=
  ⟨fun w q => Bs.cutB q hc hn (Nat.le_refl _) (List.take_of_length_le (by rw [List.length_drop]; exact Nat.le_refl _)), fun k hk => cut_D (by rw [List.length_drop]; omega) hk⟩
theorem Lies.take (A : Option Addr) (p : List UInt8) (n : Nat) : Lies A A p (p.take n) := by
  refine ⟨fun w q => ?_, fun k hk => ?_⟩
  · have h := Bs.cutB (i := 0) (j := min n p.length) q (Nat.le_refl _) (Nat.zero_le _) (Nat.min_le_right _ _) (by rw [List.drop_zero, Nat.sub_zero, ← List.take_eq_take_min])
    rwa [cutZ] at h
  · have h : (bsF (cutA A 1 0 1) (p.take n)).D k := by rw [cutZ]; exact hk
    exact cut_D (by rw [List.length_take]; omega) h
def AlphE (al : ByteArray) (url : Bool) : Prop := ∀ n, n < 64 → al.data.toList[n]? = some (letA url n)
theorem encode_c (w : World) (al : ByteArray) (url : Bool) (hal : AlphE al url) (A : Option Addr) (p : List UInt8) (c : Nat) (h1 : 1 ≤ p.length) (h3 : p.length ≤ 3) (hm : Mem w [bsF A p]) :
    Con Tryz.prog n_b64_encode #[.string al, .slice A p.length c] w [] fun v Fs => ∃ A c, v = .slice A (b64L url p).length c ∧ (b64L url p).length ≤ c ∧ Fs = [browF ty_uint8 A (b64L url p) c] := by
  have g := good_b64_encode w (Un [])
  have hml := maxLen_eq
  have hr : Bs w A p := hm.fact (bsF A p) (by simp)
  obtain ⟨ad, hA⟩ := Bs.addr hr (by omega)
  refine con_go (cx := cx_b64_encode w (Un [])) g b_b64_encode [.c (.v (.string al)), .c (.v (.slice A p.length c))] [bsF A p] hm ?_
  refine loop_rule (ι := Nat) 0 (fun j => [(0, .c (.v (.string al))), (1, .c (.v (.slice A p.length c))), (5, .c (.v (.int .i64 (trV p j : Int)))), (9, .c (.v (.int .i64 (j : Int))))]) (fun _ => []) (fun _ => [bsF A p]) (fun j => j ≤ 3) (fun j => 3 - j) (0 : Nat) (Nat.zero_le _) (Ent.mk' ⟨rfl, rfl, rfl, rfl, trivial⟩ rfl (fun β w' hs => hs)) g ?_
  intro j hj
  have hv : trV p j < 16777216 := Nat.lt_of_lt_of_le (trV_lt p j) (show 256 ^ j ≤ 256 ^ 3 from Nat.pow_le_pow_right (by decide) hj)
  refine BIf.dec (fun hlt => ?_) (fun hge => ?_)
  · have hlt0 : (j : Int) < 3 := hlt
    refine ⟨by decide, _, shl_i64 (by omega), ?_⟩
    refine BIf.dec (fun hl => ?_) (fun hl => ?_)
    · have hl0 : (j : Int) < (p.length : Int) := hl
      obtain ⟨x, hx, _⟩ := at_lt (l := p) (k := j) (by omega)
      have hxl := x.toNat_lt
      have hnx : trV p (j + 1) = trV p j * 256 + x.toNat := by rw [trV, List.getD_eq_getElem?_getD, hx]; rfl
      refine ⟨ad, j, hA, rfl, by omega, byte x, fun β w' hs => Rd.cell1 (show Rd 1 (some ad) p.length (p.map byte) w' from hA ▸ hs.get 0 rfl) (by rw [List.getElem?_map, hx]; rfl), ?_⟩
      refine ⟨(x.toNat : Int), by rw [wrap_i64 (by omega) (by omega)], ?_⟩
      refine ⟨_, or_i64 (by omega) (by omega), ?_⟩
      refine ⟨((j + 1 : Nat) : Int), by rw [wrap_i64 (by omega) (by omega)]; rfl, ?_⟩
      exact ⟨j + 1, by show j + 1 ≤ 3; omega, by show 3 - (j + 1) < 3 - j; omega, Ent.mk' ⟨rfl, rfl, by rw [hnx]; rfl, rfl, trivial⟩ rfl (fun β w' hs => hs)⟩
    · have hl0 : ¬ (j : Int) < (p.length : Int) := hl
      refine ⟨((j + 1 : Nat) : Int), by rw [wrap_i64 (by omega) (by omega)]; rfl, ?_⟩
      exact ⟨j + 1, by show j + 1 ≤ 3; omega, by show 3 - (j + 1) < 3 - j; omega, Ent.mk' ⟨rfl, rfl, by rw [trV_out (by omega)]; rfl, rfl, trivial⟩ rfl (fun β w' hs => hs)⟩
  · have hge0 : ¬ (j : Int) < 3 := hge
    obtain rfl : j = 3 := by omega
    have hl3 := enc_len3 h3 h1
    have hbl : (b64L url p).length = p.length + 1 := by unfold b64L; rw [List.length_map, hl3]
    refine ⟨((p.length + 1 : Nat) : Int), by rw [wrap_i64 (by omega) (by omega)]; rfl, ?_⟩
    refine loop_rule (ι := Nat × Option Addr × Nat) 0 (fun i => [(0, .c (.v (.string al))), (5, .c (.v (.int .i64 (trV p 3 : Int)))), (7, .c (.v (.slice i.2.1 ((b64L url p).take i.1).length i.2.2))), (28, .c (.v (.int .i64 ((p.length + 1 : Nat) : Int)))), (29, .c (.v (.int .i64 (i.1 : Int))))]) (fun _ => []) (fun i => [browF ty_uint8 i.2.1 ((b64L url p).take i.1) i.2.2])
      (fun i => i.1 ≤ p.length + 1) (fun i => p.length + 1 - i.1) (0, none, 0) (Nat.zero_le _) (Ent.mk' ⟨rfl, rfl, rfl, rfl, rfl, trivial⟩ rfl (fun β w' hs => (hs.nilRow ty_uint8 1).perm [0])) g ?_
    rintro ⟨i, O, oc⟩ hi
    simp only at hi
    refine BIf.dec (fun hlt => ?_) (fun hge2 => ?_)
    · have hlt0 : (i : Int) < ((p.length + 1 : Nat) : Int) := hlt
      have hi3 : i ≤ 3 := by omega
      refine ⟨((3 - i : Nat) : Int), by rw [wrap_i64 (by omega) (by omega)]; omega, ?_⟩
      refine ⟨6 * ((3 - i : Nat) : Int), wrap_i64 (by omega) (by omega), ?_⟩
      refine ⟨by omega, _, shr64 (by omega), ?_⟩
      have hq : trV p 3 / 64 ^ (3 - i) < 33554432 := Nat.lt_of_le_of_lt (Nat.div_le_self _ _) (by omega)
      refine ⟨_, and_i64 (k := 6) hq (by decide), ?_⟩
      obtain ⟨n, hn⟩ : ∃ n, trV p 3 / 64 ^ (3 - i) % 2 ^ 6 = n := ⟨_, rfl⟩
      rw [hn]
      have hn6 : n < 64 := by rw [← hn]; exact Nat.mod_lt _ (by decide)
      have hx : (b64L url p)[i]? = some (letA url n) := by
        unfold b64L
        rw [List.getElem?_map, encT_at h3 h1 (by omega), ← hn]
        rfl
      obtain ⟨x, hxx⟩ : ∃ x, letA url n = x := ⟨_, rfl⟩
      rw [hxx] at hx
      have hsn : (b64L url p).take (i + 1) = (b64L url p).take i ++ [x] := by rw [List.take_add_one, hx]; rfl
      refine ⟨n, x, rfl, by rw [← hxx]; exact hal n hn6, ?_⟩
      intro b1
      refine ⟨1, ((b64L url p).take i).length, ((b64L url p).take (i + 1)).length, ((b64L url p).take i).map byte, [byte x], ((b64L url p).take (i + 1)).map byte, rfl, fun β w' hs => row_rd (hs.get 0 rfl), bytes_one [x], by rw [hsn, List.length_append]; rfl, by rw [hsn, List.map_append]; rfl, by rw [List.length_take]; omega, by rw [List.length_take]; show _ * 1 ≤ _; omega, ?_⟩
      intro A' c' _ _ _
      refine ⟨((i + 1 : Nat) : Int), by rw [wrap_i64 (by omega) (by omega)]; rfl, ?_⟩
      exact ⟨(i + 1, A', c'), by show i + 1 ≤ p.length + 1; omega, by show p.length + 1 - (i + 1) < p.length + 1 - i; omega, Ent.mk' ⟨rfl, rfl, rfl, rfl, rfl, trivial⟩ rfl (fun β w' hs => hs.perm [1])⟩
    · have hge0 : ¬ (i : Int) < ((p.length + 1 : Nat) : Int) := hge2
      have hfl : (b64L url p).take i = b64L url p := List.take_of_length_le (by omega)
      rw [hfl]
      intro β w' hs
      exact hs.fin [0] ⟨O, oc, rfl, brow_cap (hs.get 0 rfl), rfl⟩
theorem Sat.endI {cx : Cx} {β : Va} {n : Nat} {H : List Bk} {F : List Fact} {w : World} {kk : IntKind} (h : Sat cx β n H F w) (j : Nat) {b r : Nat} {l ss : MLI} {cur : Option (Int × Value)} (hj : nth F j = some (itIF kk b r l ss cur)) : Sat cx β n H (putAt F j (mapIF kk b l)) w := by
  obtain ⟨es, ds, k, since, c0, seen, hb, hm, _⟩ := h.get j hj
  exact h.upd hj rfl (Chg.refl _ _) ⟨es, k, hb, hm⟩ (fun q hq => .inl (.inl hq))
theorem Sat.emptyI {cx : Cx} {β : Va} {n : Nat} {H : List Bk} {F : List Fact} {w : World} {kk : IntKind} (h : Sat cx β n H F w) (j : Nat) {b : Nat} (hj : nth F j = some (mapF b [])) : Sat cx β n H (putAt F j (mapIF kk b [])) w := by
  obtain ⟨es, k, hb, hm⟩ := h.get j hj
  obtain rfl : es = [] := List.map_eq_nil_iff.1 hm.cut
  exact h.upd hj rfl (Chg.refl _ _) ⟨[], k, hb, rfl, List.Pairwise.nil, fun _ q => by cases q⟩ (fun q hq => .inl hq)
def insK (n : Nat) (pre : List Int) (x : Int) (args : Array Value) (X : Fact) : Prop := args = #[.int .u64 x] ∧ X = noF ∧ pre.length < n
theorem keysI_c (w : World) (mb : Option Nat) : Con Tryz.prog 88 #[.map mb] w [] fun v Fs => ∃ B, v = .func (.func 121) #[] #[.pointer (some ⟨B, 0, none⟩)] ∧ Fs = [bkF B ty_map_uint64_sl_uint8 [.map mb]] := by
  refine con_of_sx (cx := cx_maps_Keys_map_uint64_byte_uint64_byte w (Un [])) (good_maps_Keys_map_uint64_byte_uint64_byte w (Un [])) b_maps_Keys_map_uint64_byte_uint64_byte rfl rfl (β := Va.z) [.c (.v (.map mb))] 0 [] [] rfl rfl (Sat.start rfl) ?_
  intro β w' hs
  exact hs.ofBk.fin [0] ⟨β 0, rfl, rfl⟩
theorem keysI_it (l : Nat) (w : World) (bx b : Nat) (lm : MLI) (f0 R : Fact) (J Jx : List Int → Fact → Prop) (hJ0 : J [] f0) (hJo : ∀ pre f, J pre f → f.own = true) (hRo : R.own = false) (hY : Yc Tryz.prog l J Jx R (insK lm.length))
    (hm : Mem w (f0 :: R :: [bkF bx ty_map_uint64_sl_uint8 [.map (some b)], mapIF .u64 b lm])) :
    Con Tryz.prog 121 #[.func (.yield l) #[] #[], .pointer (some ⟨bx, 0, none⟩)] w [f0, bkF bx ty_map_uint64_sl_uint8 [.map (some b)], mapIF .u64 b lm]
      (fun _ Fs => ∃ f Fs', Fs = f :: Fs' ∧ ((∃ xs, J xs f ∧ xs.Perm (lm.map (·.1)) ∧ Fs' = [mapIF .u64 b lm]) ∨ (∃ pre, Jx pre f ∧ Fs' = [mapIF .u64 b lm]))) := by
  have g := good_maps_Keys_map_uint64_byte_uint64_byte_1 w (Un [f0, bkF bx ty_map_uint64_sl_uint8 [.map (some b)], mapIF .u64 b lm]) [bx]
  have hs0 : Sat (cx_maps_Keys_map_uint64_byte_uint64_byte_1 w (Un [f0, bkF bx ty_map_uint64_sl_uint8 [.map (some b)], mapIF .u64 b lm]) [bx]) (Va.of fun _ => bx) 1 [] (f0 :: R :: [bkF bx ty_map_uint64_sl_uint8 [.map (some b)], mapIF .u64 b lm]) w := by
    refine hm.sat rfl (fun f hf ho k hk => ?_) ⟨Nat.le_refl 1, fun i hi => by obtain rfl : i = 0 := Nat.lt_one_iff.1 hi; rfl⟩
    simp only [List.mem_cons, List.not_mem_nil, or_false] at hf
    rcases hf with rfl | rfl | rfl | rfl
    · exact ⟨_, by simp, hk⟩
    · rw [hRo] at ho; cases ho
    · exact ⟨bkF bx ty_map_uint64_sl_uint8 [.map (some b)], by simp, hk⟩
    · exact ⟨mapIF .u64 b lm, by simp, hk⟩
  have hs1 := hs0.toBk 2 rfl 0 Nat.zero_lt_one rfl
  refine con_of_sx (cx := cx_maps_Keys_map_uint64_byte_uint64_byte_1 w (Un [f0, bkF bx ty_map_uint64_sl_uint8 [.map (some b)], mapIF .u64 b lm]) [bx]) g b_maps_Keys_map_uint64_byte_uint64_byte_1 rfl rfl (β := Va.of fun _ => bx) [.c (.v (.func (.yield l) #[] #[])), .c (.p 0 0)] 1 _ _ rfl rfl hs1 ?_
  refine ⟨Nat, fun r => .pointer (some ⟨r, 0, none⟩), fun r => [f0, R, itIF .u64 b r lm [] none], fun β w' ty hs => hs.rangeI g 2 rfl, fun r => ?_⟩
  refine loop_rule (ι := MLI × Fact × Option (Int × Value)) 1 (fun _ => [(0, .c (.v (.func (.yield l) #[] #[]))), (1, .c (.p 0 0)), (5, .c (.v (.pointer (some ⟨r, 0, none⟩))))]) (fun _ => [⟨0, ty_map_uint64_sl_uint8, [.v (.map (some b))]⟩]) (fun i => [i.2.1, R, itIF .u64 b r lm i.1 i.2.2])
    (fun i => J (i.1.map (·.1)) i.2.1) (fun i => lm.length - i.1.length) ([], f0, none) hJ0 (Ent.same ⟨rfl, rfl, rfl, trivial⟩ rfl) g ?_
  rintro ⟨ss, f, cur⟩ hJ
  simp only at hJ
  have hfo := hJo _ _ hJ
  simp only
  refine ⟨{o : Option (Int × Value) // NxtI lm ss o}, fun o => nxtV .u64 o.1, fun o => [f, R, nxtF .u64 b r lm ss cur o.1], fun β w' ty hs => hs.nextI 2 rfl ty, ?_⟩
  rintro ⟨o, ho⟩
  cases o with
  | none =>
    have hperm : ss.Perm lm := ho
    intro β w' hs
    exact ((hs.endI 2 rfl).keepB (List.nil_sublist _)).fin [0, 2] ⟨f, _, rfl, .inl ⟨_, hJ, hperm.map _, rfl⟩⟩ rfl rfl rfl ⟨hfo, rfl, trivial⟩
  | some x =>
    have hlt : ss.length < lm.length := ho.2
    refine ⟨Unit, fun _ => .tuple #[.int .u64 x.1, x.2], fun _ => [f, R, itIF .u64 b r lm (ss ++ [x]) (some x)], fun β w' ty hs => ⟨(), w', hs.entryI 2 rfl, hs⟩, fun _ => ?_⟩
    refine yield_ro (X := noF) (x := x.1) hY 0 1 rfl hJ hfo rfl hRo (by decide) (fun β => ⟨rfl, rfl, by rw [List.length_map]; exact hlt⟩) rfl (fun β w _ => ⟨trivial, fun k hk => hk.elim, fun k _ h => h.elim⟩) ?_ ?_
    · intro f2 hfo2 hJ2
      refine ⟨(ss ++ [x], f2, some x), by show J ((ss ++ [x]).map (·.1)) f2; rw [List.map_append]; exact hJ2, by show lm.length - (ss ++ [x]).length < lm.length - ss.length; rw [List.length_append]; show lm.length - (ss.length + 1) < _; omega, Ent.same ⟨rfl, rfl, rfl, trivial⟩ rfl⟩
    · intro f2 hfo2 hJ2 β w' hs
      exact ((hs.endI 2 rfl).keepB (List.nil_sublist _)).fin [0, 2] ⟨f2, _, rfl, .inr ⟨_, hJ2, rfl⟩⟩ rfl rfl rfl ⟨hfo2, rfl, trivial⟩
abbrev urowF (A : Option Addr) (l : List Int) (c : Nat) : Fact := rowF ty_uint64 1 (.slice A l.length c) l.length (l.map (Value.int .u64))
structure ColN where
  A : Option Addr
  c : Nat
  l : List Int
def GivesN (k : FuncId) (bx : Nat) (ty : TypeId) (cs : List Value) (G G' : Fact) (n : Nat) (P : List Int → Prop) : Prop :=
  ∀ (l : Nat) (w : World) (f0 R : Fact) (J Jx : List Int → Fact → Prop), J [] f0 → (∀ pre f, J pre f → f.own = true) → R.own = false → Yc Tryz.prog l J Jx R (insK n) → Mem w (f0 :: R :: [bkF bx ty cs, G]) →
    Con Tryz.prog k #[.func (.yield l) #[] #[], .pointer (some ⟨bx, 0, none⟩)] w [f0, bkF bx ty cs, G] (fun _ Fs => ∃ f Fs', Fs = f :: Fs' ∧ ((∃ xs, J xs f ∧ P xs ∧ Fs' = [G']) ∨ (∃ pre, Jx pre f ∧ Fs' = [G'])))
theorem appendN_c (w : World) (k : FuncId) (bx : Nat) (ty : TypeId) (cs : List Value) (G G' : Fact) (n : Nat) (P : List Int → Prop) (hcall : callable Tryz.prog k = true) (hG : G.own = true) (hG' : G'.own = true) (hn : n ≤ 1000) (hg : GivesN k bx ty cs G G' n P) (hm : Mem w [bkF bx ty cs, G]) :
    Con Tryz.prog 60 #[.slice none 0 0, .func (.func k) #[] #[.pointer (some ⟨bx, 0, none⟩)]] w [bkF bx ty cs, G] fun v Fs => ∃ A c l, v = .slice A l.length c ∧ P l ∧ l.length ≤ n ∧ (0 < l.length → ∃ ad, A = some ad) ∧ Fs = [urowF A l c, G'] := by
  have g := good_slices_AppendSeq_uint64_uint64 w (Un [bkF bx ty cs, G])
  have hml := maxLen_eq
  have hs0 : Sat (cx_slices_AppendSeq_uint64_uint64 w (Un [bkF bx ty cs, G])) Va.z 0 [] [bkF bx ty cs, G] w := hm.sat0 rfl (fun f hf _ k hk => ⟨f, hf, hk⟩)
  refine con_of_sx (cx := cx_slices_AppendSeq_uint64_uint64 w (Un [bkF bx ty cs, G])) g b_slices_AppendSeq_uint64_uint64 rfl rfl (β := Va.z) [.c (.v (.slice none 0 0)), .c (.v (.func (.func k) #[] #[.pointer (some ⟨bx, 0, none⟩)]))] 0 [] _ rfl rfl hs0 ?_
  refine range_rule (α := Int) (ι := ColN) (κ := Unit) g rfl (cv := [.pointer (some ⟨bx, 0, none⟩)]) rfl hcall 1 (Nat.le_refl 1)
    (fun pre i => i.l = pre ∧ pre.length ≤ n ∧ (0 < i.l.length → ∃ ad, i.A = some ad)) (fun i => [⟨0, ty_sl_uint64, [.v (.slice i.A i.l.length i.c)]⟩]) (fun i => [urowF i.A i.l i.c]) (fun i => ⟨rfl, trivial⟩)
    (fun _ _ _ => False) (fun _ => []) (fun _ => []) (fun _ => trivial)
    [bkF bx ty cs, G] [] [] ⟨rfl, hG, trivial⟩ (fun g h => by cases h) ⟨none, 0, []⟩ ⟨rfl, Nat.zero_le _, fun h => absurd h (by decide)⟩
    (fun β w hs => ⟨β, Agr.refl _ _, (hs.nilRow ty_uint64 1).perm [1, 2, 0]⟩) (insK n)
    (fun xs Fs' => P xs ∧ Fs' = [G']) (fun _ Fs' => Fs' = [G'])
    (fun l w f0 R J Jx hJ0 hJo hRo hY hm => (hg l w f0 R J Jx hJ0 hJo hRo hY hm).mono fun _ Fs h => h) ?_ ?_ ?_
  · rintro ⟨A, c, l⟩ pre x args X W S' lb bs pn pn' hbs ⟨rfl, hlen, hA⟩ ⟨rfl, rfl, hx⟩
    simp only at hA
    have hx0 : l.length < n := hx
    refine ⟨_, rfl, ?_⟩
    intro b2
    refine ⟨2, l.length, (l ++ [x]).length, l.map (Value.int .u64), [Value.int .u64 x], (l ++ [x]).map (Value.int .u64), rfl, fun β w hs => row_rd (hs.get 0 rfl), fun u hu => by obtain rfl := List.mem_singleton.1 hu; rfl, by simp, by simp, by rw [List.length_append, hml]; show l.length + 1 ≤ _; omega, by rw [List.length_append]; show (l.length + 1) * 8 ≤ _; omega, ?_⟩
    intro A' c' h1 h2 h3
    have e1 : (l ++ [x]).length = l.length + 1 := by rw [List.length_append]; rfl
    refine ⟨⟨A', c', l ++ [x]⟩, ⟨rfl, by rw [e1]; omega, fun _ => ?_⟩, Ent.mk' trivial rfl (fun β w hs => hs.perm [2])⟩
    cases A' with
    | none => exact absurd (h3 rfl).2 (by decide)
    | some ad => exact ⟨ad, rfl⟩
  · rintro xs ⟨A, c, l⟩ Fs ⟨rfl, hlen, hA⟩ ⟨hP, rfl⟩
    simp only at hA
    intro β w' hs
    exact (hs.keepB (List.nil_sublist _)).fin [1, 0] ⟨A, c, l, rfl, hP, hlen, hA, rfl⟩ rfl rfl rfl ⟨rfl, hG', trivial⟩
  · rintro e pre j Fs ⟨⟩
theorem collectN_c (w : World) (k : FuncId) (bx : Nat) (ty : TypeId) (cs : List Value) (G G' : Fact) (n : Nat) (P : List Int → Prop) (hcall : callable Tryz.prog k = true) (hG : G.own = true) (hG' : G'.own = true) (hn : n ≤ 1000) (hg : GivesN k bx ty cs G G' n P) (hm : Mem w [bkF bx ty cs, G]) :
    Con Tryz.prog 32 #[.func (.func k) #[] #[.pointer (some ⟨bx, 0, none⟩)]] w [bkF bx ty cs, G] fun v Fs => ∃ A c l, v = .slice A l.length c ∧ P l ∧ l.length ≤ n ∧ (0 < l.length → ∃ ad, A = some ad) ∧ Fs = [urowF A l c, G'] := by
  have g := good_slices_Collect_uint64 w (Un [bkF bx ty cs, G])
  have hs0 : Sat (cx_slices_Collect_uint64 w (Un [bkF bx ty cs, G])) Va.z 0 [] [bkF bx ty cs, G] w := hm.sat0 rfl (fun f hf _ k hk => ⟨f, hf, hk⟩)
  refine con_of_sx (cx := cx_slices_Collect_uint64 w (Un [bkF bx ty cs, G])) g b_slices_Collect_uint64 rfl rfl (β := Va.z) [.c (.v (.func (.func k) #[] #[.pointer (some ⟨bx, 0, none⟩)]))] 0 [] _ rfl rfl hs0 ?_
  refine call_con [0, 1] (hown := ⟨rfl, hG, trivial⟩) (fun β w' hs => appendN_c w' k bx ty cs G G' n P hcall hG hG' hn hg (hs.mem.take (js := [0, 1]) rfl)) ?_
  rintro v Fs ⟨A, c, l, rfl, hP, hlen, hA, rfl⟩
  intro β w' hs
  exact hs.fin [0, 1] ⟨A, c, l, rfl, hP, hlen, hA, rfl⟩ rfl rfl rfl ⟨rfl, hG', trivial⟩
theorem keysI_gives (bx b : Nat) (lm : MLI) : GivesN 121 bx ty_map_uint64_sl_uint8 [.map (some b)] (mapIF .u64 b lm) (mapIF .u64 b lm) lm.length (fun xs => xs.Perm (lm.map (·.1))) :=
  fun l w f0 R J Jx hJ0 hJo hRo hY hm => keysI_it l w bx b lm f0 R J Jx hJ0 hJo hRo hY hm
theorem isNaNU_c (w : World) (x : Int) : Pu Tryz.prog n_cmp_isNaN_uint64 #[.int .u64 x] w (.bool false) := by
  have g := good_cmp_isNaN_uint64 w (Un [])
  refine con_of_sx (cx := cx_cmp_isNaN_uint64 w (Un [])) g b_cmp_isNaN_uint64 rfl rfl (β := Va.z) [.c (.v (.int .u64 x))] 0 [] [] rfl rfl (Sat.start rfl) ?_
  intro β w' hs
  refine hs.fin [] ⟨?_, rfl⟩
  show Value.bool (!decide (x = x)) = _
  simp
theorem lessU_c (w : World) (x y : Int) : Pu Tryz.prog n_cmp_Less_uint64 #[.int .u64 x, .int .u64 y] w (.bool (decide (x < y))) := by
  have g := good_cmp_Less_uint64 w (Un [])
  refine con_of_sx (cx := cx_cmp_Less_uint64 w (Un [])) g b_cmp_Less_uint64 rfl rfl (β := Va.z) [.c (.v (.int .u64 x)), .c (.v (.int .u64 y))] 0 [] [] rfl rfl (Sat.start rfl) ?_
  refine call_pu (fun β w' hs => isNaNU_c w' x) ?_
  intro β w' hs
  exact hs.fin [] ⟨rfl, rfl⟩
def at0 (l : List Int) (q : Nat) : Int := l.getD q 0
def sw (l : List Int) (j : Nat) : List Int := (l.set j (at0 l (j - 1))).set (j - 1) (at0 l j)
theorem at0_some {l : List Int} {q : Nat} (h : q < l.length) : l[q]? = some (at0 l q) := by
  simp [at0, List.getD, h]
theorem sw_len (l : List Int) (j : Nat) : (sw l j).length = l.length := by simp [sw]
theorem sw_get {l : List Int} {j : Nat} (h1 : 1 ≤ j) (h2 : j < l.length) (q : Nat) : at0 (sw l j) q = if q = j - 1 then at0 l j else if q = j then at0 l (j - 1) else at0 l q := by
  unfold sw at0
  simp only [List.getD_eq_getElem?_getD, List.getElem?_set, List.length_set]
  by_cases a : j - 1 = q
  · have a' : q = j - 1 := a.symm
    rw [if_pos a, if_pos (by omega), if_pos a']
    rfl
  · have a' : ¬ q = j - 1 := fun e => a e.symm
    rw [if_neg a, if_neg a']
    by_cases b : j = q
    · have b' : q = j := b.symm
      rw [if_pos b, if_pos h2, if_pos b']
      rfl
    · have b' : ¬ q = j := fun e => b e.symm
      rw [if_neg b, if_neg b']
theorem sw_perm {l : List Int} {j : Nat} (h1 : 1 ≤ j) (h2 : j < l.length) : (sw l j).Perm l := by
  have e1 : at0 l (j - 1) = l[j - 1]'(by omega) := by simp [at0, List.getD, List.getElem?_eq_getElem (show j - 1 < l.length by omega)]
  have e2 : at0 l j = l[j] := by simp [at0, List.getD, List.getElem?_eq_getElem h2]
  unfold sw
  rw [e1, e2]
  exact List.set_set_perm h2 (by omega)
def But (l : List Int) (i j : Nat) : Prop := ∀ p q, p < q → q ≤ i → q ≠ j → at0 l p ≤ at0 l q
def Upto (l : List Int) (i : Nat) : Prop := ∀ p q, p < q → q < i → at0 l p ≤ at0 l q
theorem But.start {l : List Int} {i : Nat} (h : Upto l i) : But l i i := fun p q h1 h2 h3 => h p q h1 (by omega)
theorem But.swap {l : List Int} {i j : Nat} (h : But l i j) (h1 : 1 ≤ j) (h2 : j ≤ i) (h3 : i < l.length) (hlt : at0 l j < at0 l (j - 1)) : But (sw l j) i (j - 1) := by
  intro p q hpq hq hne
  rw [sw_get h1 (by omega), sw_get h1 (by omega), if_neg hne]
  by_cases b : q = j
  · subst b
    rw [if_pos rfl]
    by_cases a : p = q - 1
    · rw [if_pos a]
      omega
    · rw [if_neg a, if_neg (by omega)]
      exact h p (q - 1) (by omega) (by omega) (by omega)
  · rw [if_neg b]
    by_cases a : p = j - 1
    · rw [if_pos a]
      exact h j q (by omega) hq b
    · rw [if_neg a]
      by_cases c : p = j
      · rw [if_pos c]
        exact h (j - 1) q (by omega) hq b
      · rw [if_neg c]
        exact h p q hpq hq b
theorem But.done {l : List Int} {i j : Nat} (h : But l i j) (h2 : j ≤ i) (hj : 1 ≤ j → ¬ at0 l j < at0 l (j - 1)) : Upto l (i + 1) := by
  intro p q hpq hq
  by_cases b : q = j
  · subst b
    have h3 := hj (by omega)
    by_cases a : p = q - 1
    · subst a
      omega
    · have := h p (q - 1) (by omega) (by omega) (by omega)
      omega
  · exact h p q hpq (by omega) b
theorem uset (l : List Int) (j : Nat) (x : Int) : putAll (l.map (Value.int .u64)) (j * 1) [.int .u64 x] = (l.set j x).map (Value.int .u64) := by
  rw [putAll, putAll, putAt_eq, Nat.mul_one, List.map_set]
theorem insU_c (w : World) (A : Option Addr) (l : List Int) (c : Nat) (hl : l.length ≤ 12) (hm : Mem w [urowF A l c]) :
    Con Tryz.prog n_slices_insertionSortOrdered_uint64 #[.slice A l.length c, .int .i64 0, .int .i64 (l.length : Int)] w [urowF A l c] fun v Fs => v = .tuple #[] ∧ ∃ l', l'.Perm l ∧ Upto l' l.length ∧ Fs = [urowF A l' c] := by
  have g := good_slices_insertionSortOrdered_uint64 w (Un [urowF A l c])
  have hs0 : Sat (cx_slices_insertionSortOrdered_uint64 w (Un [urowF A l c])) Va.z 0 [] [urowF A l c] w := hm.sat0 rfl (fun f hf _ k hk => ⟨f, hf, hk⟩)
  have hA : 0 < l.length → ∃ g0, A = some ⟨g0, 0, none⟩ := fun h => by
    have ho : w.ownsRow 0 ty_uint64 1 (.slice A l.length c) l.length (l.map (Value.int .u64)) := hm.fact _ List.mem_cons_self
    rcases ho.2 with ⟨_, h0⟩ | ⟨g0, cap, cur, hv, _⟩
    · exact absurd h0 (by omega)
    · injection hv with q _ _
      exact ⟨g0, q⟩
  obtain ⟨N, hN⟩ : ∃ N, l.length = N := ⟨_, rfl⟩
  rw [hN] at hl hA ⊢
  refine con_of_sx (cx := cx_slices_insertionSortOrdered_uint64 w (Un [urowF A l c])) g b_slices_insertionSortOrdered_uint64 rfl rfl (β := Va.z) [.c (.v (.slice A N c)), .c (.v (.int .i64 0)), .c (.v (.int .i64 (N : Int)))] 0 [] _ rfl rfl hs0 ?_
  refine ⟨1, rfl, ?_⟩
  refine loop_rule (ι := List Int × Nat) 0 (fun i => [(0, .c (.v (.slice A N c))), (1, .c (.v (.int .i64 0))), (2, .c (.v (.int .i64 (N : Int)))), (6, .c (.v (.int .i64 (i.2 : Int))))]) (fun _ => []) (fun i => [urowF A i.1 c])
    (fun i => i.1.Perm l ∧ 1 ≤ i.2 ∧ Upto i.1 i.2 ∧ i.2 ≤ N + 1) (fun i => N + 1 - i.2) (l, 1) ⟨List.Perm.refl _, Nat.le_refl _, fun p q h1 h2 => by omega, by omega⟩ (Ent.same ⟨rfl, rfl, rfl, rfl, trivial⟩ rfl) g ?_
  rintro ⟨xs, i⟩ ⟨hp, hi1, hu, hiN⟩
  simp only at hp hi1 hu hiN
  have hxl : xs.length = N := by rw [hp.length_eq, hN]
  refine BIf.dec (fun hlt => ?_) (fun hge => ?_)
  · have hlt0 : (i : Int) < N := hlt
    have hiN2 : i < N := by omega
    obtain ⟨g0, rfl⟩ := hA (by omega)
    refine loop_rule (ι := List Int × Nat) 0 (fun y => [(0, .c (.v (.slice (some ⟨g0, 0, none⟩) N c))), (1, .c (.v (.int .i64 0))), (2, .c (.v (.int .i64 (N : Int)))), (6, .c (.v (.int .i64 (i : Int)))), (7, .c (.v (.int .i64 (y.2 : Int))))]) (fun _ => []) (fun y => [urowF (some ⟨g0, 0, none⟩) y.1 c])
      (fun y => y.1.Perm l ∧ But y.1 i y.2 ∧ y.2 ≤ i) (fun y => y.2) (xs, i) ⟨hp, But.start hu, Nat.le_refl _⟩ (Ent.same ⟨rfl, rfl, rfl, rfl, rfl, trivial⟩ rfl) g ?_
    rintro ⟨ys, j⟩ ⟨hyp, hb, hji⟩
    simp only at hyp hb hji
    have hyl : ys.length = N := by rw [hyp.length_eq, hN]
    refine draw_rule g p_slices_insertionSortOrdered_uint64_4 (by kernel_rfl) _ _ Sub.refl ?_
    have hcell : ∀ q, q < N → ∀ {cx : Cx} {β : Va} {w' : World} {n : Nat} {H : List Bk}, Sat cx β n H [urowF (some ⟨g0, 0, none⟩) ys c] w' → w'.cell? ((⟨g0, 0, none⟩ : Addr).add (q * 1)) = some (.int .u64 (at0 ys q)) := by
      intro q hq cx β w' n H hs
      have h := row_rd (hs.get 0 rfl)
      exact Rd.cell1 h (by rw [List.getElem?_map, at0_some (by omega)]; rfl)
    refine BIf.dec (fun hj => ?_) (fun hj => ?_)
    · have hj0 : (0 : Int) < j := hj
      refine ⟨⟨g0, 0, none⟩, j, rfl, rfl, by omega, .int .u64 (at0 ys j), fun β w' hs => hcell j (by omega) hs, ?_⟩
      refine ⟨((j - 1 : Nat) : Int), by rw [wrap_i64 (by omega) (by omega)]; omega, ?_⟩
      refine ⟨⟨g0, 0, none⟩, j - 1, rfl, rfl, by omega, .int .u64 (at0 ys (j - 1)), fun β w' hs => hcell (j - 1) (by omega) hs, ?_⟩
      obtain ⟨bb, hbb⟩ : ∃ bb, decide (at0 ys j < at0 ys (j - 1)) = bb := ⟨_, rfl⟩
      refine call_pu (v := .bool bb) (fun β w' hs => by rw [← hbb]; exact lessU_c w' _ _) ?_
      refine ⟨Sub.refl, ?_⟩
      cases bb with
      | true =>
        have hlt2 : at0 ys j < at0 ys (j - 1) := of_decide_eq_true hbb
        have hS : ∀ {n : Nat} {H : List Bk} {F : List Fact}, Sub (cx_slices_insertionSortOrdered_uint64 w (Un [urowF (some ⟨g0, 0, none⟩) l c])) n H F [] [] := fun {n H F} => Sub.of (List.nil_sublist _) (List.nil_sublist _)
        refine draw_rule g p_slices_insertionSortOrdered_uint64_6 (by kernel_rfl) [] [] hS ?_
        refine ⟨((j - 1 : Nat) : Int), by rw [wrap_i64 (by omega) (by omega)]; omega, ?_⟩
        refine ⟨((j - 1 : Nat) : Int), by rw [wrap_i64 (by omega) (by omega)]; omega, ?_⟩
        refine ⟨⟨g0, 0, none⟩, j - 1, rfl, rfl, by omega, ?_⟩
        refine ⟨⟨g0, 0, none⟩, j, rfl, rfl, by omega, ?_⟩
        have hsl : (sw ys j).length = N := by rw [sw_len, hyl]
        refine ⟨?_, ?_⟩
        · skip
          refine ⟨.int .u64 (at0 ys (j - 1)), fun β w' hs => hcell (j - 1) (by omega) hs, ?_⟩
          refine ⟨hS, ?_⟩
          refine ⟨.int .u64 (at0 ys j), fun β w' hs => hcell j (by omega) hs, ?_⟩
          refine ⟨hS, ?_⟩
          refine ⟨⟨g0, 0, none⟩, j, rfl, rfl, by omega, ?_⟩
          refine ⟨_, fun β w' hs => Sat.rowSet hs (j := 0) (us := [.int .u64 (at0 ys (j - 1))]) rfl (by show j * 1 + 1 ≤ ys.length * 1; omega) (fun u hu => by obtain rfl := List.mem_singleton.1 hu; rfl), ?_⟩
          refine ⟨hS, ?_⟩
          refine ⟨⟨g0, 0, none⟩, j - 1, rfl, rfl, by omega, ?_⟩
          refine ⟨_, fun β w' hs => Sat.rowSet hs (j := 0) (us := [.int .u64 (at0 ys j)]) rfl (by show (j - 1) * 1 + 1 ≤ ys.length * 1; omega) (fun u hu => by obtain rfl := List.mem_singleton.1 hu; rfl), ?_⟩
          refine ⟨hS, ?_⟩
          refine ⟨((j - 1 : Nat) : Int), by rw [wrap_i64 (by omega) (by omega)]; omega, ?_⟩
          exact ⟨(sw ys j, j - 1), ⟨(sw_perm (by omega) (by omega)).trans hyp, hb.swap (by omega) hji (by omega) hlt2, by show j - 1 ≤ i; omega⟩, by show j - 1 < j; omega, Ent.mk' ⟨rfl, rfl, rfl, rfl, rfl, trivial⟩ rfl (fun β w' hs => by
            show Sat _ _ _ _ [rowF ty_uint64 1 (.slice (some ⟨g0, 0, none⟩) (sw ys j).length c) (sw ys j).length ((sw ys j).map (Value.int .u64))] _
            rw [sw_len]
            have e : (sw ys j).map (Value.int .u64) = putAll (putAll (ys.map (Value.int .u64)) (j * 1) [.int .u64 (at0 ys (j - 1))]) ((j - 1) * 1) [.int .u64 (at0 ys j)] := by rw [uset, uset]; rfl
            rw [e]
            exact hs)⟩
        · skip
          refine ⟨.int .u64 (at0 ys j), fun β w' hs => hcell j (by omega) hs, ?_⟩
          refine ⟨hS, ?_⟩
          refine ⟨.int .u64 (at0 ys (j - 1)), fun β w' hs => hcell (j - 1) (by omega) hs, ?_⟩
          refine ⟨hS, ?_⟩
          refine ⟨⟨g0, 0, none⟩, j, rfl, rfl, by omega, ?_⟩
          refine ⟨_, fun β w' hs => Sat.rowSet hs (j := 0) (us := [.int .u64 (at0 ys (j - 1))]) rfl (by show j * 1 + 1 ≤ ys.length * 1; omega) (fun u hu => by obtain rfl := List.mem_singleton.1 hu; rfl), ?_⟩
          refine ⟨hS, ?_⟩
          refine ⟨⟨g0, 0, none⟩, j - 1, rfl, rfl, by omega, ?_⟩
          refine ⟨_, fun β w' hs => Sat.rowSet hs (j := 0) (us := [.int .u64 (at0 ys j)]) rfl (by show (j - 1) * 1 + 1 ≤ ys.length * 1; omega) (fun u hu => by obtain rfl := List.mem_singleton.1 hu; rfl), ?_⟩
          refine ⟨hS, ?_⟩
          refine ⟨((j - 1 : Nat) : Int), by rw [wrap_i64 (by omega) (by omega)]; omega, ?_⟩
          exact ⟨(sw ys j, j - 1), ⟨(sw_perm (by omega) (by omega)).trans hyp, hb.swap (by omega) hji (by omega) hlt2, by show j - 1 ≤ i; omega⟩, by show j - 1 < j; omega, Ent.mk' ⟨rfl, rfl, rfl, rfl, rfl, trivial⟩ rfl (fun β w' hs => by
            show Sat _ _ _ _ [rowF ty_uint64 1 (.slice (some ⟨g0, 0, none⟩) (sw ys j).length c) (sw ys j).length ((sw ys j).map (Value.int .u64))] _
            rw [sw_len]
            have e : (sw ys j).map (Value.int .u64) = putAll (putAll (ys.map (Value.int .u64)) (j * 1) [.int .u64 (at0 ys (j - 1))]) ((j - 1) * 1) [.int .u64 (at0 ys j)] := by rw [uset, uset]; rfl
            rw [e]
            exact hs)⟩
      | false =>
        refine ⟨((i + 1 : Nat) : Int), by rw [wrap_i64 (by omega) (by omega)]; rfl, ?_⟩
        exact ⟨(ys, i + 1), ⟨hyp, by show 1 ≤ i + 1; omega, hb.done hji (fun _ => of_decide_eq_false hbb), by show i + 1 ≤ N + 1; omega⟩, by show N + 1 - (i + 1) < N + 1 - i; omega, Ent.same ⟨rfl, rfl, rfl, rfl, trivial⟩ rfl⟩
    · have hj0 : ¬ (0 : Int) < j := hj
      refine ⟨Sub.refl, ?_⟩
      refine ⟨((i + 1 : Nat) : Int), by rw [wrap_i64 (by omega) (by omega)]; rfl, ?_⟩
      exact ⟨(ys, i + 1), ⟨hyp, by show 1 ≤ i + 1; omega, hb.done hji (fun h => by omega), by show i + 1 ≤ N + 1; omega⟩, by show N + 1 - (i + 1) < N + 1 - i; omega, Ent.same ⟨rfl, rfl, rfl, rfl, trivial⟩ rfl⟩
  · have hge0 : ¬ (i : Int) < N := hge
    intro β w' hs
    exact hs.fin [0] ⟨rfl, xs, hp, fun p q h1 h2 => hu p q h1 (by omega), rfl⟩
theorem pdqU_c (w : World) (A : Option Addr) (l : List Int) (c : Nat) (m : Int) (hl : l.length ≤ 12) (hm : Mem w [urowF A l c]) :
    Con Tryz.prog n_slices_pdqsortOrdered_uint64 #[.slice A l.length c, .int .i64 0, .int .i64 (l.length : Int), .int .i64 m] w [urowF A l c] fun v Fs => v = .tuple #[] ∧ ∃ l', l'.Perm l ∧ Upto l' l.length ∧ Fs = [urowF A l' c] := by
  have g := good_slices_pdqsortOrdered_uint64 w (Un [urowF A l c])
  have hs0 : Sat (cx_slices_pdqsortOrdered_uint64 w (Un [urowF A l c])) Va.z 0 [] [urowF A l c] w := hm.sat0 rfl (fun f hf _ k hk => ⟨f, hf, hk⟩)
  refine con_of_sx (cx := cx_slices_pdqsortOrdered_uint64 w (Un [urowF A l c])) g b_slices_pdqsortOrdered_uint64 rfl rfl (β := Va.z) [.c (.v (.slice A l.length c)), .c (.v (.int .i64 0)), .c (.v (.int .i64 (l.length : Int))), .c (.v (.int .i64 m))] 0 [] _ rfl rfl hs0 ?_
  refine loop_rule 0 (fun _ : Unit => [(0, .c (.v (.slice A l.length c))), (1, .c (.v (.int .i64 0))), (2, .c (.v (.int .i64 (l.length : Int))))]) (fun _ => []) (fun _ => [urowF A l c]) (fun _ => True) (fun _ => 0) () trivial (Ent.same ⟨rfl, rfl, rfl, trivial⟩ rfl) g ?_
  rintro ⟨⟩ -
  refine ⟨(l.length : Int), by rw [Int.sub_zero, wrap_i64 (by omega) (by omega)], ?_⟩
  refine BIf.dec (fun _ => ?_) (fun h => absurd (show (l.length : Int) ≤ 12 by omega) h)
  refine call_con [0] (fun β w' hs => insU_c w' A l c hl (hs.mem.take (js := [0]) rfl)) ?_
  rintro v Fs ⟨rfl, l', h1, h2, rfl⟩
  intro β w' hs
  exact hs.fin [0] ⟨rfl, l', h1, h2, rfl⟩
theorem bitsU_c (x : Nat) (hx : x < 18446744073709551616) : ∃ r : Int, ∀ w, Pu Tryz.prog n_math_bits_Len #[.int .u64 (x : Int)] w (.int .i64 r) := by
  refine ⟨((Lib.bitLen (x : Int).toNat : Nat) : Int), fun w => pu_of (Calls.mono (Tryz.bits_Len (x : Int) w (by omega) (by omega)) ?_)⟩
  rintro e w' ⟨rfl, rfl⟩
  exact ⟨_, rfl, rfl, Chg.refl _ _⟩
theorem sortU_c (w : World) (A : Option Addr) (l : List Int) (c : Nat) (hl : l.length ≤ 12) (hm : Mem w [urowF A l c]) :
    Con Tryz.prog n_slices_Sort_uint64_uint64 #[.slice A l.length c] w [urowF A l c] fun v Fs => v = .tuple #[] ∧ ∃ l', l'.Perm l ∧ Upto l' l.length ∧ Fs = [urowF A l' c] := by
  have g := good_slices_Sort_uint64_uint64 w (Un [urowF A l c])
  have hs0 : Sat (cx_slices_Sort_uint64_uint64 w (Un [urowF A l c])) Va.z 0 [] [urowF A l c] w := hm.sat0 rfl (fun f hf _ k hk => ⟨f, hf, hk⟩)
  refine con_of_sx (cx := cx_slices_Sort_uint64_uint64 w (Un [urowF A l c])) g b_slices_Sort_uint64_uint64 rfl rfl (β := Va.z) [.c (.v (.slice A l.length c))] 0 [] _ rfl rfl hs0 ?_
  refine ⟨(l.length : Int), by rw [wrap_u64']; omega, ?_⟩
  obtain ⟨r, hr⟩ := bitsU_c l.length (by omega)
  refine call_pu (fun β w' hs => hr w') ?_
  refine call_con [0] (fun β w' hs => pdqU_c w' A l c r hl (hs.mem.take (js := [0]) rfl)) ?_
  rintro v Fs ⟨rfl, l', h1, h2, rfl⟩
  intro β w' hs
  exact hs.fin [0] ⟨rfl, l', h1, h2, rfl⟩
theorem rising_of {l : List Int} (h : Upto l l.length) : l.Pairwise (· ≤ ·) := by
  rw [List.pairwise_iff_getElem]
  intro p q hp hq hpq
  have := h p q hpq hq
  simpa [at0, List.getD, hp, hq] using this
theorem sortedN_c (w : World) (k : FuncId) (bx : Nat) (ty : TypeId) (cs : List Value) (G G' : Fact) (n : Nat) (P : List Int → Prop) (hcall : callable Tryz.prog k = true) (hG : G.own = true) (hG' : G'.own = true) (hn : n ≤ 12) (hg : GivesN k bx ty cs G G' n P) (hm : Mem w [bkF bx ty cs, G]) :
    Con Tryz.prog 58 #[.func (.func k) #[] #[.pointer (some ⟨bx, 0, none⟩)]] w [bkF bx ty cs, G] fun v Fs => ∃ A c l, v = .slice A l.length c ∧ (∃ l0, P l0 ∧ l.Perm l0) ∧ l.length ≤ n ∧ l.Pairwise (· ≤ ·) ∧ (0 < l.length → ∃ ad, A = some ad) ∧ Fs = [urowF A l c, G'] := by
  have g := good_slices_Sorted_uint64 w (Un [bkF bx ty cs, G])
  have hs0 : Sat (cx_slices_Sorted_uint64 w (Un [bkF bx ty cs, G])) Va.z 0 [] [bkF bx ty cs, G] w := hm.sat0 rfl (fun f hf _ k hk => ⟨f, hf, hk⟩)
  refine con_of_sx (cx := cx_slices_Sorted_uint64 w (Un [bkF bx ty cs, G])) g b_slices_Sorted_uint64 rfl rfl (β := Va.z) [.c (.v (.func (.func k) #[] #[.pointer (some ⟨bx, 0, none⟩)]))] 0 [] _ rfl rfl hs0 ?_
  refine call_con [0, 1] (hown := ⟨rfl, hG, trivial⟩) (fun β w' hs => collectN_c w' k bx ty cs G G' n P hcall hG hG' (by omega) hg (hs.mem.take (js := [0, 1]) rfl)) ?_
  rintro v Fs ⟨A, c, l, rfl, hP, hlen, hA, rfl⟩
  refine call_con [0] (fun β w' hs => sortU_c w' A l c (by omega) (hs.mem.take (js := [0]) rfl)) ?_
  rintro v Fs ⟨rfl, l', h1, h2, rfl⟩
  have hl := h1.length_eq
  intro β w' hs
  refine hs.fin [0, 1] ⟨A, c, l', by rw [hl]; rfl, ⟨l, hP, h1⟩, by omega, rising_of (by rw [hl]; exact h2), by rw [hl]; exact hA, rfl⟩ rfl rfl rfl ⟨rfl, hG', trivial⟩
def decimS (u : Nat) : ByteArray := ⟨(Lib.decDigits u).toArray⟩
theorem smallU_c (w : World) (u : Nat) (hu : u < 100) : Pu Tryz.prog n_internal_strconv_small #[.int .i64 (u : Int)] w (.string (decimS u)) := by
  refine pu_of (Calls.mono (Tryz.internal_strconv_small u hu w) ?_)
  rintro e w' ⟨rfl, rfl⟩
  exact ⟨_, rfl, rfl, Chg.refl _ _⟩
theorem fmtI_c (w : World) (u : Nat) (hu : u < 100) : Pu Tryz.prog n_internal_strconv_FormatUint #[.int .u64 (u : Int), .int .i64 10] w (.string (decimS u)) := by
  obtain ⟨x, hx⟩ : ∃ x : Int, (u : Int) = x := ⟨_, rfl⟩
  rw [hx]
  refine con_of_sx (cx := cx_internal_strconv_FormatUint w (Un [])) (good_internal_strconv_FormatUint w (Un [])) b_internal_strconv_FormatUint rfl rfl (β := Va.z) [.c (.v (.int .u64 x)), .c (.v (.int .i64 10))] 0 [] [] rfl rfl (Sat.start rfl) ?_
  refine BIf.dec (fun _ => ?_) (fun h => absurd (show x < 100 by omega) h)
  refine ⟨x, by rw [wrap_i64 (by omega) (by omega)], ?_⟩
  refine call_pu (fun β w' hs => by rw [← hx]; exact smallU_c w' u hu) ?_
  intro β w' hs
  exact hs.fin [] ⟨rfl, rfl⟩
theorem fmtU_c (w : World) (u : Nat) (hu : u < 100) : Pu Tryz.prog n_strconv_FormatUint #[.int .u64 (u : Int), .int .i64 10] w (.string (decimS u)) := by
  refine con_of_sx (cx := cx_strconv_FormatUint w (Un [])) (good_strconv_FormatUint w (Un [])) b_strconv_FormatUint rfl rfl (β := Va.z) [.c (.v (.int .u64 (u : Int))), .c (.v (.int .i64 10))] 0 [] [] rfl rfl (Sat.start rfl) ?_
  refine call_pu (fun β w' hs => fmtI_c w' u hu) ?_
  intro β w' hs
  exact hs.fin [] ⟨rfl, rfl⟩
structure RKey where
  e : Nat
  A : Option Addr
  c : Nat
  p : List UInt8
structure Rg where
  b : Nat
  bx : Nat
  mA : Option Addr
  mc : Nat
  master : List UInt8
  room : Nat
  m : Nat
  ks : List RKey
  epoch : Nat
def RKey.v (k : RKey) : Value := .slice k.A k.p.length k.c
def RKey.f (k : RKey) : Fact := browF ty_uint8 k.A k.p k.c
def Rg.vs (r : Rg) : List Value := [.pointer (some ⟨r.bx, 0, none⟩), .slice r.mA r.master.length r.mc, .int .i64 (r.room : Int), .map (some r.m), .int .u64 (r.epoch : Int)]
def Rg.ml (r : Rg) : MLI := r.ks.map fun k => ((k.e : Int), k.v)
def rgF (r : Rg) : Fact := sepF [bkF r.b ty_ring_Ring r.vs, browF ty_uint8 r.mA r.master r.mc, mapIF .u64 r.m r.ml, sepF (r.ks.map RKey.f)]
theorem rg_bk {r : Rg} {w : World} (h : (rgF r).p w) : (bkF r.b ty_ring_Ring r.vs).p w := h.1 _ (by simp)
theorem rg_map {r : Rg} {w : World} (h : (rgF r).p w) : mapIP .u64 r.m r.ml w := h.1 (mapIF .u64 r.m r.ml) (by simp)
def ptrR (b : Nat) : Value := .pointer (some ⟨b, 0, none⟩)
theorem cell_bk {b ty : Nat} {cs : List Value} {w : World} (h : (bkF b ty cs).p w) {o : Nat} {v : Value} (ho : cs[o]? = some v) : w.cell? ⟨b, o, none⟩ = some v := by
  have hb : w.heap[b]? = some (.cells cs.toArray ty (0, 0)) := h
  rw [cell_of_row w b o _ _ _ hb]
  simpa using ho
def Rg.es (r : Rg) : List Int := r.ks.map fun k => (k.e : Int)
theorem Rg.ml_es (r : Rg) : r.ml.map (·.1) = r.es := by simp [Rg.ml, Rg.es]
def onFst {α β : Type} (pre : List α) (a b : β) : β := match pre with | [] => a | _ :: _ => b
def insE (r : Rg) (L : List Int) (pre : List Int) (x : Int) (args : Array Value) (X : Fact) : Prop :=
  args = #[.int .u64 x] ∧ X = onFst pre (rgF r) noF ∧ L[pre.length]? = some x
def Rg.rise (r : Rg) : List Int := r.es.mergeSort fun x y => decide (x ≤ y)
theorem rise_of {r : Rg} {l : List Int} (h : l.Perm r.es) (hs : l.Pairwise (· ≤ ·)) : l = r.rise := by
  have h2 := List.pairwise_mergeSort (le := fun x y : Int => decide (x ≤ y)) (fun a b c p q => by simp only [decide_eq_true_eq] at *; omega) (fun a b => by simp only [Bool.or_eq_true, decide_eq_true_eq]; omega) r.es
  refine List.Perm.eq_of_pairwise (le := fun x y => x ≤ y) (fun a b _ _ p q => by omega) hs (h2.imp fun p => of_decide_eq_true p) (h.trans (List.mergeSort_perm _ _).symm)
theorem ep_it (l : Nat) (w : World) (bx : Nat) (r : Rg) (f0 R : Fact) (J Jx : List Int → Fact → Prop) (hL : r.ks.length ≤ 12) (hJ0 : J [] f0) (hJo : ∀ pre f, J pre f → f.own = true) (hRo : R.own = false) (hY : Yc Tryz.prog l J Jx R (insE r r.rise))
    (hm : Mem w (f0 :: R :: [bkF bx ty_ptr_ring_Ring [ptrR r.b], rgF r])) :
    Con Tryz.prog n_ring_Ring_Epochs_1 #[.func (.yield l) #[] #[], .pointer (some ⟨bx, 0, none⟩)] w [f0, bkF bx ty_ptr_ring_Ring [ptrR r.b], rgF r]
      (fun _ Fs => ∃ f Fs', Fs = f :: Fs' ∧ ((∃ xs, J xs f ∧ xs = r.rise ∧ Fs' = onFst r.rise [rgF r] []) ∨ (∃ pre, Jx pre f ∧ Fs' = []))) := by
  have g := good_ring_Ring_Epochs_1 w (Un [f0, bkF bx ty_ptr_ring_Ring [ptrR r.b], rgF r]) [bx]
  have hs0 : Sat (cx_ring_Ring_Epochs_1 w (Un [f0, bkF bx ty_ptr_ring_Ring [ptrR r.b], rgF r]) [bx]) (Va.of fun _ => bx) 1 [] (f0 :: R :: [bkF bx ty_ptr_ring_Ring [ptrR r.b], rgF r]) w := by
    refine hm.sat rfl (fun f hf ho k hk => ?_) ⟨Nat.le_refl 1, fun i hi => by obtain rfl : i = 0 := Nat.lt_one_iff.1 hi; rfl⟩
    simp only [List.mem_cons, List.not_mem_nil, or_false] at hf
    rcases hf with rfl | rfl | rfl | rfl
    · exact ⟨_, by simp, hk⟩
    · rw [hRo] at ho; cases ho
    · exact ⟨bkF bx ty_ptr_ring_Ring [ptrR r.b], by simp, hk⟩
    · exact ⟨rgF r, by simp, hk⟩
  have hs1 := ((hs0.toBk 2 rfl 0 Nat.zero_lt_one rfl).unsep 2 rfl)
  refine con_of_sx (cx := cx_ring_Ring_Epochs_1 w (Un [f0, bkF bx ty_ptr_ring_Ring [ptrR r.b], rgF r]) [bx]) g b_ring_Ring_Epochs_1 rfl rfl (β := Va.of fun _ => bx) [.c (.v (.func (.yield l) #[] #[])), .c (.p 0 0)] 1 _ _ rfl rfl hs1 ?_
  have hml : r.ml.length = r.ks.length := by rw [Rg.ml, List.length_map]
  refine ⟨.map (some r.m), fun β w' hs => cell_bk (hs.get 0 rfl) (o := 3) rfl, ?_⟩
  refine call_con [] (fun β w' hs => keysI_c w' (some r.m)) ?_
  rintro v Fs ⟨B, rfl, rfl⟩
  refine call_conS [0, 3] (fun β w' hs => sortedN_c w' _ B _ _ _ _ r.ml.length _ (by kernel_rfl) rfl rfl (by omega) (keysI_gives B r.m r.ml) (hs.mem.take (js := [0, 3]) rfl)) ?_
  rintro v Fs ⟨A, c, L, rfl, ⟨l0, hp0, hp1⟩, hLl, hris, hA0, rfl⟩
  have hLr : L = r.rise := rise_of ((hp1.trans hp0).trans (by rw [Rg.ml_es])) hris
  subst hLr
  refine ⟨_, _, fun β w' hs => (hs.sep [2, 3, 1, 4] rfl ⟨rfl, rfl, rfl, rfl, trivial⟩).perm [1, 2, 3, 0], ?_⟩
  generalize hN : r.rise = L at *
  have hL12 : L.length ≤ 12 := by omega
  refine loop_rule (ι := List Int × Fact) 1 (fun i => [(0, .c (.v (.func (.yield l) #[] #[]))), (1, .c (.p 0 0)), (12, .c (.v (.slice A L.length c))), (13, .c (.v (.int .i64 (L.length : Int)))), (14, .c (.v (.int .i64 (i.1.length : Int))))]) (fun _ => [⟨0, ty_ptr_ring_Ring, [.v (ptrR r.b)]⟩]) (fun i => urowF A L c :: i.2 :: R :: onFst i.1 [rgF r] [])
    (fun i => J i.1 i.2 ∧ i.1 = L.take i.1.length ∧ i.1.length ≤ L.length) (fun i => L.length - i.1.length) ([], f0) ⟨hJ0, rfl, Nat.zero_le _⟩ (Ent.same ⟨rfl, rfl, rfl, rfl, rfl, trivial⟩ rfl) g ?_
  rintro ⟨pre, f⟩ ⟨hJ, hpre, hi⟩
  simp only at hJ hpre hi
  have hfo := hJo _ _ hJ
  simp only
  refine BIf.dec (fun hlt => ?_) (fun hge => ?_)
  · have hlt0 : (pre.length : Int) < L.length := hlt
    have hkl : pre.length < L.length := by omega
    obtain ⟨x, hx, _⟩ := at_lt hkl
    obtain ⟨ad, hAd⟩ := hA0 (by omega)
    have hnext : pre ++ [x] = L.take (pre ++ [x]).length := by
      have e : (pre ++ [x]).length = pre.length + 1 := by rw [List.length_append]; rfl
      rw [e, List.take_add_one, hx, ← hpre]
      rfl
    have e : (pre ++ [x]).length = pre.length + 1 := by rw [List.length_append]; rfl
    refine ⟨ad, pre.length, hAd, rfl, hkl, .int .u64 x, fun β w' hs => ?_, ?_⟩
    · have h := row_rd (hs.get 0 rfl)
      rw [hAd] at h
      exact Rd.cell1 h (by simp [hx])
    cases pre with
    | nil =>
      refine yield_own (X := rgF r) (x := x) hY 1 2 3 rfl hJ hfo rfl rfl rfl (by decide) (by decide) (by decide) (fun β => ⟨rfl, rfl, hx⟩) ?_ ?_
      · intro f2 hfo2 hJ2
        refine ⟨1, by rw [wrap_i64 (by omega) (by omega)]; rfl, ?_⟩
        refine ⟨([x], f2), ⟨hJ2, hnext, by show 1 ≤ L.length; exact hkl⟩, by show L.length - 1 < L.length - 0; have : 0 < L.length := hkl; omega, ?_⟩
        exact Ent.mk' ⟨rfl, rfl, rfl, rfl, rfl, trivial⟩ rfl (fun β w' hs => hs.perm [1, 0, 2])
      · intro f2 hfo2 hJ2 β w' hs
        exact (hs.keepB (List.nil_sublist _)).fin [0] ⟨f2, _, rfl, .inr ⟨_, hJ2, rfl⟩⟩ rfl rfl rfl ⟨hfo2, trivial⟩
    | cons y ys =>
      refine yield_ro (X := noF) (x := x) hY 1 2 rfl hJ hfo rfl hRo (by decide) (fun β => ⟨rfl, rfl, hx⟩) rfl (fun β w _ => ⟨trivial, fun k hk => hk.elim, fun k _ h => h.elim⟩) ?_ ?_
      · intro f2 hfo2 hJ2
        refine ⟨(((y :: ys).length + 1 : Nat) : Int), by rw [wrap_i64 (by omega) (by omega)]; rfl, ?_⟩
        refine ⟨(y :: ys ++ [x], f2), ⟨hJ2, hnext, by show (y :: ys ++ [x]).length ≤ _; rw [e]; omega⟩, by show L.length - (y :: ys ++ [x]).length < L.length - (y :: ys).length; rw [e]; omega, ?_⟩
        simp only [e]
        exact Ent.mk' ⟨rfl, rfl, rfl, rfl, rfl, trivial⟩ rfl (fun β w' hs => hs.perm [1, 0, 2])
      · intro f2 hfo2 hJ2 β w' hs
        exact (hs.keepB (List.nil_sublist _)).fin [0] ⟨f2, _, rfl, .inr ⟨_, hJ2, rfl⟩⟩ rfl rfl rfl ⟨hfo2, trivial⟩
  · have hge0 : ¬ (pre.length : Int) < L.length := hge
    have hpl : pre = L := by rw [hpre, List.take_of_length_le (by omega)]
    subst hpl
    cases pre with
    | nil =>
      intro β w' hs
      exact (hs.keepB (List.nil_sublist _)).fin [1, 3] ⟨f, _, rfl, .inl ⟨[], hJ, rfl, rfl⟩⟩ rfl rfl rfl ⟨hfo, rfl, trivial⟩
    | cons y ys =>
      intro β w' hs
      exact (hs.keepB (List.nil_sublist _)).fin [1] ⟨f, _, rfl, .inl ⟨_, hJ, rfl, rfl⟩⟩ rfl rfl rfl ⟨hfo, trivial⟩
def rdCells (A : Option Addr) (c : Nat) (r : Rdr) : List Value := [.slice A r.p.length c, .bool r.bad]
theorem zeros_map : ∀ n : Nat, (List.replicate n (0 : UInt8)).map byte = repl [.int .u8 0] n
  | 0 => rfl
  | k + 1 => by rw [List.replicate_succ, List.map_cons, zeros_map k]; rfl
theorem or_u64 {x y : Nat} (hx : x < 72057594037927936) (hy : y < 256) : bits .or .u64 ((x * 256 : Nat) : Int) (y : Int) = ((x * 256 + y : Nat) : Int) := by
  show IntKind.u64.wrap (((BitVec.ofInt 64 ((x * 256 : Nat) : Int)) ||| (BitVec.ofInt 64 (y : Int))).toNat : Int) = _
  have h1 : (BitVec.ofInt 64 ((x * 256 : Nat) : Int)).toNat = x <<< 8 := by
    rw [BitVec.toNat_ofInt, Nat.shiftLeft_eq]
    omega
  have h2 : (BitVec.ofInt 64 (y : Int)).toNat = y := by
    rw [BitVec.toNat_ofInt]
    omega
  rw [BitVec.toNat_or, h1, h2, ← Nat.shiftLeft_add_eq_or_of_lt (by omega) x, Nat.shiftLeft_eq, wrap_u64]
  omega
theorem shl_u64 (x : Nat) : IntKind.u64.wrap ((x : Int) * 2 ^ (min (8 : Int).toNat IntKind.u64.bits)) = ((x % 72057594037927936 * 256 : Nat) : Int) := by
  rw [show min (8 : Int).toNat IntKind.u64.bits = 8 from rfl, wrap_u64]
  omega
theorem tkTake_c (w : World) (b : Nat) (A : Option Addr) (c : Nat) (r : Rdr) (n : Nat) (hn : n ≤ 255) (hc : r.p.length ≤ c) (hm : Mem w [bkF b ty_ticket_reader (rdCells A c r), bsF A r.p]) :
    Con Tryz.prog n_ticket_reader_take #[.pointer (some ⟨b, 0, none⟩), .int .i64 (n : Int)] w [bkF b ty_ticket_reader (rdCells A c r)] fun v Fs => ∃ A2 A3 c3 F, v = .slice A2 n n ∧ F.own = true ∧ (0 < n → ∃ ad, A2 = some ad) ∧ (r.take n).2.p.length ≤ c3 ∧ Lies A A3 r.p (r.take n).2.p ∧ (∀ w, F.p w → Bs w A r.p → Bs w A2 (r.take n).1) ∧ Fs = [F, bkF b ty_ticket_reader (rdCells A3 c3 (r.take n).2)] := by
  have g := good_ticket_reader_take w (Un [bkF b ty_ticket_reader (rdCells A c r)])
  refine con_go (cx := cx_ticket_reader_take w (Un [bkF b ty_ticket_reader (rdCells A c r)])) g b_ticket_reader_take [.c (.v (.pointer (some ⟨b, 0, none⟩))), .c (.v (.int .i64 (n : Int)))] [bsF A r.p] hm ?_
  have ld : ∀ {β : Va} {m : Nat} {H : List Bk} {F : List Fact} {w' : World} {j : Nat}, Sat (cx_ticket_reader_take w (Un [bkF b ty_ticket_reader (rdCells A c r)])) β m H F w' → nth F j = some (bkF b ty_ticket_reader (rdCells A c r)) → w'.cell? ((⟨b, 0, none⟩ : Addr).add 0) = some (.slice A r.p.length c) := fun hs hj => cell_bk (hs.get _ hj) (o := 0) rfl
  refine ⟨.slice A r.p.length c, fun β w' hs => ld hs (j := 0) rfl, ?_⟩
  refine BIf.dec (fun hlt => ?_) (fun hge => ?_)
  · have hlt0 : (r.p.length : Int) < (n : Int) := hlt
    refine ⟨_, fun β w' hs => hs.bkSet 0 (o := 1) (us := [.bool true]) rfl (by show 2 ≤ 2; decide) (one_mem rfl), ?_⟩
    refine ⟨_, fun β w' hs => hs.bkSet 0 (o := 0) (us := [.slice none 0 0]) rfl (by show 1 ≤ 2; decide) (one_mem rfl), ?_⟩
    refine ⟨n, n, rfl, rfl, Nat.le_refl _, by show 1 * n ≤ _; omega, by rw [maxLen_eq]; omega, ?_⟩
    intro b1
    have h1 : r.take n = (List.replicate n 0, ⟨[], true⟩) := by unfold Rdr.take; rw [if_pos (by omega)]
    rw [h1]
    intro β w' hs
    refine hs.fin [0, 1] ⟨some ⟨b1, 0, none⟩, none, 0, rowF ty_uint8 1 (.slice (some ⟨b1, 0, none⟩) n n) n (repl [.int .u8 0] n), rfl, rfl, fun _ => ⟨_, rfl⟩, Nat.le_refl _, Lies.nil A none r.p, fun w h _ => ?_, rfl⟩
    have h2 := row_rd h
    have e : (List.replicate n (0 : UInt8)).map byte = repl [.int .u8 0] n := zeros_map n
    show Rd 1 _ (List.replicate n (0 : UInt8)).length _ w
    rw [e, List.length_replicate]
    exact h2
  · have hge0 : ¬ (r.p.length : Int) < (n : Int) := hge
    have h1 : r.take n = (r.p.take n, ⟨r.p.drop n, r.bad⟩) := by unfold Rdr.take; rw [if_neg (by omega)]
    refine ⟨.slice A r.p.length c, fun β w' hs => ld hs (j := 0) rfl, ?_⟩
    refine ⟨n, n, 0, n, n, _, rfl, rfl, rfl, by omega, by omega, by omega, rfl, rfl, cutZ, ?_⟩
    refine ⟨_, fun β w' hs => cell_bk (hs.get 0 rfl) (o := 0) rfl, ?_⟩
    refine ⟨c, r.p.length, n, r.p.length - n, c - n, _, rfl, rfl, rfl, by omega, by omega, by omega, rfl, rfl, rfl, ?_⟩
    refine ⟨_, fun β w' hs => hs.bkSet 0 (o := 0) (us := [.slice (cutA A c n 1) (r.p.length - n) (c - n)]) rfl (by show 1 ≤ 2; decide) (one_mem rfl), ?_⟩
    rw [h1]
    have hdl : (r.p.drop n).length = r.p.length - n := List.length_drop
    intro β w' hs
    refine (hs.noMem noO trivial (fun _ h => h)).fin [0, 1] ⟨A, cutA A c n 1, c - n, noO, rfl, rfl, fun h => Bs.addr (hm.fact (bsF A r.p) (by simp)) (by omega), by rw [hdl]; omega, Lies.drop hc (by omega), fun w _ h => (Lies.take A r.p n).rd w h, ?_⟩
    show _ = [noO, bkF b ty_ticket_reader [.slice (cutA A c n 1) (r.p.drop n).length (c - n), .bool r.bad]]
    rw [hdl]
    rfl
theorem numB_take (l : List UInt8) (j : Nat) (x : UInt8) (h : l[j]? = some x) : numB (l.take (j + 1)) = (numB (l.take j) * 256 + x.toNat) % 18446744073709551616 := by
  rw [List.take_add_one, h]
  exact numB_snoc _ _
theorem tkRNum_c (w : World) (b : Nat) (A : Option Addr) (c : Nat) (r : Rdr) (n : Nat) (hn : n ≤ 255) (hc : r.p.length ≤ c) (hm : Mem w [bkF b ty_ticket_reader (rdCells A c r), bsF A r.p]) :
    Con Tryz.prog n_ticket_reader_num #[.pointer (some ⟨b, 0, none⟩), .int .i64 (n : Int)] w [bkF b ty_ticket_reader (rdCells A c r)] fun v Fs => ∃ A3 c3, v = .int .u64 ((r.num n).1 : Int) ∧ (r.num n).2.p.length ≤ c3 ∧ Lies A A3 r.p (r.num n).2.p ∧ Fs = [bkF b ty_ticket_reader (rdCells A3 c3 (r.num n).2)] := by
  have g := good_ticket_reader_num w (Un [bkF b ty_ticket_reader (rdCells A c r)])
  refine con_go (cx := cx_ticket_reader_num w (Un [bkF b ty_ticket_reader (rdCells A c r)])) g b_ticket_reader_num [.c (.v (.pointer (some ⟨b, 0, none⟩))), .c (.v (.int .i64 (n : Int)))] [bsF A r.p] hm ?_
  refine call_con [0] (fun β w' hs => tkTake_c w' b A c r n hn hc (hs.mem.take (js := [0, 1]) rfl)) ?_
  rintro v Fs ⟨A2, A3, c3, F, rfl, hFo, hA2, hc3, hl, hrd, rfl⟩
  have hlen := take_len r n
  generalize hq : r.take n = q at *
  obtain ⟨l, r2⟩ := q
  simp only at hc3 hl hrd hlen
  refine loop_rule (ι := Nat) 0 (fun j => [(10, .c (.v (.slice A2 n n))), (11, .c (.v (.int .i64 (n : Int)))), (12, .c (.v (.int .i64 (j : Int)))), (5, .c (.v (.int .u64 (numB (l.take j) : Int))))]) (fun _ => []) (fun _ => [F, bkF b ty_ticket_reader (rdCells A3 c3 r2), bsF A r.p]) (fun j => j ≤ n) (fun j => n - j) (0 : Nat) (Nat.zero_le _) (Ent.mk' ⟨rfl, rfl, rfl, rfl, trivial⟩ rfl (fun β w' hs => hs)) g ?_
  intro j hj
  refine BIf.dec (fun hlt => ?_) (fun hge => ?_)
  · have hlt0 : (j : Int) < (n : Int) := hlt
    obtain ⟨x, hx, _⟩ := at_lt (l := l) (k := j) (by omega)
    obtain ⟨ad, hAd⟩ := hA2 (by omega)
    refine ⟨ad, j, hAd, rfl, by omega, ?_⟩
    refine ⟨byte x, fun β w' hs => Rd.cell1 (show Rd 1 (some ad) l.length (l.map byte) w' from hAd ▸ hrd w' (hs.get 0 rfl) (hs.get 2 rfl)) (by rw [List.getElem?_map, hx]; rfl), ?_⟩
    refine ⟨by decide, _, shl_u64 _, ?_⟩
    refine ⟨(x.toNat : Int), by rw [wrap_u64]; have := x.toNat_lt; omega, ?_⟩
    refine ⟨_, or_u64 (Nat.mod_lt _ (by decide)) x.toNat_lt, ?_⟩
    have hnx : numB (l.take j) % 72057594037927936 * 256 + x.toNat = numB (l.take (j + 1)) := by rw [numB_take l j x hx]; have := x.toNat_lt; omega
    rw [hnx]
    refine ⟨((j + 1 : Nat) : Int), by rw [wrap_i64 (by omega) (by omega)]; rfl, ?_⟩
    exact ⟨j + 1, by show j + 1 ≤ n; omega, by show n - (j + 1) < n - j; omega, Ent.mk' ⟨rfl, rfl, rfl, rfl, trivial⟩ rfl (fun β w' hs => hs)⟩
  · have hge0 : ¬ (j : Int) < (n : Int) := hge
    have e : l.take j = l := List.take_of_length_le (by omega)
    rw [e]
    intro β w' hs
    exact hs.fin [1] ⟨A3, c3, by unfold Rdr.num; rw [hq]; rfl, by unfold Rdr.num; rw [hq]; exact hc3, by unfold Rdr.num; rw [hq]; exact hl, by unfold Rdr.num; rw [hq]; rfl⟩
theorem tkRTxt_c (w : World) (b : Nat) (A : Option Addr) (c : Nat) (r : Rdr) (hc : r.p.length ≤ c) (hm : Mem w [bkF b ty_ticket_reader (rdCells A c r), bsF A r.p]) :
    Con Tryz.prog n_ticket_reader_text #[.pointer (some ⟨b, 0, none⟩)] w [bkF b ty_ticket_reader (rdCells A c r)] fun v Fs => ∃ A3 c3, v = .string (mkS r.txt.1) ∧ r.txt.2.p.length ≤ c3 ∧ Lies A A3 r.p r.txt.2.p ∧ Fs = [bkF b ty_ticket_reader (rdCells A3 c3 r.txt.2)] := by
  have g := good_ticket_reader_text w (Un [bkF b ty_ticket_reader (rdCells A c r)])
  refine con_go (cx := cx_ticket_reader_text w (Un [bkF b ty_ticket_reader (rdCells A c r)])) g b_ticket_reader_text [.c (.v (.pointer (some ⟨b, 0, none⟩)))] [bsF A r.p] hm ?_
  refine call_con [0] (fun β w' hs => tkRNum_c w' b A c r 1 (by decide) hc (hs.mem.take (js := [0, 1]) rfl)) ?_
  rintro v Fs ⟨A3, c3, rfl, hc3, hl, rfl⟩
  have hlt : (r.num 1).1 < 256 := numB_lt 1 _ (take_len r 1) (by decide)
  unfold Rdr.txt
  generalize r.num 1 = q at *
  obtain ⟨n, r2⟩ := q
  simp only at hc3 hl hlt ⊢
  refine ⟨(n : Int), wrap_i64 (by omega) (by omega), ?_⟩
  refine call_con [0] (fun β w' hs => tkTake_c w' b A3 c3 r2 n (by omega) hc3 ((hs.sub 1 rfl rfl (bsF A3 r2.p) rfl (hl.rd w' (hs.get 1 rfl)) (fun k hk => hl.d k hk)).mem.take (js := [1, 0]) rfl)) ?_
  rintro v Fs ⟨A2, A4, c4, F, rfl, hFo, hA2, hc4, hl2, hrd, rfl⟩
  have hlen := take_len r2 n
  generalize r2.take n = q at *
  obtain ⟨l, r3⟩ := q
  simp only at hc4 hl2 hrd hlen ⊢
  have hrd2 : ∀ w' : World, F.p w' → Bs w' A r.p → Rd 1 A2 n (l.map byte) w' := fun w' h1 h2 => hlen ▸ hrd w' h1 (hl.rd w' h2)
  refine ⟨l, fun β w' hs => hrd2 w' (hs.get 0 rfl) (hs.get 2 rfl), ?_⟩
  intro β w' hs
  exact hs.fin [1] ⟨A4, c4, rfl, hc4, hl.trans hl2, rfl⟩
def dotA : List UInt8 → List UInt8
  | [] => []
  | c :: r => if c = 46 then [] else c :: dotA r
def dotB : List UInt8 → List UInt8
  | [] => []
  | c :: r => if c = 46 then r else dotB r
theorem dot_at : ∀ {a b : List UInt8}, (46 : UInt8) ∉ a → dotA (a ++ 46 :: b) = a ∧ dotB (a ++ 46 :: b) = b
  | [], b, _ => ⟨if_pos rfl, if_pos rfl⟩
  | c :: r, b, h => by
    have hc : ¬ c = 46 := fun q => h (by rw [q]; exact List.mem_cons_self)
    obtain ⟨e1, e2⟩ := dot_at (a := r) (b := b) (fun q => h (List.mem_cons_of_mem _ q))
    rw [List.cons_append]
    unfold dotA dotB
    rw [if_neg hc, if_neg hc, e1, e2]
    exact ⟨rfl, rfl⟩
theorem dot_split : ∀ {s : List UInt8}, (46 : UInt8) ∈ s → s = dotA s ++ 46 :: dotB s ∧ (46 : UInt8) ∉ dotA s
  | [], h => by cases h
  | c :: r, h => by
    unfold dotA dotB
    by_cases hc : c = 46
    · rw [if_pos hc, if_pos hc, hc]
      exact ⟨rfl, fun q => by cases q⟩
    · rw [if_neg hc, if_neg hc]
      have hr : (46 : UInt8) ∈ r := (List.mem_cons.1 h).resolve_left (fun q => hc q.symm)
      obtain ⟨e1, e2⟩ := dot_split hr
      refine ⟨by rw [List.cons_append, ← e1], fun q => ?_⟩
      rcases List.mem_cons.1 q with q | q
      · exact hc q.symm
      · exact e2 q
open Classical in
noncomputable def splitT (s : List UInt8) : Option (List UInt8 × List UInt8) × Int :=
  if 4096 < s.length then (none, 3) else if (46 : UInt8) ∈ s then match decU (dotA s), decU (dotB s) with
    | some b, some m => if m.length = 32 then (some (b, m), 0) else (none, 4)
    | _, _ => (none, 4)
  else (none, 4)
theorem decU_enc (p : List UInt8) : decU (encS true p) = some p := by
  have hl := b64L_len true p
  show (if (b64L true p).length % 4 = 1 then none else decS true (b64L true p)) = some p
  rw [if_neg (by rw [hl]; omega)]
  exact decS_b64 true p
theorem enc_no46 (p : List UInt8) : (46 : UInt8) ∉ encS true p := fun h => absurd (b64L_run true p 46 h) (by decide)
theorem split_join {b m : List UInt8} (hm : m.length = 32) (hl : (encS true b ++ 46 :: encS true m).length ≤ 4096) : splitT (encS true b ++ 46 :: encS true m) = (some (b, m), 0) := by
  obtain ⟨e1, e2⟩ := dot_at (b := encS true m) (enc_no46 b)
  unfold splitT
  rw [if_neg (by omega), if_pos (List.mem_append_right _ List.mem_cons_self), e1, e2, decU_enc, decU_enc]
  simp only
  rw [if_pos hm]
def libCut (s : List UInt8) : List UInt8 × List UInt8 × Bool := _root_.Go.Lib.cut s [46]
theorem tkCut_c (w : World) (s : List UInt8) (hs : s.length ≤ 1000000) (hm : mlF.p w) : Pu Tryz.prog n_strings_Cut #[.string (mkS s), .string (mkS [46])] w (.tuple #[.string (mkS (libCut s).1), .string (mkS (libCut s).2.1), .bool (libCut s).2.2]) := by
  obtain ⟨m, hm⟩ := hm
  have hsz : (mkS s).size < 4294967281 := by show s.length < _; omega
  refine pu_of (Calls.mono (Tryz.strings_Cut (mkS s) (mkS [46]) m w hsz hm) ?_)
  rintro e w' ⟨rfl, q, rfl⟩
  refine ⟨_, rfl, ?_, ⟨rfl, rfl, rfl, Nat.le_refl _, fun _ _ _ => rfl⟩⟩
  rw [mkS_out, mkS_out]
  rfl
end Go.Proofs.YtlhcgofdfhfegaaGreatDoor.Sx
