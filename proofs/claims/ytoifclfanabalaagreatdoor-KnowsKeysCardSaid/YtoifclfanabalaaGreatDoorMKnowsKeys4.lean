/- Texts joined: Rep, Rep2, RoF, Hm1, Hm2, Hm3, Hsh, Hsh2, Hsh3, Mac, Pie, Pie2, Str, BxP, Rf5, Rt1, Rt2, Rt3, Rt4, Rt5, Tl2, Tl3, Kr4, Kr5, Kr6, Kr7, TlG, Kr8, LenX, Kr9, Flip, Tl1, Tl4, Tl5, Tl7, Ks1, TrR, Ks2, KsL, Tl8, Tl10, Tl11, Ks3, Ks4, Ks5, SxClr, SxAs, Ks6, Ks7, Ks8, Ks9, Ka1, BxL, Ka2, Kk1, Rk1. -/
import Derived.Test.YtoifclfanabalaaGreatDoorMKnowsKeys3
import Derived.Lib.MakeNoZero
import Derived.Laws.Externs
import Derived.Test.YtoifclfanabalaaGreatDoorMKnowsKeys2
set_option linter.unusedVariables false
set_option linter.unusedSimpArgs false
/- A byte sixty-four times; a key's bytes, each turned. -/
namespace Go.Proofs.YtoifclfanabalaaGreatDoor.Sx
open Go
attribute [local irreducible] Calls

section
variable {cx : Cx} {β : Va} {n : Nat} {env : Env} {H : List Bk} {F : List Fact} {w : World}
/-- copy, into a block of one's own, of cells of one. -/
theorem Sat.copyBk (h : Sat cx β n H F w) (g : Good cx) (j : Nat) {b o k c e m cs r : Nat} {A : Option Addr} {cells ys : List Value} (hj : nth F j = some (bkF b e cells)) (hr : Rd 1 A m ys w) (h1 : ∀ u ∈ ys, u.oneCell' = true)
    {t : TypeId} {i ie : TI} (ty : TypeId) (cst : Array Bool) (hm : min m k = r) (hfit : o + r ≤ cells.length) (hi : lk cx.tt t = some i := by rfl) (hd : i.desc = .slice e := by rfl) (hie : lk cx.tt e = some ie := by rfl) (hz : ie.size = 1 := by rfl) :
    ∃ w', (builtin .copy #[t, t] ty cst #[.slice (some ⟨b, o, none⟩) k c, .slice A m cs]).run cx.P w = .ok (.value (.int .i64 (r : Int))) w' ∧
      Sat cx β n H (putAt F j (bkF b e (putAll cells o (ys.take r)))) w' := by
  subst hm
  have ht := (g.ti hi).real (d := .slice _) hd rfl
  have tie := g.ti hie
  have hrt := hr.take (k := min m k) (Nat.min_le_left _ _)
  have hsz := tie.run_size w
  rw [hz] at hsz
  have hfc : (Builtin.firstCells 1 (min m k) (.slice A m cs)).run cx.P w = .ok (ys.take (min m k)).toArray w := by
    cases A with
    | none =>
      have h0 : min m k = 0 := by
        rcases Nat.eq_zero_or_pos (min m k) with q | q
        · exact q
        · obtain ⟨ad, q, _⟩ := hrt.2 q; cases q
      rw [h0]
      rfl
    | some ad =>
      have hl := run_loadCells_list (P := cx.P) (w := w) ad (ys.take (min m k)) (fun j u hu => by
        have hp : 0 < min m k := by
          rcases Nat.eq_zero_or_pos (min m k) with q | q
          · rw [q] at hu; simp at hu
          · exact q
        obtain ⟨ad', q, hc⟩ := hrt.2 hp
        obtain rfl := Option.some.inj q
        exact hc j u hu)
      have hlen : (ys.take (min m k)).length = min m k := by rw [hrt.1, Nat.mul_one]
      rw [hlen] at hl
      simpa [Builtin.firstCells] using hl
  obtain ⟨w', e1, e2⟩ := h.bkSet (us := ys.take (min m k)) (o := o) j hj (by rw [hrt.1]; omega) (fun u hu => h1 u (List.take_subset _ _ hu))
  rw [add_none, Nat.zero_add] at e1
  refine ⟨w', ?_, e2⟩
  have hmin : Nat.min m k = min m k := rfl
  simp [builtin, Builtin.copy_, run_underlying ht, Builtin.lenOf, hsz, hfc, e1, goInt, hmin]
end
/-- The front of a block, as a slice. -/
theorem bk_rd {b e : Nat} {cells : List Value} {w : World} (h : (bkF b e cells).p w) {k : Nat} (hk : k ≤ cells.length) : Rd 1 (some ⟨b, 0, none⟩) k (cells.take k) w := by
  refine ⟨by rw [List.length_take]; omega, fun _ => ⟨_, rfl, fun j u hu => ?_⟩⟩
  rw [List.getElem?_take] at hu
  split at hu
  · rw [add_none, Nat.zero_add]
    have h' : w.heap[b]? = some (.cells cells.toArray e (0, 0)) := h
    rw [cell_of_row w b j _ _ _ h']
    simpa using hu
  · cases hu
theorem bk_bs {b e : Nat} {l : List UInt8} {junk : List Value} {w : World} (h : (bkF b e (l.map byte ++ junk)).p w) : Bs w (some ⟨b, 0, none⟩) l := by
  have := bk_rd h (k := l.length) (by simp)
  rwa [List.take_left' (by simp)] at this
theorem mul_c (w : World) : Pu Tryz.prog n_math_bits_Mul #[.int .u64 1, .int .u64 64] w (.tuple #[.int .u64 0, .int .u64 64]) := by
  refine pu_of (Calls.mono (Tryz.bits_Mul 1 64 (by decide) (by decide) w) ?_)
  rintro e w' ⟨rfl, rfl⟩
  exact ⟨_, rfl, rfl, Chg.refl _ _⟩
theorem mnz_run (w : World) (n : Nat) (hn : n ≤ 281474976710656) : ∃ cs : List Value, (callFunc 71 #[.int .i64 n]).run Tryz.prog w = .ok (.value (.slice (some ⟨w.heap.size, 0, none⟩) n cs.length)) (w.drew.drew.alloc (.cells cs.toArray ty_uint8)) ∧ n ≤ cs.length := by
  obtain ⟨cs, h1, h2, _⟩ := Lib.run_makeNoZero (P := Tryz.prog) w #[] ty_sl_uint8 ty_uint8 ((ok22).real (d := .slice _) rfl rfl) n hn
  refine ⟨cs.toList, ?_, by simpa using h2⟩
  have hx := run_callFunc_extern (P := Tryz.prog) (f := 71) (fn := Tryz.f71) (e := Extern.BytealgMakeNoZero.makeNoZero #[ty_int] #[ty_sl_uint8]) Tryz.func71 (by decide +kernel) rfl (by rfl) (by rfl) #[.int .i64 n] w
  rw [hx]
  have h1' : (Extern.BytealgMakeNoZero.makeNoZero #[ty_int] #[ty_sl_uint8] #[.int .i64 n]).run Tryz.prog w = _ := h1
  rw [h1']
  simp
end Go.Proofs.YtoifclfanabalaaGreatDoor.Sx

/- A byte sixty-four times. -/
namespace Go.Proofs.YtoifclfanabalaaGreatDoor.Sx
open Go
attribute [local irreducible] Calls

theorem putAll_app {α : Type} (a b ys : List α) (h : ys.length ≤ b.length) : putAll (a ++ b) a.length ys = a ++ ys ++ b.drop ys.length := by
  rw [putAll_all _ _ _ (by simp; omega)]
  rw [List.take_left' rfl, List.drop_append]
  simp [show a.length + ys.length - a.length = ys.length by omega]
theorem cutA_at (b k : Nat) {m : Nat} (h : m ≠ k) : cutA (some ⟨b, 0, none⟩) m k 1 = some ⟨b, k, none⟩ := by
  unfold cutA
  rw [if_neg h]
  simp [add_none]
theorem cutA_0 (A : Option Addr) {m : Nat} (h : A = none ∨ ∃ b o, A = some ⟨b, o, none⟩) : cutA A m 0 1 = A := by
  unfold cutA
  split
  · rfl
  · rcases h with rfl | ⟨b, o, rfl⟩
    · rfl
    · simp [add_none]
def reps (k : Nat) (x : UInt8) : List Value := (List.replicate k x).map byte
theorem reps_len (k : Nat) (x : UInt8) : (reps k x).length = k := by simp [reps]
theorem reps_take {k r : Nat} (x : UInt8) (h : r ≤ k) : (reps k x).take r = reps r x := by
  unfold reps
  rw [← List.map_take, List.take_replicate, Nat.min_eq_left h]
theorem reps_add (k r : Nat) (x : UInt8) : reps k x ++ reps r x = reps (k + r) x := by
  unfold reps
  rw [← List.map_append, List.replicate_append_replicate]
theorem reps_one (k : Nat) (x : UInt8) : ∀ u ∈ reps k x, u.oneCell' = true := bytes_one _
set_option maxHeartbeats 1000000 in
theorem repeat64_c (w : World) (B : Option Addr) (cB : Nat) (x : UInt8) (hr : Rd 1 B 1 [byte x] w) :
    Con Tryz.prog n_bytes_Repeat #[.slice B 1 cB, .int .i64 64] w [] fun v Fs => ∃ b junk, v = .slice (some ⟨b, 0, none⟩) 64 64 ∧ Fs = [bkF b ty_uint8 (reps 64 x ++ junk)] := by
  have g := good_bytes_Repeat w (Un [])
  refine con_of_sx (cx := cx_bytes_Repeat w (Un [])) g b_bytes_Repeat rfl rfl (β := Va.z) [.c (.v (.slice B 1 cB)), .c (.v (.int .i64 64))] 0 [] [oldF w] rfl rfl (old_sat rfl) ?_
  refine ⟨1, by decide, 64, by decide, ?_⟩
  refine call_pu (fun β w' hs => mul_c w') ?_
  refine ⟨64, by decide, ?_⟩
  refine .inr (fun β w' hs => ?_)
  obtain ⟨cs, hrun, hcs⟩ := mnz_run w' 64 (by decide)
  have hs1 : Sat (cx_bytes_Repeat w (Un [])) β 0 [] (bkF w'.heap.size ty_uint8 cs :: [oldF w]) (w'.drew.drew.alloc (.cells cs.toArray ty_uint8)) := by
    refine hs.drew.drew.add (Chg.alloc _ _) _ (heap_alloc_new _ _) (fun k hk => ?_)
    obtain rfl : k = w'.heap.size := hk
    exact ⟨Nat.le_refl _, by simp⟩
  refine ⟨_, _, hrun, Ret.mk [] _ hs1 ?_⟩
  obtain ⟨b, hb⟩ : ∃ b, w'.heap.size = b := ⟨_, rfl⟩
  rw [hb]
  clear hs1 hrun hs
  refine ⟨64, 64, 0, 64, 64, some ⟨b, 0, none⟩, rfl, rfl, rfl, hcs, Nat.le_refl _, Nat.zero_le _, rfl, rfl, cutA_0 _ (.inr ⟨b, 0, rfl⟩), ?_⟩
  refine ⟨[], [bkF b ty_uint8 (reps 1 x ++ cs.drop 1), oldF w], .c (.v (.int .i64 1)), fun β w' ty hs => ?_, trivial, ?_⟩
  · obtain ⟨w2, q1, q2⟩ := hs.copyBk g 0 rfl (hr.old (hs.get 1 rfl)) (reps_one 1 x) ty (t := ty_sl_uint8) #[false, false] (r := 1) (k := 64) (m := 1) (c := 64) (cs := cB) (o := 0) rfl (by omega)
    have e1 : putAll cs 0 ([byte x].take 1) = reps 1 x ++ cs.drop 1 := by
      have := putAll_app [] cs [byte x] (by simp; omega)
      show putAll cs 0 [byte x] = [byte x] ++ cs.drop 1
      simpa using this
    rw [e1] at q2
    exact ⟨w2, q1, q2⟩
  refine loop_rule (ι := Nat × List Value) 0 (fun i => [(7, .c (.v (.int .i64 64))), (8, .c (.v (.int .i64 64))), (9, .c (.v (.slice (some ⟨b, 0, none⟩) 64 64))), (10, .c (.v (.int .i64 (i.1 : Int))))]) (fun _ => []) (fun i => [bkF b ty_uint8 (reps i.1 x ++ i.2), oldF w])
    (fun i => 1 ≤ i.1 ∧ i.1 ≤ 64 ∧ 64 ≤ i.1 + i.2.length) (fun i => 64 - i.1) (1, cs.drop 1) ⟨Nat.le_refl _, by show 1 ≤ 64; decide, by simp only [List.length_drop]; omega⟩ (Ent.same ⟨rfl, rfl, rfl, rfl, trivial⟩ rfl) g ?_
  rintro ⟨k, junk⟩ ⟨h1, h2, h3⟩
  simp only at h1 h2 h3
  refine BIf.dec (fun hlt => ?_) (fun hge => ?_)
  · have hlt0 : (k : Int) < 64 := hlt
    have hk : k < 64 := by omega
    obtain ⟨r, hr0⟩ : ∃ r, min k (64 - k) = r := ⟨_, rfl⟩
    refine ⟨(k : Int), by show min (k : Int) 64 = k; omega, ?_⟩
    refine draw_rule g p_bytes_Repeat_20 (by kernel_rfl) [] [] (Sub.of (List.Sublist.refl _) (List.nil_sublist _)) ?_
    refine ⟨64, 64, k, 64 - k, 64 - k, some ⟨b, k, none⟩, rfl, rfl, rfl, Nat.le_refl _, Nat.le_refl _, by omega, rfl, rfl, cutA_at b k (by omega), ?_⟩
    refine ⟨64, k, 0, k, 64, some ⟨b, 0, none⟩, rfl, rfl, rfl, Nat.le_refl _, by omega, Nat.zero_le _, rfl, rfl, cutA_0 _ (.inr ⟨b, 0, rfl⟩), ?_⟩
    refine ⟨[], [bkF b ty_uint8 (reps (k + r) x ++ junk.drop r), oldF w], .c (.v (.int .i64 (r : Int))), fun β w' ty hs => ?_, trivial, ?_⟩
    · have hrd : Rd 1 (some ⟨b, 0, none⟩) k (reps k x) w' := by
        have := bk_rd (hs.get 0 rfl) (k := k) (by simp [reps_len])
        rwa [List.take_left' (reps_len k x)] at this
      obtain ⟨w2, q1, q2⟩ := hs.copyBk g 0 rfl hrd (reps_one k x) ty (t := ty_sl_uint8) #[false, false] (r := r) (k := 64 - k) (m := k) (c := 64 - k) (cs := 64) (o := k) hr0 (by simp only [List.length_append, reps_len]; omega)
      have e1 : putAll (reps k x ++ junk) k ((reps k x).take r) = reps (k + r) x ++ junk.drop r := by
        have := putAll_app (reps k x) junk ((reps k x).take r) (by rw [List.length_take, reps_len]; omega)
        rw [reps_len] at this
        rw [this, reps_take x (by omega), reps_add, reps_len]
      rw [e1] at q2
      exact ⟨w2, q1, q2⟩
    refine ⟨Sub.of (List.Sublist.refl _) (List.nil_sublist _), ((k + r : Nat) : Int), by rw [wrap_i64 (by omega) (by omega)]; omega, ?_⟩
    exact ⟨(k + r, junk.drop r), ⟨by show 1 ≤ k + r; omega, by show k + r ≤ 64; omega, by show 64 ≤ k + r + (junk.drop r).length; rw [List.length_drop]; omega⟩, by show 64 - (k + r) < 64 - k; omega, Ent.same ⟨rfl, rfl, rfl, rfl, trivial⟩ rfl⟩
  · have hge0 : ¬ (k : Int) < 64 := hge
    obtain rfl : k = 64 := by omega
    intro β w' hs
    exact hs.fin [0] ⟨b, junk, rfl, rfl⟩

/-! ### a key's bytes, each turned -/
def padN (k : List UInt8) (x : UInt8) (i : Nat) : List UInt8 := (k.take i).map (x ^^^ ·) ++ List.replicate (64 - i) x
theorem padN_len {k : List UInt8} {x : UInt8} {i : Nat} (h : i ≤ k.length) (h2 : i ≤ 64) : (padN k x i).length = 64 := by
  unfold padN
  simp only [List.length_append, List.length_map, List.length_take, List.length_replicate]
  omega
theorem padN_at {k : List UInt8} {x : UInt8} {i : Nat} (h : i < k.length) (h2 : i < 64) : (padN k x i)[i]? = some x := by
  unfold padN
  rw [List.getElem?_append_right (by simp only [List.length_map, List.length_take]; omega)]
  simp only [List.length_map, List.length_take]
  rw [List.getElem?_replicate, if_pos (by omega)]
theorem padN_set {k : List UInt8} {x y : UInt8} {i : Nat} (h : k[i]? = some y) (h2 : i < 64) : (padN k x i).set i (x ^^^ y) = padN k x (i + 1) := by
  have hi : i < k.length := (List.getElem?_eq_some_iff.1 h).1
  unfold padN
  rw [List.set_append_right _ _ (by simp only [List.length_map, List.length_take]; omega)]
  simp only [List.length_map, List.length_take]
  rw [show i - min i k.length = 0 by omega, show 64 - i = (64 - (i + 1)) + 1 by omega, List.replicate_succ, List.set_cons_zero, List.take_add_one, h]
  simp
theorem padN_all (k : List UInt8) (x : UInt8) : padN k x k.length = k.map (x ^^^ ·) ++ List.replicate (64 - k.length) x := by
  unfold padN
  rw [List.take_length]
theorem Con.real {P : Program} {k : FuncId} {args : Array Value} {w : World} {Gs : List Fact} {R : Value → List Fact → Prop} (h : Con P k args w Gs R) : Con P k args w Gs (fun v Fs => R v Fs ∧ ∃ w', Mem w' Fs) :=
  Calls.mono h fun _ w' ⟨v, he, Fs, hR, hc, hm, ho, hD⟩ => ⟨v, he, Fs, ⟨hR, w', hm⟩, hc, hm, ho, hD⟩
theorem padN_0 (k : List UInt8) (x : UInt8) : (padN k x 0).map byte = reps 64 x := by simp [padN, reps]
set_option maxHeartbeats 1000000 in
theorem pad_c (w : World) (A : Option Addr) (l : List UInt8) (c : Nat) (x : UInt8) (hr : Bs w A l) (hn : l.length ≤ 1000000) (h1 : (oddF 2).p w) (h0 : (firstF 0).p w) :
    Con Tryz.prog n_hmac_pad #[.slice A l.length c, byte x] w [] fun v Fs => ∃ b junk, v = .slice (some ⟨b, 0, none⟩) 64 64 ∧ Fs = [bkF b ty_uint8 ((padL l x).map byte ++ junk)] := by
  have g := good_hmac_pad w (Un [])
  refine con_of_sx (cx := cx_hmac_pad w (Un [])) g b_hmac_pad rfl rfl (β := Va.z) [.c (.v (.slice A l.length c)), .c (.v (byte x))] 0 [] [oldF w] rfl rfl (old_sat rfl) ?_
  refine BIf.dec (fun hlt => ?_) (fun hge => ?_)
  · have hlt0 : (64 : Int) < (l.length : Int) := hlt
    intro b0
    obtain ⟨k, hks⟩ : ∃ k, Sha.sum l = k := ⟨_, rfl⟩
    have hk : keyL l = k := by unfold keyL; rw [if_pos (by omega)]; exact hks
    have hk64 : k.length ≤ 64 := by rw [← hk]; exact keyL_len
    refine call_con [] (R := fun v Fs => (∃ A' c', v = .slice A' k.length c' ∧ Fs = [browF ty_uint8 A' k c']) ∧ ∃ w', Mem w' Fs) (fun β w' hs => ((sum1_c w' (some ⟨b0, 0, none⟩) A 1 c l (row_rd (hs.get 0 rfl)) (Rd.old hr (hs.get 1 rfl)) (by omega) (Rd.old h1 (hs.get 1 rfl)) (Rd.old h0 (hs.get 1 rfl))).mono (by rintro v Fs ⟨A', c', rfl, _, _, rfl⟩; exact ⟨A', c', by rw [← hks]; rfl, by rw [hks]⟩)).real) ?_
    rintro v Fs ⟨⟨A2, c2, rfl, rfl⟩, w9, hm9⟩
    have hkr : ∀ {w'}, (browF ty_uint8 A2 k c2).p w' → Bs w' A2 k := fun h => row_rd h
    have hka : 0 < k.length → ∃ ad, A2 = some ad := fun h => Bs.addr (hkr (hm9.fact _ List.mem_cons_self)) h
    intro b1
    refine call_con [] (fun β w' hs => repeat64_c w' (some ⟨b1, 0, none⟩) 1 x (row_rd (hs.get 0 rfl))) ?_
    rintro v Fs ⟨b, junk, rfl, rfl⟩
    refine loop_rule (ι := Nat) 0 (fun i => [(17, .c (.v (.slice A2 k.length c2))), (18, .c (.v (.int .i64 (k.length : Int)))), (19, .c (.v (.int .i64 (i : Int)))), (5, .c (.v (.slice (some ⟨b, 0, none⟩) 64 64)))]) (fun _ => []) (fun i => [bkF b ty_uint8 ((padN k x i).map byte ++ junk), browF ty_uint8 A2 k c2])
      (fun i => i ≤ k.length) (fun i => k.length - i) 0 (Nat.zero_le _) (Ent.mk' ⟨rfl, rfl, rfl, rfl, trivial⟩ rfl (fun β w' hs => by rw [padN_0]; exact hs.perm [0, 2])) g ?_
    intro i hi
    refine BIf.dec (fun hlt2 => ?_) (fun hge2 => ?_)
    · have hlt0 : (i : Int) < (k.length : Int) := hlt2
      have hik : i < k.length := by omega
      obtain ⟨y, hy, _⟩ := at_lt hik
      obtain ⟨ad, hA⟩ := hka (by omega)
      refine ⟨ad, i, hA, rfl, hik, byte y, fun β w' hs => by
        have h := hkr (hs.get 1 rfl)
        rw [hA] at h
        exact Rd.cell1 h (by rw [List.getElem?_map, hy]; rfl), ?_⟩
      refine ⟨⟨b, 0, none⟩, i, rfl, rfl, by omega, byte x, fun β w' hs => by
        have h := bk_bs (hs.get 0 rfl)
        exact Rd.cell1 h (by rw [List.getElem?_map, padN_at hik (by omega)]; rfl), _, xor8 x y, ?_⟩
      refine ⟨⟨b, 0, none⟩, i, rfl, rfl, by omega, [bkF b ty_uint8 ((padN k x (i + 1)).map byte ++ junk), browF ty_uint8 A2 k c2], fun β w' hs => ?_, ?_⟩
      · have hpl := padN_len (k := k) (x := x) (i := i) (by omega) (by omega)
        obtain ⟨w2, q1, q2⟩ := hs.bkSet 0 (o := i) (us := [byte (x ^^^ y)]) rfl (by simp only [List.length_append, List.length_map, hpl, List.length_singleton]; omega) (fun u hu => by obtain rfl := List.mem_singleton.1 hu; rfl)
        have e : putAll ((padN k x i).map byte ++ junk) i [byte (x ^^^ y)] = (padN k x (i + 1)).map byte ++ junk := by
          rw [putAll, putAll, putAt_eq, List.set_append_left _ _ (by rw [List.length_map, hpl]; omega), ← padN_set hy (by omega), List.map_set]
        rw [e] at q2
        have q1' : (storeCells ((⟨b, 0, none⟩ : Addr).add (i * 1)) [byte (x ^^^ y)] 0).run (cx_hmac_pad w (Un [])).P w' = .ok () w2 := by rw [Nat.mul_one]; exact q1
        exact ⟨w2, q1', q2⟩
      · refine ⟨((i + 1 : Nat) : Int), by rw [wrap_i64 (by omega) (by omega)]; rfl, ?_⟩
        exact ⟨i + 1, hik, by omega, Ent.same ⟨rfl, rfl, rfl, rfl, trivial⟩ rfl⟩
    · have hge0 : ¬ (i : Int) < (k.length : Int) := hge2
      obtain rfl : i = k.length := by omega
      intro β w' hs
      refine hs.fin [0] ⟨b, junk, rfl, ?_⟩
      rw [padN_all]
      unfold padL
      rw [hk]
      rfl
  · have hge0 : ¬ (64 : Int) < (l.length : Int) := hge
    obtain ⟨k, hks⟩ : ∃ k, l = k := ⟨_, rfl⟩
    have hk : keyL l = k := by unfold keyL; rw [if_neg (by omega)]; exact hks
    have hk64 : k.length ≤ 64 := by rw [← hk]; exact keyL_len
    rw [hks] at hr
    have hlk : l.length = k.length := by rw [hks]
    rw [hlk]
    have hkr : ∀ {w'}, (oldF w).p w' → Bs w' A k := fun h => Rd.old hr h
    have hka : 0 < k.length → ∃ ad, A = some ad := fun h => hr.addr h
    intro b1
    refine call_con [] (fun β w' hs => repeat64_c w' (some ⟨b1, 0, none⟩) 1 x (row_rd (hs.get 0 rfl))) ?_
    rintro v Fs ⟨b, junk, rfl, rfl⟩
    refine loop_rule (ι := Nat) 0 (fun i => [(17, .c (.v (.slice A k.length c))), (18, .c (.v (.int .i64 (k.length : Int)))), (19, .c (.v (.int .i64 (i : Int)))), (5, .c (.v (.slice (some ⟨b, 0, none⟩) 64 64)))]) (fun _ => []) (fun i => [bkF b ty_uint8 ((padN k x i).map byte ++ junk), oldF w])
      (fun i => i ≤ k.length) (fun i => k.length - i) 0 (Nat.zero_le _) (Ent.mk' ⟨rfl, rfl, rfl, rfl, trivial⟩ rfl (fun β w' hs => by rw [padN_0]; exact hs.perm [0, 2])) g ?_
    intro i hi
    refine BIf.dec (fun hlt2 => ?_) (fun hge2 => ?_)
    · have hlt0 : (i : Int) < (k.length : Int) := hlt2
      have hik : i < k.length := by omega
      obtain ⟨y, hy, _⟩ := at_lt hik
      obtain ⟨ad, hA⟩ := hka (by omega)
      refine ⟨ad, i, hA, rfl, hik, byte y, fun β w' hs => by
        have h := hkr (hs.get 1 rfl)
        rw [hA] at h
        exact Rd.cell1 h (by rw [List.getElem?_map, hy]; rfl), ?_⟩
      refine ⟨⟨b, 0, none⟩, i, rfl, rfl, by omega, byte x, fun β w' hs => by
        have h := bk_bs (hs.get 0 rfl)
        exact Rd.cell1 h (by rw [List.getElem?_map, padN_at hik (by omega)]; rfl), _, xor8 x y, ?_⟩
      refine ⟨⟨b, 0, none⟩, i, rfl, rfl, by omega, [bkF b ty_uint8 ((padN k x (i + 1)).map byte ++ junk), oldF w], fun β w' hs => ?_, ?_⟩
      · have hpl := padN_len (k := k) (x := x) (i := i) (by omega) (by omega)
        obtain ⟨w2, q1, q2⟩ := hs.bkSet 0 (o := i) (us := [byte (x ^^^ y)]) rfl (by simp only [List.length_append, List.length_map, hpl, List.length_singleton]; omega) (fun u hu => by obtain rfl := List.mem_singleton.1 hu; rfl)
        have e : putAll ((padN k x i).map byte ++ junk) i [byte (x ^^^ y)] = (padN k x (i + 1)).map byte ++ junk := by
          rw [putAll, putAll, putAt_eq, List.set_append_left _ _ (by rw [List.length_map, hpl]; omega), ← padN_set hy (by omega), List.map_set]
        rw [e] at q2
        have q1' : (storeCells ((⟨b, 0, none⟩ : Addr).add (i * 1)) [byte (x ^^^ y)] 0).run (cx_hmac_pad w (Un [])).P w' = .ok () w2 := by rw [Nat.mul_one]; exact q1
        exact ⟨w2, q1', q2⟩
      · refine ⟨((i + 1 : Nat) : Int), by rw [wrap_i64 (by omega) (by omega)]; rfl, ?_⟩
        exact ⟨i + 1, hik, by omega, Ent.same ⟨rfl, rfl, rfl, rfl, trivial⟩ rfl⟩
    · have hge0 : ¬ (i : Int) < (k.length : Int) := hge2
      obtain rfl : i = k.length := by omega
      intro β w' hs
      refine hs.fin [0] ⟨b, junk, rfl, ?_⟩
      rw [padN_all]
      unfold padL
      rw [hk]
      rfl
end Go.Proofs.YtoifclfanabalaaGreatDoor.Sx

/- Bytes of one's own that are only read; facts that are known better; bundles opened at one place. -/
namespace Go.Proofs.YtoifclfanabalaaGreatDoor.Sx
open Go
attribute [local irreducible] Calls

/-- Bytes of one's own, to be read. -/
structure Ro where
  A : Option Addr
  c : Nat
  l : List UInt8
def Ro.v (r : Ro) : Value := .slice r.A r.l.length r.c
def Ro.f (r : Ro) : Fact := rdoF 1 r.A r.l.length (r.l.map byte)
theorem rdo_rd {size : Nat} {A : Option Addr} {k : Nat} {xs : List Value} {w : World} (h : (rdoF size A k xs).p w) : Rd size A k xs w := h
theorem browRoD {e : Nat} {A : Option Addr} {l : List UInt8} {c : Nat} {w : World} (h : (browF e A l c).p w) : ∀ k, (Ro.f ⟨A, c, l⟩).D k → (browF e A l c).D k := by
  rintro k ⟨hk, ad, q, rfl⟩
  have hl : 0 < l.length := by
    have : 0 < l.length * 1 := hk
    omega
  have q' : A = some ad := q
  rcases h.2 with ⟨he, h0⟩ | ⟨g, cap, cur, he, _⟩
  · omega
  · have hA : A = some ⟨g, 0, none⟩ := by injection he
    rw [q'] at hA
    obtain rfl := Option.some.inj hA
    show Value.ownBlock (.slice A l.length c) = _
    rw [q']
    rfl
/-- Owned facts that are known better, each on its own memory. -/
inductive Recs (w' : World) : List Fact → List Fact → Prop
  | nil : Recs w' [] []
  | cons {f g : Fact} {Fs Gs : List Fact} (h : g.own = true ∧ (f.p w' → g.p w') ∧ ∀ k, g.D k → f.D k) (r : Recs w' Fs Gs) : Recs w' (f :: Fs) (g :: Gs)
theorem Fin.recast {w : World} {Gs : List Fact} {R R' : Value → List Fact → Prop} {v : Value} {w' : World} (h : Fin w Gs R v w')
    (hr : ∀ Fs, R v Fs → (∀ f ∈ Fs, f.p w') → ∃ Fs', R' v Fs' ∧ Recs w' Fs Fs') : Fin w Gs R' v w' := by
  obtain ⟨Fs, h1, h2, h3, h4, h5⟩ := h
  obtain ⟨Fs', q1, q2⟩ := hr Fs h1 h3.fact
  have key : ∀ {Fs Fs' : List Fact}, Recs w' Fs Fs' → Mem w' Fs → Owns Fs → Mem w' Fs' ∧ Owns Fs' ∧ ∀ g ∈ Fs', ∃ f ∈ Fs, ∀ k, g.D k → f.D k := by
    intro Fs Fs' hf
    induction hf with
    | nil => intro _ _; exact ⟨⟨fun _ q => (by cases q), fun _ q => (by cases q), List.Pairwise.nil⟩, trivial, fun _ q => (by cases q)⟩
    | @cons f g Fs Fs' hfg hrest ih =>
      intro hm ho
      obtain ⟨i1, i2, i3⟩ := ih ⟨fun x hx => hm.fact x (List.mem_cons_of_mem _ hx), fun x hx => hm.flt x (List.mem_cons_of_mem _ hx), (List.pairwise_cons.1 hm.sepf).2⟩ ho.2
      refine ⟨⟨fun x hx => ?_, fun x hx k hk => ?_, List.pairwise_cons.2 ⟨fun x hx _ k hk hk' => ?_, i1.sepf⟩⟩, ⟨hfg.1, i2⟩, fun x hx => ?_⟩
      · rcases List.mem_cons.1 hx with rfl | hx
        · exact hfg.2.1 (hm.fact f List.mem_cons_self)
        · exact i1.fact x hx
      · rcases List.mem_cons.1 hx with rfl | hx
        · exact hm.flt f List.mem_cons_self k (hfg.2.2 k hk)
        · exact i1.flt x hx k hk
      · obtain ⟨y, hy, hyd⟩ := i3 x hx
        exact (List.pairwise_cons.1 hm.sepf).1 y hy (.inl ho.1) k (hfg.2.2 k hk) (hyd k hk')
      · rcases List.mem_cons.1 hx with rfl | hx
        · exact ⟨f, List.mem_cons_self, hfg.2.2⟩
        · obtain ⟨y, hy, hyd⟩ := i3 x hx
          exact ⟨y, List.mem_cons_of_mem _ hy, hyd⟩
  obtain ⟨k1, k2, k3⟩ := key q2 h3 h4
  exact ⟨Fs', q1, h2, k1, k2, fun g hg k hk => by obtain ⟨f, hf, hfd⟩ := k3 g hg; exact h5 f hf k (hfd k hk)⟩
/-! ### a bundle is opened at one place -/
theorem Un.cons {x : Fact} {B : List Fact} {k : Nat} : Un (x :: B) k ↔ x.D k ∨ Un B k := by
  unfold Un
  constructor
  · rintro ⟨g, hg, hk⟩
    rcases List.mem_cons.1 hg with rfl | h
    · exact .inl hk
    · exact .inr ⟨g, h, hk⟩
  · rintro (hk | ⟨g, hg, hk⟩)
    · exact ⟨x, List.mem_cons_self, hk⟩
    · exact ⟨g, List.mem_cons_of_mem _ hg, hk⟩
section
variable {cx : Cx} {β : Va} {n : Nat} {H : List Bk} {F : List Fact} {w : World}
end

end Go.Proofs.YtoifclfanabalaaGreatDoor.Sx

/- Sums that need a key: at once. -/
namespace Go.Proofs.YtoifclfanabalaaGreatDoor.Sx
open Go
attribute [local irreducible] Calls

theorem join2_c (w : World) (b : Nat) (A1 A2 : Option Addr) (l1 l2 : List UInt8) (c1 c2 : Nat) (hP : Rd 1 (some ⟨b, 0, none⟩) 2 [.slice A1 l1.length c1, .slice A2 l2.length c2] w) (h1 : Bs w A1 l1) (h2 : Bs w A2 l2) (hn : l1.length + l2.length ≤ 100000000) :
    Con Tryz.prog n_bytes_Join #[.slice (some ⟨b, 0, none⟩) 2 2, .slice none 0 0] w [] (readOut (l1 ++ l2)) := by
  have h := joinN_c w b 2 [.slice A1 l1.length c1, .slice A2 l2.length c2] [l1, l2] hP (fun i v l hv hl => by
    match i with
    | 0 => cases hv; cases hl; exact Bs.holds h1 c1
    | 1 => cases hv; cases hl; exact Bs.holds h2 c2
    | n + 2 => simp at hv) (Nat.le_refl 2) (Nat.le_refl 2) (by show 2 ≤ 1000; decide) (by simp; omega)
  have e : [l1, l2].flatten = l1 ++ l2 := by simp
  rw [e] at h
  exact h
/-- One part, to be read. -/
theorem join1R_c (w : World) (P A : Option Addr) (cP c : Nat) (l : List UInt8) (hP : Rd 1 P 1 [.slice A l.length c] w) (hr : Bs w A l) (hn : l.length ≤ 100000000) :
    Con Tryz.prog n_bytes_Join #[.slice P 1 cP, .slice none 0 0] w [] (readOut l) := by
  refine Calls.mono (join1_c w P A cP c l hP hr (by omega)) ?_
  rintro e w' ⟨v, rfl, hf⟩
  refine ⟨v, rfl, hf.recast ?_⟩
  rintro Fs ⟨A', c', rfl, q1, q2, rfl⟩ hp
  exact ⟨[rdoF 1 A' l.length (l.map byte)], ⟨A', c', rfl, q1, q2, rfl⟩, .cons ⟨rfl, fun h => row_rd h, browRoD (hp _ List.mem_cons_self)⟩ .nil⟩
/-- A sum with a key. -/
theorem hsum_c (w : World) (A P : Option Addr) (key text : List UInt8) (c nP cP : Nat) (hr : Bs w A key) (hk : key.length ≤ 1000000) (ht : text.length ≤ 1000000) (hj : ∀ w', (oldF w).p w' → Con Tryz.prog n_bytes_Join #[.slice P nP cP, .slice none 0 0] w' [] (readOut text)) (h1 : (oddF 2).p w) (h0 : (firstF 0).p w) :
    Con Tryz.prog n_hmac_Sum #[.slice A key.length c, .slice P nP cP] w [] fun v Fs => ∃ A' c', v = .slice A' 32 c' ∧ 32 ≤ c' ∧ c' ≤ maxLen ∧ Fs = [browF ty_uint8 A' (hmL key text) c'] := by
  have g := good_hmac_Sum w (Un [])
  refine con_of_sx (cx := cx_hmac_Sum w (Un [])) g b_hmac_Sum rfl rfl (β := Va.z) [.c (.v (.slice A key.length c)), .c (.v (.slice P nP cP))] 0 [] [oldF w] rfl rfl (old_sat rfl) ?_
  refine call_con [] (fun β w' hs => pad_c w' A key c 0x36 (Rd.old hr (hs.get 0 rfl)) hk (Rd.old h1 (hs.get 0 rfl)) (Rd.old h0 (hs.get 0 rfl))) ?_
  rintro v Fs ⟨p1, j1, rfl, rfl⟩
  refine call_con [] (fun β w' hs => hj w' (hs.get 1 rfl)) ?_
  rintro v Fs ⟨A1, c1, rfl, _, _, rfl⟩
  intro b1
  have l64 : ∀ x, (padL key x).length = 64 := padL_len key
  refine call_con [] (fun β w' hs => sumJ_c w' (some ⟨b1, 0, none⟩) 2 2 (padL key 0x36 ++ text) (fun w2 ho => by
    have q := join2_c w2 b1 (some ⟨p1, 0, none⟩) A1 (padL key 0x36) text 64 c1 (by rw [l64]; exact Rd.old (row_rd (hs.get 0 rfl)) ho) (Rd.old (bk_bs (hs.get 2 rfl)) ho) (Rd.old (rdo_rd (hs.get 1 rfl)) ho) (by rw [l64]; omega)
    exact q) (by rw [List.length_append, l64]; omega) (Rd.old h1 (hs.get 3 rfl)) (Rd.old h0 (hs.get 3 rfl))) ?_
  rintro v Fs ⟨A2, c2, rfl, _, _, rfl⟩
  refine call_con [] (fun β w' hs => pad_c w' A key c 0x5c (Rd.old hr (hs.get 4 rfl)) hk (Rd.old h1 (hs.get 4 rfl)) (Rd.old h0 (hs.get 4 rfl))) ?_
  rintro v Fs ⟨p2, j2, rfl, rfl⟩
  intro b2
  have ls : (Sha.sum (padL key 0x36 ++ text)).length = 32 := sum_len _
  refine call_con [] (fun β w' hs => sumJ_c w' (some ⟨b2, 0, none⟩) 2 2 (padL key 0x5c ++ Sha.sum (padL key 0x36 ++ text)) (fun w2 ho => by
    have q := join2_c w2 b2 (some ⟨p2, 0, none⟩) A2 (padL key 0x5c) (Sha.sum (padL key 0x36 ++ text)) 64 c2 (by rw [l64, ls]; exact Rd.old (row_rd (hs.get 0 rfl)) ho) (Rd.old (bk_bs (hs.get 1 rfl)) ho) (Rd.old (row_rd (hs.get 2 rfl)) ho) (by rw [l64, ls]; decide)
    exact q) (by rw [List.length_append, l64, ls]; decide) (Rd.old h1 (hs.get 6 rfl)) (Rd.old h0 (hs.get 6 rfl))) ?_
  rintro v Fs ⟨A3, c3, rfl, h5, h6, rfl⟩
  intro β w' hs
  exact hs.fin [0] ⟨A3, c3, rfl, h5, h6, rfl⟩
end Go.Proofs.YtoifclfanabalaaGreatDoor.Sx

/- The reference's sums with a key. -/
namespace Go.Proofs.YtoifclfanabalaaGreatDoor.Sx
open Go
attribute [local irreducible] Calls

/-- A row of bytes, from now on to be read. -/
theorem Sat.ro {cx : Cx} {β : Va} {n : Nat} {H : List Bk} {F : List Fact} {w : World} (h : Sat cx β n H F w) (j : Nat) {e : Nat} {A : Option Addr} {l : List UInt8} {c : Nat} (hj : nth F j = some (browF e A l c)) : Sat cx β n H (putAt F j (bsF A l)) w := by
  have hp := h.get j hj
  exact h.upd hj rfl (Chg.refl _ _) (row_rd hp) (fun k hk => .inl (browRoD hp k hk))
/-! ### turned -/
end Go.Proofs.YtoifclfanabalaaGreatDoor.Sx

/- The reference's sums with a key; a password that is stretched. -/
namespace Go.Proofs.YtoifclfanabalaaGreatDoor.Sx
open Go
attribute [local irreducible] Calls

theorem Sat.dupRo {cx : Cx} {β : Va} {n : Nat} {H : List Bk} {F : List Fact} {w : World} (h : Sat cx β n H F w) (j : Nat) {A : Option Addr} {l : List UInt8} (hj : nth F j = some (bsF A l)) : Sat cx β n H (bsF A l :: F) w :=
  h.sub j hj rfl (bsF A l) rfl (h.get j hj) (fun _ hk => hk)
end Go.Proofs.YtoifclfanabalaaGreatDoor.Sx

/- A sum that grows: the table of its state; new; copied. -/
namespace Go.Proofs.YtoifclfanabalaaGreatDoor.Sx
open Go Sha
attribute [local irreducible] Calls

/-! ### plainly -/
/-! ### in memory -/
def ptrB (b : Nat) : Value := .pointer (some ⟨b, 0, none⟩)
end Go.Proofs.YtoifclfanabalaaGreatDoor.Sx

/- A sum that grows: written to; its value. -/
namespace Go.Proofs.YtoifclfanabalaaGreatDoor.Sx
open Go Sha
attribute [local irreducible] Calls

end Go.Proofs.YtoifclfanabalaaGreatDoor.Sx

/- A sum that grows: its value. -/
namespace Go.Proofs.YtoifclfanabalaaGreatDoor.Sx
open Go Sha
attribute [local irreducible] Calls

end Go.Proofs.YtoifclfanabalaaGreatDoor.Sx

/- A sum with a key that grows. -/
namespace Go.Proofs.YtoifclfanabalaaGreatDoor.Sx
open Go
attribute [local irreducible] Calls

/-! ### begun -/
end Go.Proofs.YtoifclfanabalaaGreatDoor.Sx

/- One sum of parts, by a Mac that is kept. -/
namespace Go.Proofs.YtoifclfanabalaaGreatDoor.Sx
open Go
attribute [local irreducible] Calls

abbrev Part := Option Addr × List UInt8 × Nat
def partV (p : Part) : Value := .slice p.1 p.2.1.length p.2.2
def partsT (ps : List Part) : List UInt8 := ps.flatMap (·.2.1)
/-- Parts, to be read. -/
def partF (P : Option Addr) (ps : List Part) : Fact where
  own := false
  D := fun k => (rdF 1 P ps.length (ps.map partV)).D k ∨ ∃ p ∈ ps, (bsF p.1 p.2.1).D k
  p := fun w => Rd 1 P ps.length (ps.map partV) w ∧ ∀ p ∈ ps, Bs w p.1 p.2.1
  st := fun w w' hs h => ⟨(rdF 1 P ps.length (ps.map partV)).st w w' (fun k hk => hs k (.inl hk)) h.1, fun p hp => (bsF p.1 p.2.1).st w w' (fun k hk => hs k (.inr ⟨p, hp, hk⟩)) (h.2 p hp)⟩
end Go.Proofs.YtoifclfanabalaaGreatDoor.Sx

/- The pieces of a password that is stretched: the first. -/
namespace Go.Proofs.YtoifclfanabalaaGreatDoor.Sx
open Go
attribute [local irreducible] Calls

section
variable {cx : Cx} {β : Va} {n : Nat} {H : List Bk} {F : List Fact} {w : World}
theorem Sat.subN (h : Sat cx β n H F w) (js : List Nat) (hno : ∀ f ∈ takeIx F js, f.own = false) (g : Fact) (hgo : g.own = false) (hp : g.p w) (hD : ∀ k, g.D k → Un (takeIx F js) k) : Sat cx β n H (g :: F) w := by
  have hin : ∀ k, g.D k → ∃ (i : Nat) (f : Fact), F[i]? = some f ∧ f.own = false ∧ f.D k := fun k hk => by
    obtain ⟨f, hf, hfk⟩ := hD k hk
    obtain ⟨i, _, hi⟩ := takeIx_mem hf
    exact ⟨i, f, hi, hno f hf, hfk⟩
  refine h.old g hp (fun k hk => ?_) (fun b hb q => ?_) (fun q => by rw [hgo] at q; cases q) (fun g' hg' ho k hk hk' => ?_) (fun p hpp q => ?_)
  · obtain ⟨i, f, hi, _, hfk⟩ := hin k hk
    exact h.flt f (List.mem_of_getElem? hi) k hfk
  · obtain ⟨i, f, hi, _, hfk⟩ := hin _ q
    exact h.sepb f (List.mem_of_getElem? hi) b hb hfk
  · have ho' : g'.own = true := ho.resolve_left (by rw [hgo]; decide)
    obtain ⟨i, f, hi, hfo, hfk⟩ := hin k hk
    obtain ⟨j, hj⟩ := List.getElem?_of_mem hg'
    have hne : j ≠ i := fun q => by subst q; rw [hj] at hi; obtain rfl := Option.some.inj hi; rw [hfo] at ho'; cases ho'
    exact h.apart hj hi hne (.inl ho') k hk' hfk
  · obtain ⟨i, f, hi, _, hfk⟩ := hin _ q
    exact (h.pin p hpp).2.2 f (List.mem_of_getElem? hi) hfk
theorem rowD {e size : Nat} {A : Option Addr} {k c : Nat} {xs : List Value} {w : World} (h : (rowF e size (.slice A k c) k xs).p w) : ∀ b, (rdF size A k xs).D b → (rowF e size (.slice A k c) k xs).D b := by
  rintro b ⟨h0, ad, q, rfl⟩
  have hk : 0 < k := Nat.pos_of_ne_zero (fun q => by rw [q, Nat.zero_mul] at h0; exact Nat.lt_irrefl _ h0)
  rcases h.2 with ⟨he, h0⟩ | ⟨g, cap, cur, he, _⟩
  · omega
  · have hA : A = some ⟨g, 0, none⟩ := by injection he
    rw [q] at hA
    obtain rfl := Option.some.inj hA
    show Value.ownBlock (.slice A k c) = _
    rw [q]
    rfl
/-- A row, from now on to be read. -/
theorem Sat.rowRd (h : Sat cx β n H F w) (j : Nat) {e size : Nat} {A : Option Addr} {k c : Nat} {xs : List Value} (hj : nth F j = some (rowF e size (.slice A k c) k xs)) : Sat cx β n H (putAt F j (rdF size A k xs)) w := by
  have hp := h.get j hj
  exact h.upd hj rfl (Chg.refl _ _) (row_rd hp) (fun b hb => .inl (rowD hp b hb))
/-- Parts that lie about, as one. -/
theorem Sat.part1 {P A : Option Addr} {l : List UInt8} {c : Nat} (h : Sat cx β n H F w) (js : List Nat) (hj : takeIx F js = [rdF 1 P 1 [.slice A l.length c], bsF A l]) : Sat cx β n H (partF P [(A, l, c)] :: F) w := by
  have hP : Rd 1 P 1 [.slice A l.length c] w := h.fact _ (by
    have : rdF 1 P 1 [.slice A l.length c] ∈ takeIx F js := by rw [hj]; simp
    obtain ⟨i, _, hi⟩ := takeIx_mem this
    exact List.mem_of_getElem? hi)
  have hA : Bs w A l := h.fact (bsF A l) (by
    have : bsF A l ∈ takeIx F js := by rw [hj]; simp
    obtain ⟨i, _, hi⟩ := takeIx_mem this
    exact List.mem_of_getElem? hi)
  refine h.subN js (fun f hf => ?_) _ rfl ⟨hP, fun p hp => ?_⟩ (fun k hk => ?_)
  · rw [hj] at hf
    simp only [List.mem_cons, List.not_mem_nil, or_false] at hf
    rcases hf with rfl | rfl <;> rfl
  · obtain rfl := List.mem_singleton.1 hp; exact hA
  · rw [hj]
    rcases hk with hk | ⟨p, hp, hk⟩
    · exact ⟨_, List.mem_cons_self, hk⟩
    · obtain rfl := List.mem_singleton.1 hp
      exact ⟨_, List.mem_cons_of_mem _ List.mem_cons_self, hk⟩
end
end Go.Proofs.YtoifclfanabalaaGreatDoor.Sx

/- A password's key, of 32 bytes. -/
namespace Go.Proofs.YtoifclfanabalaaGreatDoor.Sx
open Go
attribute [local irreducible] Calls

end Go.Proofs.YtoifclfanabalaaGreatDoor.Sx

/- The program's box: hashes, sums with a key, stretched passwords; plain and symbolic. -/
namespace Go.Proofs.YtoifclfanabalaaGreatDoor.Sx
open Go
attribute [local irreducible] Calls

def macT (k t : List UInt8) : Bx.Term := ⟨2, k, t, 0, [], []⟩
noncomputable def hashB (B : Bx.Box) (t : List UInt8) : List UInt8 × Bx.Box := if B.sym then B.tag (hashT t) else (Sha.sum t, B)
noncomputable def macB (B : Bx.Box) (k t : List UInt8) : List UInt8 × Bx.Box := if B.sym then B.tag (macT k t) else (hmL k t, B)
/-- What a box tells, in memory; the box behind it. -/
def boxOut (b : Nat) (r : List UInt8 × Bx.Box) (v : Value) (Fs : List Fact) : Prop :=
  ∃ A c y', v = .slice A 32 c ∧ 32 ≤ c ∧ c ≤ maxLen ∧ y'.ts.map (·.1) = r.2.L ∧ Fs = [browF ty_uint8 A r.1 c, bxF b r.2 y']
theorem Sat.unown {cx : Cx} {β : Va} {n : Nat} {H : List Bk} {F : List Fact} {w : World} (h : Sat cx β n H F w) (j : Nat) {size : Nat} {A : Option Addr} {k : Nat} {xs : List Value} (hj : nth F j = some (rdoF size A k xs)) : Sat cx β n H (putAt F j (rdF size A k xs)) w :=
  h.upd hj rfl (Chg.refl _ _) (show (rdF size A k xs).p w from rdo_rd (h.get j hj)) (fun _ hk => .inl hk)
theorem Sat.trd {cx : Cx} {β : Va} {n : Nat} {H : List Bk} {F : List Fact} {w : World} (h : Sat cx β n H F w) (js : List Nat) (t : Bx.Term) (a : TA) (hl : t.list = []) (hm : t.mask = []) (hj : takeIx F js = [bsF a.k t.key, bsF a.t t.text]) : Sat cx β n H (trdF t a :: F) w := by
  have get : ∀ f ∈ takeIx F js, f.p w := fun f hf => by obtain ⟨i, _, hi⟩ := takeIx_mem hf; exact h.fact f (List.mem_of_getElem? hi)
  refine h.subN js (fun f hf => ?_) _ rfl ⟨get (bsF a.k t.key) (by rw [hj]; simp), get (bsF a.t t.text) (by rw [hj]; simp), by rw [hl]; exact rd_nil w a.l, by rw [hm]; exact Bs.nil w a.m⟩ (fun k hk => ?_)
  · rw [hj] at hf
    simp only [List.mem_cons, List.not_mem_nil, or_false] at hf
    rcases hf with rfl | rfl <;> rfl
  · rw [hj]
    rcases hk with hk | hk | hk | hk
    · exact ⟨_, List.mem_cons_self, hk⟩
    · exact ⟨bsF a.t t.text, by simp, hk⟩
    · rw [hl] at hk
      exact absurd hk.1 (by simp)
    · rw [hm] at hk
      exact absurd hk.1 (by simp)
theorem parts_len {ps : List Part} : (ps.map (·.2.1)).flatten = partsT ps := by
  unfold partsT
  rw [List.flatMap_def]
/-- Parts, joined. -/
theorem joinP_c (w : World) (b0 : Nat) (ps : List Part) (cP : Nat) (h : (partF (some ⟨b0, 0, none⟩) ps).p w) (h0 : ps ≠ []) (hc : ps.length ≤ cP) (hl : ps.length ≤ 1000) (hn : (partsT ps).length ≤ 1000000) :
    Con Tryz.prog n_bytes_Join #[.slice (some ⟨b0, 0, none⟩) ps.length cP, .slice none 0 0] w [] (readOut (partsT ps)) := by
  match ps with
  | [] => exact absurd rfl h0
  | [p] =>
    have e : partsT [p] = p.2.1 := by simp [partsT]
    rw [e] at hn ⊢
    exact join1R_c w (some ⟨b0, 0, none⟩) p.1 cP p.2.2 p.2.1 h.1 (h.2 p List.mem_cons_self) (by omega)
  | p :: q :: r =>
    have k := joinN_c w b0 cP ((p :: q :: r).map partV) ((p :: q :: r).map (·.2.1)) (by rw [List.length_map]; exact h.1) (fun i v l hv hl => by
      rw [List.getElem?_map] at hv hl
      obtain ⟨x, hx, rfl⟩ := Option.map_eq_some_iff.1 hv
      obtain ⟨x', hx', rfl⟩ := Option.map_eq_some_iff.1 hl
      rw [hx] at hx'
      obtain rfl := Option.some.inj hx'
      exact Bs.holds (h.2 x (List.mem_of_getElem? hx)) x.2.2) (by simp) (by rw [List.length_map]; exact hc) (by rw [List.length_map]; exact hl) (by rw [parts_len]; omega)
    rw [List.length_map, parts_len] at k
    exact k
theorem partOld {P : Option Addr} {ps : List Part} {W w : World} (h : (partF P ps).p W) (ho : (oldF W).p w) : (partF P ps).p w := ⟨Rd.old h.1 ho, fun p hp => Rd.old (h.2 p hp) ho⟩
theorem hashP_c (w : World) (b : Nat) (B : Bx.Box) (y : Lay) (b0 : Nat) (ps : List Part) (cP : Nat) (hts : y.ts.map (·.1) = B.L) (hL : B.L.length ≤ 4096) (h0 : ps ≠ []) (hc : ps.length ≤ cP) (hl : ps.length ≤ 1000) (hn : (partsT ps).length ≤ 1000000) (hm : Mem w [bxF b B y, partF (some ⟨b0, 0, none⟩) ps, oddF 2, firstF 0]) :
    Con Tryz.prog n_box_Box_Hash #[ptrB b, .slice (some ⟨b0, 0, none⟩) ps.length cP] w [bxF b B y] (boxOut b (hashB B (partsT ps))) := by
  have g := good_box_Box_Hash w (Un [bxF b B y])
  have hs0 : Sat (cx_box_Box_Hash w (Un [bxF b B y])) Va.z 0 [] [bxF b B y, partF (some ⟨b0, 0, none⟩) ps, oddF 2, firstF 0] w := hm.sat0 rfl (ownIn (Gs := [bxF b B y]) (fun f hf => by
    simp only [List.mem_cons, List.not_mem_nil, or_false] at hf
    rcases hf with rfl | rfl | rfl <;> rfl))
  refine con_of_sx (cx := cx_box_Box_Hash w (Un [bxF b B y])) g b_box_Box_Hash rfl rfl (β := Va.z) [.c (.v (ptrB b)), .c (.v (.slice (some ⟨b0, 0, none⟩) ps.length cP))] 0 [] [bxF b B y, partF (some ⟨b0, 0, none⟩) ps, oddF 2, firstF 0] rfl rfl hs0 ?_
  cases hsym : B.sym with
  | true =>
    refine ⟨.bool true, fun β w' hs => box_cell (bx_bk (hs.get 0 rfl)) (o := 0) (by simp [boxCells, hsym]), ?_⟩
    refine call_con [] (fun β w' hs => joinP_c w' b0 ps cP (hs.get 1 rfl) h0 hc hl hn) ?_
    rintro v Fs ⟨A1, c1, rfl, q1, q2, rfl⟩
    refine call_con [1] (R := boxOut b (B.tag (hashT (partsT ps)))) (fun β w' hs => by
      have k2 := ((hs.unown 0 rfl).noMem (bsF none []) (Bs.nil w' none) (fun k hk => absurd hk.1 (by simp))).trd [0, 1] (hashT (partsT ps)) ⟨none, A1, none, none, 0, c1, 0, 0⟩ rfl rfl rfl
      exact tag_c w' b B y (hashT (partsT ps)) ⟨none, A1, none, none, 0, c1, 0, 0⟩ hts hL (hashT_sz hn) (k2.mem.take (js := [3, 0]) rfl)) ?_
    rintro v Fs ⟨A2, c2, y2, rfl, r1, r2, r3, rfl⟩
    intro β w' hs
    have e : hashB B (partsT ps) = B.tag (hashT (partsT ps)) := by unfold hashB; rw [hsym]; rfl
    rw [e]
    exact hs.fin [0, 1] ⟨A2, c2, y2, rfl, r1, r2, r3, rfl⟩
  | false =>
    refine ⟨.bool false, fun β w' hs => box_cell (bx_bk (hs.get 0 rfl)) (o := 0) (by simp [boxCells, hsym]), ?_⟩
    refine call_con [] (fun β w' hs => sumJ_c w' (some ⟨b0, 0, none⟩) ps.length cP (partsT ps) (fun w2 ho => joinP_c w2 b0 ps cP (partOld (hs.get 1 rfl) ho) h0 hc hl hn) (by omega) (hs.get 2 rfl) (hs.get 3 rfl)) ?_
    rintro v Fs ⟨A2, c2, rfl, r1, r2, rfl⟩
    intro β w' hs
    have e : hashB B (partsT ps) = (Sha.sum (partsT ps), B) := by unfold hashB; rw [hsym]; rfl
    rw [e]
    exact hs.fin [0, 1] ⟨A2, c2, y, rfl, r1, r2, hts, rfl⟩
theorem macT_sz {k t : List UInt8} (hk : k.length ≤ 1000000) (hl : t.length ≤ 1000000) : TSz (macT k t) := ⟨by show 2 < 1000; decide, by show 0 < 1000; decide, hk, hl, Nat.zero_le _, fun _ h => (by cases h), Nat.zero_le _⟩
theorem macP_c (w : World) (b : Nat) (B : Bx.Box) (y : Lay) (K : Option Addr) (key : List UInt8) (cK : Nat) (b0 : Nat) (ps : List Part) (cP : Nat) (hts : y.ts.map (·.1) = B.L) (hL : B.L.length ≤ 4096) (hk : key.length ≤ 1000000) (h0 : ps ≠ []) (hc : ps.length ≤ cP) (hl : ps.length ≤ 1000) (hn : (partsT ps).length ≤ 1000000) (hm : Mem w [bxF b B y, partF (some ⟨b0, 0, none⟩) ps, bsF K key, oddF 2, firstF 0]) :
    Con Tryz.prog n_box_Box_Mac #[ptrB b, .slice K key.length cK, .slice (some ⟨b0, 0, none⟩) ps.length cP] w [bxF b B y] (boxOut b (macB B key (partsT ps))) := by
  have g := good_box_Box_Mac w (Un [bxF b B y])
  have hs0 : Sat (cx_box_Box_Mac w (Un [bxF b B y])) Va.z 0 [] [bxF b B y, partF (some ⟨b0, 0, none⟩) ps, bsF K key, oddF 2, firstF 0] w := hm.sat0 rfl (ownIn (Gs := [bxF b B y]) (fun f hf => by
    simp only [List.mem_cons, List.not_mem_nil, or_false] at hf
    rcases hf with rfl | rfl | rfl | rfl <;> rfl))
  refine con_of_sx (cx := cx_box_Box_Mac w (Un [bxF b B y])) g b_box_Box_Mac rfl rfl (β := Va.z) [.c (.v (ptrB b)), .c (.v (.slice K key.length cK)), .c (.v (.slice (some ⟨b0, 0, none⟩) ps.length cP))] 0 [] [bxF b B y, partF (some ⟨b0, 0, none⟩) ps, bsF K key, oddF 2, firstF 0] rfl rfl hs0 ?_
  cases hsym : B.sym with
  | true =>
    refine ⟨.bool true, fun β w' hs => box_cell (bx_bk (hs.get 0 rfl)) (o := 0) (by simp [boxCells, hsym]), ?_⟩
    refine call_con [] (fun β w' hs => joinP_c w' b0 ps cP (hs.get 1 rfl) h0 hc hl hn) ?_
    rintro v Fs ⟨A1, c1, rfl, q1, q2, rfl⟩
    refine call_con [1] (R := boxOut b (B.tag (macT key (partsT ps)))) (fun β w' hs => by
      have k2 := (hs.unown 0 rfl).trd [3, 0] (macT key (partsT ps)) ⟨K, A1, none, none, cK, c1, 0, 0⟩ rfl rfl rfl
      exact tag_c w' b B y (macT key (partsT ps)) ⟨K, A1, none, none, cK, c1, 0, 0⟩ hts hL (macT_sz hk hn) (k2.mem.take (js := [2, 0]) rfl)) ?_
    rintro v Fs ⟨A2, c2, y2, rfl, r1, r2, r3, rfl⟩
    intro β w' hs
    have e : macB B key (partsT ps) = B.tag (macT key (partsT ps)) := by unfold macB; rw [hsym]; rfl
    rw [e]
    exact hs.fin [0, 1] ⟨A2, c2, y2, rfl, r1, r2, r3, rfl⟩
  | false =>
    refine ⟨.bool false, fun β w' hs => box_cell (bx_bk (hs.get 0 rfl)) (o := 0) (by simp [boxCells, hsym]), ?_⟩
    refine call_con [] (fun β w' hs => hsum_c w' K (some ⟨b0, 0, none⟩) key (partsT ps) cK ps.length cP (hs.get 2 rfl) hk hn (fun w2 ho => joinP_c w2 b0 ps cP (partOld (hs.get 1 rfl) ho) h0 hc hl hn) (hs.get 3 rfl) (hs.get 4 rfl)) ?_
    rintro v Fs ⟨A2, c2, rfl, r1, r2, rfl⟩
    intro β w' hs
    have e : macB B key (partsT ps) = (hmL key (partsT ps), B) := by unfold macB; rw [hsym]; rfl
    rw [e]
    exact hs.fin [0, 1] ⟨A2, c2, y, rfl, r1, r2, hts, rfl⟩
end Go.Proofs.YtoifclfanabalaaGreatDoor.Sx

/- The document's handles. -/
namespace Go.Proofs.YtoifclfanabalaaGreatDoor.Sx
open Go
attribute [local irreducible] Calls

theorem rfront_c (w : World) : Con Tryz.prog n_ostiaryref05_front #[] w [] fun v Fs => ∃ A c, v = .slice A 28 c ∧ 28 ≤ c ∧ c ≤ maxLen ∧ Fs = [browF ty_uint8 A Bx.front c] := by
  refine con_of_sx (cx := cx_ostiaryref05_front w (Un [])) (good_ostiaryref05_front w (Un [])) b_ostiaryref05_front rfl rfl (β := Va.z) [] 0 [] [] rfl rfl (Sat.start rfl) ?_
  intro b
  refine ⟨0, 4, 24, 28, _, _, Bx.front.map byte, rfl, ⟨rfl, rfl, fun u hu => by obtain rfl := List.mem_singleton.1 hu; rfl⟩, rfl, rfl, by rw [maxLen_eq]; decide, by decide, ?_⟩
  intro A' c' h1 h2 _ β w' hs
  exact hs.fin [0] ⟨A', c', rfl, h1, h2, rfl⟩
theorem numB_num (l : List UInt8) : numB l = Bx.num l % 18446744073709551616 := by
  have key : ∀ (l : List UInt8) (a : Nat), l.foldl (fun a x => (a * 256 + x.toNat) % 18446744073709551616) (a % 18446744073709551616) = l.foldl (fun n b => n * 256 + b.toNat) a % 18446744073709551616 := by
    intro l
    induction l with
    | nil => intro a; rfl
    | cons x r ih =>
      intro a
      simp only [List.foldl_cons]
      rw [show (a % 18446744073709551616 * 256 + x.toNat) % 18446744073709551616 = (a * 256 + x.toNat) % 18446744073709551616 by omega, ih]
  exact key l 0
theorem num4 {l : List UInt8} (h : l.length = 32) : Bx.num (l.drop 28) < 4294967296 := by
  have h1 := num_lt (l.drop 28)
  have h2 : (l.drop 28).length = 4 := by rw [List.length_drop]; omega
  rw [h2] at h1
  exact h1
def looksV (l : List UInt8) : Value := match Bx.looks l with
  | some n => .tuple #[.int .i64 (n : Int), .bool true]
  | none => .tuple #[.int .i64 0, .bool false]
theorem looks_c (w : World) (A : Option Addr) (l : List UInt8) (c : Nat) (hr : Bs w A l) (hc : l.length ≤ c) (hn : l.length ≤ 1000000000) : Pu Tryz.prog n_ostiaryref05_Looks #[.slice A l.length c] w (looksV l) := by
  have g := good_ostiaryref05_Looks w (Un [])
  refine con_of_sx (cx := cx_ostiaryref05_Looks w (Un [])) g b_ostiaryref05_Looks rfl rfl (β := Va.z) [.c (.v (.slice A l.length c))] 0 [] [oldF w] rfl rfl (old_sat rfl) ?_
  refine draw_rule g p_ostiaryref05_Looks_1 (by kernel_rfl) [] [oldF w] Sub.refl ?_
  have none_ : (Bx.looks l = none) → ∀ (n : Nat) (H : List Bk) (F : List Fact), ∀ β w', Sat (cx_ostiaryref05_Looks w (Un [])) β n H F w' → Fin w [] (fun u Fs => u = looksV l ∧ Fs = []) (.tuple #[.int .i64 0, .bool false]) w' := fun h n H F β w' hs => hs.fin [] ⟨by unfold looksV; rw [h], rfl⟩
  refine BIf.not (BIf.dec (fun h32 => ?_) (fun h32 => ?_))
  · have hl : l.length = 32 := by omega
    refine ⟨c, 28, 0, 28, c, _, rfl, rfl, rfl, by omega, by omega, Nat.zero_le _, rfl, rfl, rfl, ?_⟩
    refine call_con [] (fun β w' hs => rfront_c w') ?_
    rintro v Fs ⟨A2, c2, rfl, q1, _, rfl⟩
    refine ⟨subPerm [1], ?_⟩
    have e28 : (l.take 28).length = 28 := by simp; omega
    refine call_pu (v := .bool (decide (l.take 28 = Bx.front))) (fun β w' hs => by
      have h := pu_of (same_c w' (cutA A c 0 1) A2 (l.take 28) Bx.front c c2 (Bs.cutB (Rd.old hr (hs.get 1 rfl)) hc (Nat.zero_le 28) (by omega) (by simp)) (row_rd (hs.get 0 rfl)))
      rw [e28] at h
      exact h) ?_
    refine ⟨subPerm [1], ?_⟩
    refine BIf.not (BIf.dec (fun hf => ?_) (fun hf => ?_))
    · have hlk : Bx.looks l = some (Bx.num (l.drop 28)) := by unfold Bx.looks; rw [if_pos ⟨hl, hf⟩]
      refine ⟨c, 32, 28, 4, c - 28, _, rfl, hl.symm, rfl, by omega, by omega, by omega, rfl, rfl, rfl, ?_⟩
      have hd : (l.drop 28).length = 4 := by simp; omega
      have h4 := num4 hl
      have hrd : ∀ w', (oldF w).p w' → Bs w' (cutA A c 28 1) (l.drop 28) := fun w' ho => Bs.cutB (Rd.old hr ho) hc (show 28 ≤ 32 by decide) (by omega) (by rw [List.take_of_length_le (by omega)])
      refine call_pu (v := .int .u64 (Bx.num (l.drop 28))) (fun β w' hs => by
        have h := pu_of (num_c w' (cutA A c 28 1) (l.drop 28) (c - 28) (hrd w' (hs.get 1 rfl)) (by rw [lim_eq]; omega))
        rw [hd, numB_num, Nat.mod_eq_of_lt (by omega)] at h
        exact h) ?_
      refine ⟨(Bx.num (l.drop 28) : Int), wrap_i64 (by omega) (by omega), ?_⟩
      intro β w' hs
      refine hs.fin [] ⟨?_, rfl⟩
      unfold looksV
      rw [hlk]
      rfl
    · exact none_ (by unfold Bx.looks; rw [if_neg (fun q => hf q.2)]) _ _ _
  · exact ⟨Sub.refl, Sub.refl, none_ (by unfold Bx.looks; rw [if_neg (fun q => h32 (by have := q.1; omega))]) _ _ _⟩
end Go.Proofs.YtoifclfanabalaaGreatDoor.Sx

/- The reference's terms: lists of numbers compared, terms compared. -/
namespace Go.Proofs.YtoifclfanabalaaGreatDoor.Sx
open Go
attribute [local irreducible] Calls

end Go.Proofs.YtoifclfanabalaaGreatDoor.Sx

/- The reference's box in memory; a term's handle. -/
namespace Go.Proofs.YtoifclfanabalaaGreatDoor.Sx
open Go
attribute [local irreducible] Calls

end Go.Proofs.YtoifclfanabalaaGreatDoor.Sx

/- The reference's box: hashes, sums with a key, stretched passwords. -/
namespace Go.Proofs.YtoifclfanabalaaGreatDoor.Sx
open Go
attribute [local irreducible] Calls

end Go.Proofs.YtoifclfanabalaaGreatDoor.Sx

/- The reference's box: a tag, opened. -/
namespace Go.Proofs.YtoifclfanabalaaGreatDoor.Sx
open Go
attribute [local irreducible] Calls

end Go.Proofs.YtoifclfanabalaaGreatDoor.Sx

/- The reference's box: two tags, turned. -/
namespace Go.Proofs.YtoifclfanabalaaGreatDoor.Sx
open Go
attribute [local irreducible] Calls

/-- The numbers up to k that stand in just one of two lists. -/
def symL (l1 l2 : List Nat) (k : Nat) : List Nat := (List.range' 1 k).filter fun n => decide (n ∈ l1) != decide (n ∈ l2)
theorem symL_len (l1 l2 : List Nat) (k : Nat) : (symL l1 l2 k).length ≤ k := by
  have h := List.length_filter_le (fun n => decide (n ∈ l1) != decide (n ∈ l2)) (List.range' 1 k)
  rw [List.length_range'] at h
  exact h
theorem symL_mix {l1 l2 : List Nat} {N : Nat} (d1 : l1.Nodup) (d2 : l2.Nodup) (h1 : ∀ n ∈ l1, 1 ≤ n ∧ n ≤ N) (h2 : ∀ n ∈ l2, 1 ≤ n ∧ n ≤ N) : symL l1 l2 N = mixL l1 l2 := by
  have hp : (symL l1 l2 N).Perm (notIn l1 l2 ++ notIn l2 l1) := by
    refine (List.perm_ext_iff_of_nodup ?_ ?_).2 (fun n => ?_)
    · exact List.Nodup.sublist List.filter_sublist (List.nodup_range' 1)
    · refine List.nodup_append.2 ⟨List.Nodup.sublist List.filter_sublist d1, List.Nodup.sublist List.filter_sublist d2, ?_⟩
      intro x hx y hy q
      subst q
      have a := (List.mem_filter.1 hx).2
      have b := (List.mem_filter.1 hy).1
      simp [b] at a
    · simp only [symL, notIn, List.mem_filter, List.mem_append, List.mem_range'_1]
      have k1 := h1 n
      have k2 := h2 n
      by_cases a : n ∈ l1 <;> by_cases b : n ∈ l2 <;> simp [a, b]
      · have := k1 a; omega
      · have := k2 b; omega
  have hs : (mixL l1 l2).Perm (notIn l1 l2 ++ notIn l2 l1) := List.mergeSort_perm _ _
  refine List.Perm.eq_of_pairwise (le := fun a b => a ≤ b) (fun a b _ _ p q => Nat.le_antisymm p q) ?_ ?_ (hp.trans hs.symm)
  · exact ((List.pairwise_lt_range' 1).sublist List.filter_sublist).imp (fun h => Nat.le_of_lt h)
  · have h := List.pairwise_mergeSort (le := fun x y : Nat => decide (x ≤ y)) (by simp only [decide_eq_true_eq]; omega) (by simp only [Bool.or_eq_true, decide_eq_true_eq]; omega) (notIn l1 l2 ++ notIn l2 l1)
    exact h.imp (fun h => of_decide_eq_true h)
theorem Con.grow {P : Program} {k : FuncId} {args : Array Value} {w : World} {Gs Gs' : List Fact} {R : Value → List Fact → Prop} (hsub : ∀ k, Un Gs k → Un Gs' k) (h : Con P k args w Gs R) : Con P k args w Gs' R :=
  Calls.mono h fun _ _ ⟨v, he, Fs, hR, hc, hm, ho, hD⟩ => ⟨v, he, Fs, hR, hc.mono (fun i _ => hsub i), hm, ho, fun f hf k hk => (hD f hf k hk).imp_left (hsub k)⟩
/-- What a tag that is opened has. -/
def OkN (B : Bx.Box) (l : List Nat) (m : List UInt8) : Prop := OkS l m ∧ l.Nodup ∧ ∀ n ∈ l, 1 ≤ n ∧ n ≤ B.L.length
end Go.Proofs.YtoifclfanabalaaGreatDoor.Sx

/- What a box holds, plainly: tags that are opened have one form; turned, they have it still. -/
namespace Go.Proofs.YtoifclfanabalaaGreatDoor.Sx
open Go
attribute [local irreducible] Calls

/-- A sum that may be turned. -/
structure Nf (B : Bx.Box) (l : List Nat) (m : List UInt8) : Prop where
  mask : m.length = 32
  sorted : l.Pairwise (· < ·)
  nums : ∀ n ∈ l, 1 ≤ n ∧ n ≤ B.L.length
  base : ∀ n ∈ l, ∀ u, B.L[n - 1]? = some u → u.kind ≠ 4
structure K4 (B : Bx.Box) (t : Bx.Term) : Prop where
  nf : Nf B t.list t.mask
  form : t = turnT t.list t.mask
  one : ¬ (t.list.length = 1 ∧ t.mask = Bx.noughts)
  raw : ¬ (t.list = [] ∧ ¬ t.mask.take 28 = Bx.front)
structure BInv (B : Bx.Box) : Prop where
  sz : ∀ t ∈ B.L, TSz t
  nodup : B.L.Nodup
  k4 : ∀ t ∈ B.L, t.kind = 4 → K4 B t
  plain : B.sym = false → B.L = []
  len : B.L.length ≤ 4096
structure Ext (B B' : Bx.Box) : Prop where
  sym : B'.sym = B.sym
  full : B'.full = B.full
  len : B'.L.length ≤ B.L.length + 1
  inv : BInv B'
  mono : ∀ h r, B.opens h = some r → B'.opens h = some r
theorem Ext.refl {B : Bx.Box} (h : BInv B) : Ext B B := ⟨rfl, rfl, Nat.le_succ _, h, fun _ _ h => h⟩
theorem Nf.grow {B : Bx.Box} {l : List Nat} {m : List UInt8} (t : Bx.Term) (h : Nf B l m) : Nf { B with L := B.L ++ [t] } l m := by
  refine ⟨h.mask, h.sorted, fun n hn => ?_, fun n hn u hu => ?_⟩
  · have := h.nums n hn
    simp only [List.length_append, List.length_cons, List.length_nil]
    omega
  · have := h.nums n hn
    refine h.base n hn u ?_
    simp only at hu
    rw [List.getElem?_append_left (by omega)] at hu
    exact hu
theorem Nf.ok {B : Bx.Box} {l : List Nat} {m : List UInt8} (hi : BInv B) (h : Nf B l m) : OkN B l m := by
  have hnd : l.Nodup := h.sorted.imp (fun q => Nat.ne_of_lt q)
  refine ⟨⟨?_, fun n hn => ?_, h.mask⟩, hnd, h.nums⟩
  · have e := symL_mix (l2 := []) hnd List.nodup_nil h.nums (fun n hn => (by cases hn))
    have e2 : (mixL l []).length = l.length := by
      rw [mixL, sortN_len]
      have e3 : notIn l [] = l := List.filter_eq_self.2 (fun a _ => by simp)
      rw [e3]
      simp [notIn]
    have := symL_len l [] B.L.length
    rw [e, e2] at this
    have := hi.len
    omega
  · have := h.nums n hn
    have := hi.len
    omega
theorem opens_grow {B : Bx.Box} {t : Bx.Term} {h : List UInt8} {r : List Nat × List UInt8} (h0 : B.opens h = some r) : ({ B with L := B.L ++ [t] } : Bx.Box).opens h = some r := by
  unfold Bx.Box.opens at h0 ⊢
  split at h0
  · rename_i h32
    rw [if_pos h32]
    split at h0
    · rename_i hs
      rw [if_pos hs]
      split at h0
      · cases h0
      · rename_i hn
        have hn' : ¬ (Bx.num (h.drop 28) < 1 ∨ (B.L ++ [t]).length < Bx.num (h.drop 28)) := by
          rw [List.length_append]
          omega
        rw [if_neg hn']
        simp only
        rw [List.getElem?_append_left (by omega)]
        exact h0
    · rename_i hs
      rw [if_neg hs]
      exact h0
  · cases h0
end Go.Proofs.YtoifclfanabalaaGreatDoor.Sx

/- A sum's one tag. -/
namespace Go.Proofs.YtoifclfanabalaaGreatDoor.Sx
open Go
attribute [local irreducible] Calls

theorem K4.grow {B : Bx.Box} {t : Bx.Term} (u : Bx.Term) (h : K4 B t) : K4 { B with L := B.L ++ [u] } t := ⟨h.nf.grow u, h.form, h.one, h.raw⟩
theorem tag_ext {B : Bx.Box} (hi : BInv B) (hs : B.sym = true) (hl : B.L.length < 4096) {t : Bx.Term} (hz : TSz t) (h4 : t.kind = 4 → K4 B t) : Ext B (B.tag t).2 ∧ ∃ k, (B.tag t).1 = Bx.handle (k + 1) ∧ (B.tag t).2.L[k]? = some t := by
  unfold Bx.Box.tag
  cases hp : Bx.place t B.L with
  | some i => exact ⟨Ext.refl hi, i, rfl, Bx.place_some hp⟩
  | none =>
    simp only
    rw [if_neg (by omega)]
    refine ⟨⟨rfl, rfl, by simp, ⟨fun u hu => ?_, ?_, fun u hu hk => ?_, fun q => ?_, ?_⟩, fun h r q => opens_grow q⟩, B.L.length, rfl, by simp⟩
    · rcases List.mem_append.1 hu with hu | hu
      · exact hi.sz u hu
      · obtain rfl := List.mem_singleton.1 hu
        exact hz
    · refine List.nodup_append.2 ⟨hi.nodup, List.nodup_cons.2 ⟨fun q => (by cases q), List.nodup_nil⟩, fun a ha b hb q => ?_⟩
      obtain rfl := List.mem_singleton.1 hb
      exact Bx.place_none hp (q ▸ ha)
    · rcases List.mem_append.1 hu with hu | hu
      · exact (hi.k4 u hu hk).grow t
      · obtain rfl := List.mem_singleton.1 hu
        exact (h4 hk).grow u
    · rw [show ({ B with L := B.L ++ [t] } : Bx.Box).sym = B.sym from rfl, hs] at q
      cases q
    · simp only [List.length_append, List.length_cons, List.length_nil]
      omega
theorem mem_mix {l1 l2 : List Nat} {n : Nat} (h : n ∈ mixL l1 l2) : n ∈ l1 ∨ n ∈ l2 := by
  have h3 : n ∈ notIn l1 l2 ++ notIn l2 l1 := (List.mergeSort_perm _ _).mem_iff.1 h
  rcases List.mem_append.1 h3 with q | q
  · exact .inl (List.mem_filter.1 q).1
  · exact .inr (List.mem_filter.1 q).1
theorem Nf.mix {B : Bx.Box} {l1 l2 : List Nat} {m1 m2 : List UInt8} (h1 : Nf B l1 m1) (h2 : Nf B l2 m2) : Nf B (mixL l1 l2) (Bx.xorB m1 m2) := by
  have d1 : l1.Nodup := h1.sorted.imp (fun q => Nat.ne_of_lt q)
  have d2 : l2.Nodup := h2.sorted.imp (fun q => Nat.ne_of_lt q)
  refine ⟨by rw [xorB_len, h1.mask, h2.mask]; exact Nat.min_self _, ?_, fun n hn => ?_, fun n hn => ?_⟩
  · rw [← symL_mix d1 d2 h1.nums h2.nums]
    exact (List.pairwise_lt_range' 1).sublist List.filter_sublist
  · rcases mem_mix hn with q | q
    · exact h1.nums n q
    · exact h2.nums n q
  · rcases mem_mix hn with q | q
    · exact h1.base n q
    · exact h2.base n q
end Go.Proofs.YtoifclfanabalaaGreatDoor.Sx

/- What is found in a text: plainly; a set's keys, sorted. -/
namespace Go.Proofs.YtoifclfanabalaaGreatDoor.Sx
open Go
attribute [local irreducible] Calls

def setPut (l : List Nat) (n : Nat) : List Nat := if n ∈ l then l else l ++ [n]
/-- All numbers that are found, as they come. -/
def numsL (t : List UInt8) : List Nat := (scan t 0).map (·.2)
def foundL (t : List UInt8) : List Nat := numsL t ++ (runsA t).flatMap fun s => (readL s).flatMap numsL
def foundS (t : List UInt8) : List Nat := sortN ((foundL t).foldl setPut [])
/-- A set of numbers. -/
def setM (l : List Nat) : MLI := l.map fun n : Nat => (((n : Nat) : Int), Value.agg #[])
theorem setM_put : ∀ (l : List Nat) (n : Nat), iput (setM l) (n : Int) (Value.agg #[]) = setM (setPut l n)
  | [], n => rfl
  | k :: r, n => by
    have ih := setM_put r n
    show (if (k : Int) = (n : Int) then _ else _) = _
    by_cases h : k = n
    · subst h
      rw [if_pos rfl]
      unfold setPut
      rw [if_pos (List.mem_cons_self ..)]
      rfl
    · rw [if_neg (fun q => h (Int.ofNat_inj.1 q)), show iput (r.map fun n : Nat => (((n : Nat) : Int), Value.agg #[])) (n : Int) (Value.agg #[]) = setM (setPut r n) from ih]
      unfold setPut
      by_cases h2 : n ∈ r
      · rw [if_pos h2, if_pos (List.mem_cons_of_mem _ h2)]
        rfl
      · rw [if_neg h2, if_neg (fun q => (List.mem_cons.1 q).elim (fun e => h e.symm) h2)]
        rfl
theorem sortN_perm {l m : List Nat} (h : l.Perm m) : sortN l = sortN m := by
  have hp : ∀ l : List Nat, (sortN l).Pairwise (fun a b => a ≤ b) := fun l =>
    (List.pairwise_mergeSort (le := fun x y => decide (x ≤ y)) (fun a b c p q => by simp only [decide_eq_true_eq] at *; omega) (fun a b => by simp only [Bool.or_eq_true, decide_eq_true_eq]; omega) l).imp (fun q => of_decide_eq_true q)
  exact List.Perm.eq_of_pairwise (le := fun a b => a ≤ b) (fun a b _ _ p q => Nat.le_antisymm p q) (hp l) (hp m) ((List.mergeSort_perm _ _).trans (h.trans (List.mergeSort_perm _ _).symm))
theorem nats_of {xs : List Int} {l : List Nat} (h : xs.Perm ((setM l).map (·.1))) : ∃ ns : List Nat, xs = ns.map Int.ofNat ∧ ns.Perm l := by
  have e : (setM l).map (·.1) = l.map Int.ofNat := by
    unfold setM
    rw [List.map_map]
    rfl
  rw [e] at h
  refine ⟨xs.map Int.toNat, ?_, ?_⟩
  · rw [List.map_map]
    refine (List.map_id xs).symm.trans (List.map_congr_left fun x hx => ?_)
    obtain ⟨n, _, rfl⟩ := List.mem_map.1 (h.mem_iff.1 hx)
    rfl
  · have := h.map Int.toNat
    rw [List.map_map, show (Int.toNat ∘ Int.ofNat) = id from rfl, List.map_id] at this
    exact this
theorem jrow_i (A : Option Addr) (ns : List Nat) (c : Nat) : jrowF A (ns.map Int.ofNat) c = irowF A ns c := by
  unfold jrowF irowF
  rw [List.length_map]
  congr 1
  simp [ints]
theorem sortedJ_c (w : World) (bx b : Nat) (l : List Nat) (hn : l.length ≤ 1000000) (hm : Mem w [bkF bx ty_map_int_struct [.map (some b)], mapIF .i64 b (setM l)]) :
    Con Tryz.prog n_slices_Sorted_int #[.func (.func n_maps_Keys_map_int_struct_int_struct_1) #[] #[.pointer (some ⟨bx, 0, none⟩)]] w [bkF bx ty_map_int_struct [.map (some b)], mapIF .i64 b (setM l)]
      fun v Fs => ∃ A c, v = .slice A (sortN l).length c ∧ Fs = [irowF A (sortN l) c, mapIF .i64 b (setM l)] := by
  have g := good_slices_Sorted_int w (Un [bkF bx ty_map_int_struct [.map (some b)], mapIF .i64 b (setM l)])
  have hs0 : Sat (cx_slices_Sorted_int w (Un [bkF bx ty_map_int_struct [.map (some b)], mapIF .i64 b (setM l)])) Va.z 0 [] [bkF bx ty_map_int_struct [.map (some b)], mapIF .i64 b (setM l)] w := hm.sat0 rfl (fun f hf _ k hk => ⟨f, hf, hk⟩)
  refine con_of_sx (cx := cx_slices_Sorted_int w (Un [bkF bx ty_map_int_struct [.map (some b)], mapIF .i64 b (setM l)])) g b_slices_Sorted_int rfl rfl (β := Va.z) [.c (.v (.func (.func n_maps_Keys_map_int_struct_int_struct_1) #[] #[.pointer (some ⟨bx, 0, none⟩)]))] 0 [] _ rfl rfl hs0 ?_
  refine call_con [0, 1] (R := fun v Fs => ∃ A c xs, v = .slice A (List.length xs) c ∧ List.Perm xs (List.map (fun q : Int × Value => q.1) (setM l)) ∧ xs.length ≤ (setM l).length ∧ (0 < xs.length → ∃ ad, A = some ad) ∧ Fs = [jrowF A xs c, mapIF .i64 b (setM l)]) (hown := ⟨rfl, rfl, trivial⟩) (fun β w' hs => collectJ_c w' n_maps_Keys_map_int_struct_int_struct_1 bx ty_map_int_struct [.map (some b)] (mapIF .i64 b (setM l)) (mapIF .i64 b (setM l)) (setM l).length (fun xs => List.Perm xs (List.map (fun q : Int × Value => q.1) (setM l))) (by kernel_rfl) rfl rfl (by simpa [setM] using hn) (keysJ_gives bx b (setM l)) (hs.mem.take (js := [0, 1]) rfl)) ?_
  rintro v Fs ⟨A, c, xs, rfl, hP, hlen, hA, rfl⟩
  obtain ⟨ns, rfl, hns⟩ := nats_of hP
  rw [jrow_i, List.length_map]
  refine call_con [0] (fun β w' hs => sort_c w' A ns c (hs.mem.take (js := [0]) rfl) (by rw [hns.length_eq]; omega)) ?_
  rintro v Fs ⟨rfl, rfl⟩
  intro β w' hs
  have e1 : (sortN ns) = sortN l := sortN_perm hns
  have e2 : ns.length = (sortN l).length := by rw [sortN_len, hns.length_eq]
  rw [e1] at hs
  exact hs.fin [0, 1] ⟨A, c, by rw [← e2]; rfl, rfl⟩ rfl rfl rfl ⟨rfl, rfl, trivial⟩
theorem Sat.mapPutJ {cx : Cx} {β : Va} {n : Nat} {H : List Bk} {F : List Fact} {w : World} (h : Sat cx β n H F w) (g : Good cx) (j : Nat) {b : Nat} {l : MLI} {kk : IntKind} (hj : nth F j = some (mapIF kk b l)) {t kt et : TypeId} {i ik : TI} (s : Int) (v : Value) (hi : lk cx.tt t = some i := by rfl) (hd : i.desc = .map kt et := by rfl) (hik : lk cx.tt kt = some ik := by rfl) (hdk : ik.desc = .int kk := by rfl) :
    ∃ w', (Instr.mapUpdate t (.map (some b)) (.int kk s) v).run cx.P w = .ok () w' ∧ Sat cx β n H (putAt F j (mapIF kk b (iput l s v))) w' := by
  obtain ⟨o, e1, e2⟩ := run_putI (P := cx.P) ((g.ti hi).real (d := .map _ _) hd rfl) ((g.ti hik).real (d := .int kk) hdk rfl) (h.get j hj) s v
  exact ⟨_, e1, h.upd hj rfl (chg_put o) e2 (fun k hk => .inl hk)⟩
theorem Sat.mapPutJY {cx : Cx} {β : Va} {n : Nat} {H : List Bk} {F : List Fact} {w : World} (h : Sat cx β n H F w) (g : Good cx) (j : Nat) {b : Nat} {l : MLI} {kk : IntKind} (hj : nth F j = some (mapIF kk b l)) {t kt et : TypeId} {i ik : TI} (s : Int) (v : Value) (hi : lk cx.tt t = some i := by rfl) (hd : i.desc = .map kt et := by rfl) (hik : lk cx.tt kt = some ik := by rfl) (hdk : ik.desc = .int kk := by rfl) :
    ∃ (w' : World) (y : Nat), (Instr.mapUpdate t (.map (some b)) (.int kk s) v).run cx.P w = .ok () w' ∧ Sat cx β n H ((fun _ => putAt F j (mapIF kk b (iput l s v))) y) w' := by
  obtain ⟨w', e1, e2⟩ := h.mapPutJ g j hj s v hi hd hik hdk
  exact ⟨w', 0, e1, e2⟩
end Go.Proofs.YtoifclfanabalaaGreatDoor.Sx

/- Found: the program's. -/
namespace Go.Proofs.YtoifclfanabalaaGreatDoor.Sx
open Go
attribute [local irreducible] Calls

theorem decG_len : ∀ {vs : List Nat} {l : List UInt8}, decG vs = some l → l.length ≤ vs.length
  | [], l, h => by
    simp only [decG] at h
    obtain rfl := Option.some.inj h
    exact Nat.le_refl _
  | [a], l, h => by simp [decG] at h
  | [a, b], l, h => by
    simp only [decG] at h
    split at h
    · obtain rfl := Option.some.inj h
      simp
    · cases h
  | [a, b, c], l, h => by
    simp only [decG] at h
    split at h
    · obtain rfl := Option.some.inj h
      simp
    · cases h
  | a :: b :: c :: d :: r, l, h => by
    simp only [decG] at h
    cases hr : decG r with
    | none => rw [hr] at h; cases h
    | some m =>
      rw [hr] at h
      obtain rfl := Option.some.inj h
      have := decG_len hr
      simp only [List.length_cons]
      omega
theorem decS_len {url : Bool} {s l : List UInt8} (h : decS url s = some l) : l.length ≤ s.length := by
  unfold decS at h
  cases hv : valsA url s with
  | none => rw [hv] at h; cases h
  | some vs =>
    rw [hv] at h
    have h1 := decG_len (show decG vs = some l from h)
    rw [(valsA_len hv).1] at h1
    exact h1
theorem strip_len (s : List UInt8) : (strip s).length ≤ s.length := by
  unfold strip
  split
  · rw [List.length_dropLast]; omega
  · exact Nat.le_refl _
theorem decP_len {s l : List UInt8} (h : decP s = some l) : l.length ≤ s.length := by
  unfold decP at h
  split at h
  · cases h
  · split at h
    · cases h
    · have h1 := decS_len h
      rw [unpad_strip] at h1
      have h2 := strip_len (strip s)
      have h3 := strip_len s
      omega
theorem decU_len {s l : List UInt8} (h : decU s = some l) : l.length ≤ s.length := by
  unfold decU at h
  split at h
  · cases h
  · exact decS_len h
theorem unhexA_len : ∀ {s l : List UInt8}, unhexA s = some l → l.length ≤ s.length
  | [], l, h => by
    obtain rfl := Option.some.inj h
    exact Nat.le_refl _
  | [_], l, h => by cases h
  | a :: b :: r, l, h => by
    simp only [unhexA] at h
    cases ha : digA a with
    | none => rw [ha] at h; cases h
    | some x =>
      cases hb : digA b with
      | none => rw [ha, hb] at h; cases h
      | some y =>
        cases hr : unhexA r with
        | none => rw [ha, hb, hr] at h; cases h
        | some m =>
          rw [ha, hb, hr] at h
          obtain rfl := Option.some.inj h
          have := unhexA_len hr
          simp only [List.length_cons]
          omega
theorem readL_len {s q : List UInt8} (h : q ∈ readL s) : q.length ≤ s.length + 3 := by
  unfold readL at h
  rcases List.mem_append.1 h with h | h
  · have h1 := decP_len (Option.mem_toList.1 h)
    rw [List.length_append] at h1
    simp only [eqs, List.length_replicate] at h1
    omega
  · rcases List.mem_append.1 h with h | h
    · have h1 := decU_len (Option.mem_toList.1 h)
      omega
    · have h1 := unhexA_len (Option.mem_toList.1 h)
      omega
theorem runsF_len : ∀ (t a : List UInt8) {s : List UInt8}, s ∈ runsF a t → s.length ≤ a.length + t.length
  | [], a, s, h => by
    unfold runsF at h
    split at h
    · cases h
    · obtain rfl := List.mem_singleton.1 h
      exact Nat.le_add_right _ _
  | c :: r, a, s, h => by
    unfold runsF at h
    split at h
    · have := runsF_len r _ h
      rw [List.length_append] at this
      simp only [List.length_cons, List.length_nil] at this ⊢
      omega
    · split at h
      · have := runsF_len r _ h
        simp only [List.length_cons, List.length_nil] at this ⊢
        omega
      · rcases List.mem_cons.1 h with rfl | h
        · exact Nat.le_add_right _ _
        · have := runsF_len r _ h
          simp only [List.length_cons, List.length_nil] at this ⊢
          omega
theorem runsA_len {t s : List UInt8} (h : s ∈ runsA t) : s.length ≤ t.length := by
  have := runsF_len t [] h
  simpa using this
theorem scanL_len (t : List UInt8) : ∀ (k i : Nat), t.length + 32 - i ≤ k → (scan t i).length ≤ t.length - i := by
  intro k
  induction k with
  | zero => intro i h; rw [scan_end (by omega)]; exact Nat.zero_le _
  | succ k ih =>
    intro i h
    by_cases hi : i + 32 ≤ t.length
    · cases hh : hit t i with
      | none =>
        rw [scan_no hi hh]
        have := ih (i + 1) (by omega)
        omega
      | some n =>
        rw [scan_hit hi hh, List.length_cons]
        have := ih (i + 32) (by omega)
        omega
    · rw [scan_end hi]; exact Nat.zero_le _
theorem numsL_len (t : List UInt8) : (numsL t).length ≤ t.length := by
  unfold numsL
  rw [List.length_map]
  exact scanL_len t _ 0 (Nat.le_refl _)
theorem readN_len (s : List UInt8) : ((readL s).flatMap numsL).length ≤ 3 * s.length + 9 := by
  have h : ∀ q ∈ readL s, (numsL q).length ≤ s.length + 3 := fun q hq => Nat.le_trans (numsL_len q) (readL_len hq)
  unfold readL at h ⊢
  generalize decP (s ++ eqs ((4 - s.length % 4) % 4)) = o1 at h ⊢
  generalize decU s = o2 at h ⊢
  generalize unhexA s = o3 at h ⊢
  have g : ∀ o : Option (List UInt8), (∀ q ∈ o.toList, (numsL q).length ≤ s.length + 3) → (o.toList.flatMap numsL).length ≤ s.length + 3 := by
    intro o ho
    cases o with
    | none => exact Nat.zero_le _
    | some q =>
      have := ho q (by simp)
      simpa using this
  have g1 := g o1 (fun q hq => h q (List.mem_append_left _ hq))
  have g2 := g o2 (fun q hq => h q (List.mem_append_right _ (List.mem_append_left _ hq)))
  have g3 := g o3 (fun q hq => h q (List.mem_append_right _ (List.mem_append_right _ hq)))
  rw [List.flatMap_append, List.flatMap_append, List.length_append, List.length_append]
  omega
theorem runsF_sum : ∀ (t a : List UInt8), ((runsF a t).flatMap fun s => (readL s).flatMap numsL).length ≤ 3 * (a.length + t.length) + 9 * (t.length + 1)
  | [], a => by
    unfold runsF
    split
    · exact Nat.zero_le _
    · have := readN_len a
      simp only [List.flatMap_cons, List.flatMap_nil, List.append_nil, List.length_nil]
      omega
  | c :: r, a => by
    unfold runsF
    split
    · have := runsF_sum r (a ++ [c])
      rw [List.length_append] at this
      simp only [List.length_cons, List.length_nil] at this ⊢
      omega
    · split
      · have := runsF_sum r []
        simp only [List.length_cons, List.length_nil] at this ⊢
        omega
      · have := runsF_sum r []
        have h2 := readN_len a
        rw [List.flatMap_cons, List.length_append]
        simp only [List.length_cons, List.length_nil] at this ⊢
        omega
theorem foundL_len (t : List UInt8) : (foundL t).length ≤ 13 * t.length + 9 := by
  unfold foundL
  rw [List.length_append]
  have h1 := numsL_len t
  have h2 := runsF_sum t []
  unfold runsA
  simp only [List.length_nil] at h2
  omega
theorem setPut_len (l : List Nat) (n : Nat) : (setPut l n).length ≤ l.length + 1 := by
  unfold setPut
  split
  · exact Nat.le_succ _
  · rw [List.length_append]; exact Nat.le_refl _
theorem setPuts_len : ∀ (ns l : List Nat), (ns.foldl setPut l).length ≤ l.length + ns.length
  | [], l => Nat.le_refl _
  | n :: r, l => by
    have h1 := setPuts_len r (setPut l n)
    have h2 := setPut_len l n
    rw [List.foldl_cons, List.length_cons]
    omega
theorem Found_c (w : World) (A : Option Addr) (t : List UInt8) (c : Nat) (hl : t.length ≤ 70000) (hc : t.length ≤ c) (hm : Mem w [bsF A t]) :
    Con Tryz.prog n_knows_Found #[.slice A t.length c] w [] fun v Fs => ∃ A' c', v = .slice A' (foundS t).length c' ∧ (0 < (foundS t).length → ∃ ad, A' = some ad) ∧ Fs = [irowF A' (foundS t) c'] := by
  have g := good_knows_Found w (Un [])
  have hs0 : Sat (cx_knows_Found w (Un [])) Va.z 0 [] [bsF A t] w := hm.sat0 rfl (fun f hf ho k hk => by obtain rfl := List.mem_singleton.1 hf; cases ho)
  refine con_of_sx (cx := cx_knows_Found w (Un [])) g b_knows_Found rfl rfl (β := Va.z) [.c (.v (.slice A t.length c))] 0 [] _ rfl rfl hs0 ?_
  intro b1
  refine call_con [] (fun β w hs => handles_c w A t.length c) ?_
  rintro v Fs ⟨bx, rfl, rfl⟩
  refine range_rule (α := Hp) (ι := List Nat) (κ := Unit) g rfl (cv := [.pointer (some ⟨bx, 0, none⟩)]) rfl (by kernel_rfl) 1 (Nat.le_refl 1)
    (fun pre i => i = (pre.map (·.2)).foldl setPut []) (fun _ => [⟨0, ty_map_int_struct, [.v (.map (some b1))]⟩]) (fun i => [mapIF .i64 b1 (setM i)]) (fun i => ⟨rfl, trivial⟩)
    (fun e pre i => False) (fun i => []) (fun i => []) (fun i => trivial)
    [bkF bx ty_sl_uint8 [.slice A t.length c]] [bsF A t] [bsF A t] ⟨rfl, trivial⟩ (fun g h => by obtain rfl := List.mem_singleton.1 h; rfl) [] rfl (fun β w hs => ⟨β, Agr.refl _ _, ?_⟩) (fun _ => insH)
    (fun xs Fs' => xs = scan t 0 ∧ Fs' = []) (fun pre Fs' => (∃ r, scan t 0 = pre ++ r) ∧ Fs' = [])
    (fun l w f0 R J Jx hJ0 hJo hRo hY hm => (handles_it l w bx A t c f0 R J Jx hJ0 hJo hRo hY (by omega) hc hm).mono fun _ Fs h => h) ?_ ?_ ?_
  · exact (((hs.emptyJ 1 rfl).dupRo 2 rfl).perm [1, 0, 2, 3])
  · rintro i pre x args X W S l bs pn pn' hbs hpre ⟨rfl, rfl⟩
    refine ⟨_, rfl, ?_⟩
    refine ⟨_, fun _ => _, fun β w' hs => hs.mapPutJY (rcx_good g) 1 rfl (t := ty_map_int_struct) (x.2 : Int) (.agg #[]), fun _ => ?_⟩
    refine ⟨setPut i x.2, ?_, ?_⟩
    · show setPut i x.2 = ((pre ++ [x]).map (·.2)).foldl setPut []
      rw [List.map_append, List.foldl_append, ← hpre]
      rfl
    · simp only [← setM_put]
      exact Ent.mk' trivial rfl (fun β w hs => hs.perm [1])
  · rintro xs i Fs hpre ⟨hxs, rfl⟩
    have hi : i = (numsL t).foldl setPut [] := by rw [hpre, hxs]; rfl
    refine call_con [] (fun β w hs => Runs_c w A t.length c) ?_
    rintro v Fs ⟨bx, rfl, rfl⟩
    obtain ⟨L, hLd⟩ : ∃ L, (runsA t).map mkS = L := ⟨_, rfl⟩
    refine range_rule (α := ByteArray) (ι := List Nat) (κ := Unit) g rfl (cv := [.pointer (some ⟨bx, 0, none⟩)]) rfl (by kernel_rfl) 1 (Nat.le_refl 1)
      (fun pre i => pre = L.take pre.length ∧ i = (numsL t ++ (pre.map (·.data.toList)).flatMap fun s => (readL s).flatMap numsL).foldl setPut []) (fun _ => [⟨0, ty_map_int_struct, [.v (.map (some b1))]⟩]) (fun i => [mapIF .i64 b1 (setM i)]) (fun i => ⟨rfl, trivial⟩)
      (fun e pre i => False) (fun i => []) (fun i => []) (fun i => trivial)
      [bkF bx ty_sl_uint8 [.slice A t.length c]] [bsF A t] [] ⟨rfl, trivial⟩ (fun g h => by cases h) i ⟨rfl, by rw [hi]; simp⟩ (fun β w hs => ⟨β, Agr.refl _ _, hs.perm [0, 2, 1]⟩) (insS L)
      (fun xs Fs' => xs = L ∧ Fs' = []) (fun pre Fs' => Fs' = [])
      (fun l w f0 R J Jx hJ0 hJo hRo hY hm => by
        have h := runs_it l w bx A t c f0 R J Jx hJ0 hJo hRo (by rw [hLd]; exact hY) (by omega) hc hm
        rw [hLd] at h
        exact h) ?_ ?_ ?_
    · rintro i pre x args X W S lb bs pn pn' hbs ⟨hpre, hi⟩ ⟨rfl, rfl, hx⟩
      obtain ⟨s, hs, rfl⟩ : ∃ s, s ∈ runsA t ∧ x = mkS s := by
        have h := List.mem_of_getElem? hx
        rw [← hLd] at h
        obtain ⟨s, h1, h2⟩ := List.mem_map.1 h
        exact ⟨s, h1, h2.symm⟩
      have hsl := runsA_len hs
      refine ⟨_, rfl, ?_⟩
      refine call_con [] (fun β w hs => read_c w (mkS s)) ?_
      rintro v Fs ⟨by1, rfl, rfl⟩
      obtain ⟨B, hB⟩ : ∃ B, B = numsL t ++ (pre.map (·.data.toList)).flatMap fun s => (readL s).flatMap numsL := ⟨_, rfl⟩
      rw [← hB] at hi
      refine range_rule (α := List UInt8) (ι := List Nat) (κ := Unit) (rcx_good g) rfl (cv := [.pointer (some ⟨by1, 0, none⟩)]) rfl (by kernel_rfl) 1 (Nat.le_refl 1)
        (fun qs i => qs = (readL s).take qs.length ∧ i = (B ++ qs.flatMap numsL).foldl setPut []) (fun _ => [⟨0, ty_map_int_struct, [.v (.map (some b1))]⟩]) (fun i => [mapIF .i64 b1 (setM i)]) (fun i => ⟨rfl, trivial⟩)
        (fun e pre i => False) (fun i => []) (fun i => []) (fun i => trivial)
        [bkF by1 ty_string [.string (mkS s)]] [] [] ⟨rfl, trivial⟩ (fun g h => by cases h) i ⟨rfl, by rw [hi]; simp⟩ (fun β w hs => ⟨β, Agr.refl _ _, hs.perm [0, 2]⟩) (insRd (readL s))
        (fun xs Fs' => xs = readL s ∧ Fs' = []) (fun pre Fs' => Fs' = [])
        (fun l w f0 R J Jx hJ0 hJo hRo hY hm => (read_it l w by1 s f0 R J Jx hJ0 hJo hRo hY (by omega) hm).mono fun _ Fs h => h) ?_ ?_ ?_
      · rintro i2 qs q args X W S2 l2 bs2 pn2 pn3 hbs2 ⟨hqs, hi2⟩ ⟨A2, c2, rfl, rfl, hc2, hq⟩
        have hql := readL_len (List.mem_of_getElem? hq)
        refine ⟨_, rfl, ?_⟩
        refine call_con [] (fun β w hs => handles_c w A2 q.length c2) ?_
        rintro v Fs ⟨bx2, rfl, rfl⟩
        refine range_rule (α := Hp) (ι := List Nat) (κ := Unit) (rcx_good g) rfl (cv := [.pointer (some ⟨bx2, 0, none⟩)]) rfl (by kernel_rfl) 1 (Nat.le_refl 1)
          (fun hs i => i = ((B ++ qs.flatMap numsL) ++ hs.map (·.2)).foldl setPut []) (fun _ => [⟨0, ty_map_int_struct, [.v (.map (some b1))]⟩]) (fun i => [mapIF .i64 b1 (setM i)]) (fun i => ⟨rfl, trivial⟩)
          (fun e pre i => False) (fun i => []) (fun i => []) (fun i => trivial)
          [bkF bx2 ty_sl_uint8 [.slice A2 q.length c2]] [bsF A2 q] [] ⟨rfl, trivial⟩ (fun g h => by cases h) i2 (by rw [hi2]; simp) (fun β w hs => ⟨β, Agr.refl _ _, (hs.rdRow 1 rfl).perm [1, 0, 2]⟩) (fun _ => insH)
          (fun xs Fs' => xs = scan q 0 ∧ Fs' = []) (fun pre Fs' => (∃ r, scan q 0 = pre ++ r) ∧ Fs' = [])
          (fun l w f0 R J Jx hJ0 hJo hRo hY hm => (handles_it l w bx2 A2 q c2 f0 R J Jx hJ0 hJo hRo hY (by omega) hc2 hm).mono fun _ Fs h => h) ?_ ?_ ?_
        · rintro i3 pre3 x args X W S l bs pn pn' hbs hpre3 ⟨rfl, rfl⟩
          refine ⟨_, rfl, ?_⟩
          refine ⟨_, fun _ => _, fun β w' hs => hs.mapPutJY (rcx_good (rcx_good g)) 1 rfl (t := ty_map_int_struct) (x.2 : Int) (.agg #[]), fun _ => ?_⟩
          refine ⟨setPut i3 x.2, ?_, ?_⟩
          · show setPut i3 x.2 = ((B ++ qs.flatMap numsL) ++ (pre3 ++ [x]).map (·.2)).foldl setPut []
            rw [List.map_append, ← List.append_assoc, List.foldl_append, ← hpre3]
            rfl
          · simp only [← setM_put]
            exact Ent.mk' trivial rfl (fun β w hs => hs.perm [1])
        · rintro hs3 i3 Fs hpre3 ⟨hxs3, rfl⟩
          refine ⟨i3, ⟨?_, ?_⟩, Ent.mk' trivial rfl (fun β w hs => hs)⟩
          · show qs ++ [q] = (readL s).take (qs ++ [q]).length
            rw [List.length_append, List.length_singleton, List.take_add_one, hq, ← hqs]
            rfl
          · show i3 = (B ++ (qs ++ [q]).flatMap numsL).foldl setPut []
            rw [hpre3, hxs3, List.flatMap_append, ← List.append_assoc]
            simp [numsL]
        · rintro e pre j Fs ⟨⟩
      · rintro xs i2 Fs ⟨hqs, hi2⟩ ⟨hxs, rfl⟩
        refine ⟨i2, ⟨?_, ?_⟩, Ent.mk' trivial rfl (fun β w hs => hs)⟩
        · show pre ++ [mkS s] = L.take (pre ++ [mkS s]).length
          rw [List.length_append, List.length_singleton, List.take_add_one, hx, ← hpre]
          rfl
        · show i2 = (numsL t ++ ((pre ++ [mkS s]).map (·.data.toList)).flatMap fun s => (readL s).flatMap numsL).foldl setPut []
          rw [hi2, hxs, List.map_append, List.flatMap_append, ← List.append_assoc, ← hB]
          simp [mkS]
      · rintro e pre j Fs ⟨⟩
    · rintro xs i Fs ⟨hpre, hi⟩ ⟨hxs, rfl⟩
      have hiS : i = (foundL t).foldl setPut [] := by
        rw [hi, hxs, ← hLd, List.map_map, show ((fun b : ByteArray => b.data.toList) ∘ mkS) = id from funext fun l => by simp [mkS], List.map_id]
        rfl
      have hilen : i.length ≤ 1000000 := by
        rw [hiS]
        have h1 := setPuts_len (foundL t) []
        have h2 := foundL_len t
        simp only [List.length_nil] at h1
        omega
      refine call_con [] (fun β w' hs => keysJ_c w' (some b1)) ?_
      rintro v Fs ⟨bk, rfl, rfl⟩
      refine call_con [0, 1] (fun β w' hs => sortedJ_c w' bk b1 i hilen (hs.mem.take (js := [0, 1]) rfl)) ?_
      rintro v Fs ⟨A', c', rfl, rfl⟩
      have e1 : sortN i = foundS t := by rw [hiS]; rfl
      rw [e1]
      intro β w' hs
      have hA' : 0 < (foundS t).length → ∃ ad, A' = some ad := fun h => by
        obtain ⟨ad, h1, _⟩ := (row_rd (show (irowF A' (foundS t) c').p w' from hs.get 0 rfl)).2 h
        exact ⟨ad, h1⟩
      exact (hs.keepB (List.nil_sublist _)).fin [0] ⟨A', c', rfl, hA', rfl⟩
    · rintro e pre j Fs ⟨⟩
  · rintro e pre j Fs ⟨⟩
end Go.Proofs.YtoifclfanabalaaGreatDoor.Sx

/- Does a text hold another one? By the library's own contract, whatever its package's variable is. -/
namespace Go.Proofs.YtoifclfanabalaaGreatDoor.Sx
open Go
attribute [local irreducible] Calls

def holdsB (p s : List UInt8) : Bool := (List.range (p.length + 1)).any fun i => decide ((p.drop i).take s.length = s)
/-- The library's own variable holds some number. -/
def mlF : Fact where
  own := false
  D := fun k => k = 1
  p := fun w => ∃ m : Int, w.cell? ⟨1, 0, none⟩ = some (.int .i64 m)
  st := fun w w' hs ⟨m, h⟩ => ⟨m, by rw [← h]; exact World.cell?_of_block (hs _ rfl)⟩
theorem addr_add0 (a : Addr) : a.add 0 = a := by cases a; simp [Addr.add]
theorem bytesOf_nums (p : List UInt8) : _root_.Go.Lib.bytesOf (p.map fun x => (x.toNat : Int)) = p := by
  unfold _root_.Go.Lib.bytesOf
  rw [List.map_map]
  refine (List.map_congr_left fun x _ => ?_).trans (List.map_id p)
  show UInt8.ofNat (x.toNat : Int).toNat = x
  rw [Int.toNat_natCast]
  exact UInt8.ofNat_toNat
theorem occ_iff (p s : List UInt8) (i : Nat) : _root_.Go.Lib.occAt p s i = decide ((p.drop i).take s.length = s) := by
  unfold _root_.Go.Lib.occAt
  rw [Bool.eq_iff_iff, List.isPrefixOf_iff_prefix, decide_eq_true_iff, List.prefix_iff_eq_take]
  exact eq_comm
theorem contains_holds (p s : List UInt8) : _root_.Go.Lib.contains p s = holdsB p s := by
  rw [Bool.eq_iff_iff]
  unfold _root_.Go.Lib.contains holdsB
  rw [decide_eq_true_iff, List.any_eq_true]
  rcases _root_.Go.Lib.index_spec p s with ⟨h, hn⟩ | ⟨i, h, hi, ho, _⟩
  · constructor
    · intro q
      omega
    · rintro ⟨i, hi, hd⟩
      have := hn i (by have := List.mem_range.1 hi; omega)
      rw [occ_iff] at this
      rw [this] at hd
      cases hd
  · constructor
    · intro _
      exact ⟨i, List.mem_range.2 (by omega), by rw [← occ_iff]; exact ho⟩
    · intro _
      omega
theorem bs_nums {w : World} {ad : Addr} {p : List UInt8} (hp : Bs w (some ad) p) : ∀ i, i < p.length → w.cell? (ad.add i) = some (.int .u8 ((p.map fun x => (x.toNat : Int)).getD i 0)) := fun i hi => by
  obtain ⟨ad', q, h⟩ := hp.2 (Nat.lt_of_le_of_lt (Nat.zero_le _) hi)
  cases q
  refine h i _ ?_
  rw [List.getElem?_map, List.getElem?_eq_getElem hi, List.getD_eq_getElem?_getD, List.getElem?_map, List.getElem?_eq_getElem hi]
  rfl
theorem nums_rng (p : List UInt8) : ∀ x ∈ p.map (fun x => (x.toNat : Int)), 0 ≤ x ∧ x < 256 := fun x hx => by
  obtain ⟨y, _, rfl⟩ := List.mem_map.1 hx
  have := y.toNat_lt
  omega
theorem contains_c (w : World) (A B : Option Addr) (p s : List UInt8) (c d : Nat) (hp : Bs w A p) (hs : Bs w B s) (h0 : s ≠ []) (hpc : p.length ≤ c) (hpl : p.length ≤ 1000000) (hl : s.length ≤ 1000000) (hA : A = none → c = 0) (hm : mlF.p w) : Pu Tryz.prog n_bytes_Contains #[.slice A p.length c, .slice B s.length d] w (.bool (holdsB p s)) := by
  obtain ⟨m, hm⟩ := hm
  have hsp : 0 < s.length := List.length_pos_iff.2 h0
  obtain ⟨a2, rfl⟩ := Bs.addr hs hsp
  have hc2 := bs_nums hs
  cases A with
  | none =>
    obtain rfl : p = [] := by
      cases p with
      | nil => rfl
      | cons x r =>
        obtain ⟨ad, q, _⟩ := hp.2 (Nat.succ_pos _)
        cases q
    obtain rfl := hA rfl
    have hpl2 := _root_.Go.Lib.plain_of_cell (hc2 0 hsp)
    rw [addr_add0] at hpl2
    refine pu_of (Calls.mono (Tryz.bytes_Contains_nil (some a2) s.length d w (by omega) (fun _ => ⟨a2.block, a2.off, _, congrArg some hpl2, by have h := hc2 0 hsp; rw [addr_add0, hpl2] at h; exact h⟩)) ?_)
    rintro e w' ⟨rfl, rfl⟩
    refine ⟨_, rfl, ?_, Chg.refl _ _⟩
    rw [decide_eq_false (show ¬ s.length = 0 by omega)]
    have : holdsB [] s = false := by
      unfold holdsB
      rw [List.any_eq_false]
      intro i _ q
      have := of_decide_eq_true q
      simp at this
      exact h0 this
    rw [this]
  | some a1 =>
    refine pu_of (Calls.mono (Tryz.bytes_Contains_at a1 a2 p.length c s.length d (p.map fun x => (x.toNat : Int)) (s.map fun x => (x.toNat : Int)) m w (by simp) (by simp) (nums_rng p) (nums_rng s) (bs_nums hp) hc2 hpc (by omega) (by omega) hm) ?_)
    rintro e w' ⟨rfl, q, rfl⟩
    refine ⟨_, rfl, ?_, ⟨rfl, rfl, rfl, Nat.le_refl _, fun _ _ _ => rfl⟩⟩
    rw [bytesOf_nums, bytesOf_nums, contains_holds]
end Go.Proofs.YtoifclfanabalaaGreatDoor.Sx

/- A mind: what it is in memory; is a text plain? -/
namespace Go.Proofs.YtoifclfanabalaaGreatDoor.Sx
open Go
attribute [local irreducible] Calls

/-- Texts of one's own, to be read. -/
def secsF (P : Option Addr) (ps : List Part) : Fact where
  own := true
  D := (partF P ps).D
  p := fun w => (partF P ps).p w
  st := fun w w' hs h => (partF P ps).st w w' hs h
structure Md where
  b : Nat
  bx : Nat
  P : Option Addr
  ps : List Part
  c : Nat
  m : Nat
  seen : List Nat
def Md.vs (x : Md) : List Value := [.pointer (some ⟨x.bx, 0, none⟩), .slice x.P x.ps.length x.c, .map (some x.m)]
def mdFs (x : Md) : List Fact := [bkF x.b ty_knows_Mind x.vs, secsF x.P x.ps, mapIF .i64 x.m (setM x.seen)]
def plainB (ss : List (List UInt8)) (p : List UInt8) : Bool := !ss.any fun s => decide (s ≠ []) && holdsB p s
def Md.ss (x : Md) : List (List UInt8) := x.ps.map (·.2.1)
theorem cellM_bk {b ty : Nat} {cs : List Value} {w : World} (h : (bkF b ty cs).p w) {o : Nat} {v : Value} (ho : cs[o]? = some v) : w.cell? ⟨b, o, none⟩ = some v := by
  have hb : w.heap[b]? = some (.cells cs.toArray ty (0, 0)) := h
  rw [cell_of_row w b o _ _ _ hb]
  simpa using ho
theorem mdPlain_c (w : World) (x : Md) (A : Option Addr) (p : List UInt8) (c : Nat) (hA : A = none → c = 0) (hpc : p.length ≤ c) (hplen : p.length ≤ 1000000) (hsl : ∀ s ∈ x.ss, s.length ≤ 1000000) (hps : x.ps.length ≤ 1000000) (hm : Mem w (mdFs x ++ [bsF A p, mlF])) :
    Con Tryz.prog n_knows_Mind_plain #[.pointer (some ⟨x.b, 0, none⟩), .slice A p.length c] w (mdFs x) fun v Fs => v = .bool (plainB x.ss p) ∧ Fs = mdFs x := by
  have g := good_knows_Mind_plain w (Un (mdFs x))
  have hs0 : Sat (cx_knows_Mind_plain w (Un (mdFs x))) Va.z 0 [] (mdFs x ++ [bsF A p, mlF]) w := hm.sat0 rfl (fun f hf ho k hk => by
    rcases List.mem_append.1 hf with hf | hf
    · exact ⟨f, hf, hk⟩
    · simp only [List.mem_cons, List.not_mem_nil, or_false] at hf
      rcases hf with rfl | rfl <;> cases ho)
  refine con_of_sx (cx := cx_knows_Mind_plain w (Un (mdFs x))) g b_knows_Mind_plain rfl rfl (β := Va.z) [.c (.v (.pointer (some ⟨x.b, 0, none⟩))), .c (.v (.slice A p.length c))] 0 [] _ rfl rfl hs0 ?_
  have hml := maxLen_eq
  refine ⟨_, fun β w' hs => cellM_bk (hs.get 0 rfl) (o := 1) rfl, ?_⟩
  refine loop_rule (ι := Nat) 0 (fun j => [(1, .c (.v (.slice A p.length c))), (10, .c (.v (.slice x.P x.ps.length x.c))), (11, .c (.v (.int .i64 (x.ps.length : Int)))), (12, .c (.v (.int .i64 (j : Int))))]) (fun _ => []) (fun _ => mdFs x ++ [bsF A p, mlF])
    (fun j => j ≤ x.ps.length ∧ plainB (x.ss.take j) p = true) (fun j => x.ps.length - j) (0 : Nat) ⟨Nat.zero_le _, rfl⟩ (Ent.mk' ⟨rfl, rfl, rfl, rfl, trivial⟩ rfl (fun β w' hs => hs)) g ?_
  rintro j ⟨hj, hpl⟩
  refine BIf.dec (fun hlt => ?_) (fun hge => ?_)
  · have hlt0 : (j : Int) < (x.ps.length : Int) := hlt
    obtain ⟨q, hq, hqm⟩ := at_lt (show j < x.ps.length by omega)
    obtain ⟨ad, hP⟩ : ∃ ad, x.P = some ad := by
      obtain ⟨ad, h, _⟩ := ((show (partF x.P x.ps).p w from hm.fact (secsF x.P x.ps) (by simp [mdFs])).1).2 (by omega)
      exact ⟨ad, h⟩
    have hqs : x.ss[j]? = some q.2.1 := by unfold Md.ss; rw [List.getElem?_map, hq]; rfl
    have hqx : q.2.1 ∈ x.ss := List.mem_of_getElem? hqs
    have hpn : plainB (x.ss.take (j + 1)) p = !(decide (q.2.1 ≠ []) && holdsB p q.2.1) := by
      unfold plainB at hpl ⊢
      rw [Bool.not_eq_true'] at hpl
      rw [List.take_add_one, hqs, List.any_append, hpl, Bool.false_or]
      simp
    refine ⟨ad, j, hP, rfl, by omega, ?_⟩
    refine ⟨partV q, fun β w' hs => Rd.cell1 (show Rd 1 (some ad) x.ps.length (x.ps.map partV) w' from hP ▸ (show (secsF x.P x.ps).p w' from hs.get 1 rfl).1) (by rw [List.getElem?_map, hq]; rfl), ?_⟩
    obtain ⟨Q, s, sc⟩ := q
    simp only at hpn hqs hqx
    conv => whnf
    generalize hb : decide ((0 : Int) < (s.length : Int)) = bq
    cases bq
    · have hs0 : ¬ (0 : Int) < (s.length : Int) := of_decide_eq_false hb
      have hsn : s = [] := List.length_eq_zero_iff.1 (by omega)
      have hpt : plainB (x.ss.take (j + 1)) p = true := by rw [hpn, hsn]; rfl
      refine ⟨(((j + 1) : Nat) : Int), by rw [wrap_i64 (by omega) (by omega)]; rfl, ?_⟩
      exact ⟨j + 1, ⟨by omega, hpt⟩, by show x.ps.length - (j + 1) < x.ps.length - j; omega, Ent.mk' ⟨rfl, rfl, rfl, rfl, trivial⟩ rfl (fun β w' hs => hs)⟩
    · have hs0 : (0 : Int) < (s.length : Int) := of_decide_eq_true hb
      have hsn : s ≠ [] := fun e => by rw [e] at hs0; exact absurd hs0 (by decide)
      rw [decide_eq_true hsn, Bool.true_and] at hpn
      refine call_pu (fun β w' hs => contains_c w' A Q p s c sc (hs.get 3 rfl) ((show (secsF x.P x.ps).p w' from hs.get 1 rfl).2 _ hqm) hsn hpc hplen (hsl s hqx) hA (hs.get 4 rfl)) ?_
      cases hh : holdsB p s with
      | false =>
        rw [hh] at hpn
        refine ⟨(((j + 1) : Nat) : Int), by rw [wrap_i64 (by omega) (by omega)]; rfl, ?_⟩
        exact ⟨j + 1, ⟨by omega, hpn⟩, by show x.ps.length - (j + 1) < x.ps.length - j; omega, Ent.mk' ⟨rfl, rfl, rfl, rfl, trivial⟩ rfl (fun β w' hs => hs)⟩
      | true =>
        have hpf : plainB x.ss p = false := by
          unfold plainB
          rw [Bool.not_eq_false', List.any_eq_true]
          exact ⟨s, hqx, by rw [decide_eq_true hsn, hh]; rfl⟩
        intro β w' hs
        exact hs.fin [0, 1, 2] ⟨by rw [hpf]; rfl, rfl⟩ rfl rfl rfl ⟨rfl, rfl, rfl, trivial⟩
  · have hge0 : ¬ (j : Int) < (x.ps.length : Int) := hge
    have hall : x.ss.take j = x.ss := List.take_of_length_le (by unfold Md.ss; rw [List.length_map]; omega)
    rw [hall] at hpl
    intro β w' hs
    exact hs.fin [0, 1, 2] ⟨by rw [hpl]; rfl, rfl⟩ rfl rfl rfl ⟨rfl, rfl, rfl, trivial⟩
end Go.Proofs.YtoifclfanabalaaGreatDoor.Sx

/- A box that has told something is a box. -/
namespace Go.Proofs.YtoifclfanabalaaGreatDoor.Sx
open Go
attribute [local irreducible] Calls

theorem cutC (w : World) (A : Option Addr) (l : List UInt8) (c k : Nat) (hr : Bs w A l) (hc : l.length ≤ c) (hn : k ≤ lim) :
    Con Tryz.prog n_ostiaryref01_Cut #[.slice A l.length c, .int .i64 k] w [] fun v Fs => ∃ A' c', v = .slice A' (l.take k).length c' ∧ (l.take k).length ≤ c' ∧ c' ≤ maxLen ∧ Fs = [browF ty_uint8 A' (l.take k) c'] := con_row (cut_c w A l c k hr hc hn)
theorem cut_D {A : Option Addr} {l m : List UInt8} {c i k : Nat} (hm : m.length ≤ l.length) (h : (bsF (cutA A c i 1) m).D k) : (bsF A l).D k := by
  obtain ⟨h0, ad, hA, rfl⟩ := h
  have h0' : 0 < m.length * 1 := h0
  unfold cutA at hA
  split at hA
  · exact ⟨by show 0 < l.length * 1; omega, ad, hA, rfl⟩
  · cases A with
    | none => cases hA
    | some a =>
      have hA' : a.add (i * 1) = ad := by simpa using hA
      exact ⟨by show 0 < l.length * 1; omega, a, rfl, by rw [← hA']; unfold Addr.add; split <;> rfl⟩
/-- What a call of a box is told: new, open, and nothing else is shut. -/
def GoodT (B : Bx.Box) (r : List UInt8 × Bx.Box) : Prop := Ext B r.2 ∧ r.1.length = 32 ∧ ∃ q, r.2.opens r.1 = some q
theorem tag_good {B : Bx.Box} (hi : BInv B) (hs : B.sym = true) (hl : B.L.length < 4096) {t : Bx.Term} (hz : TSz t) (h4 : t.kind ≠ 4) : GoodT B (B.tag t) := by
  obtain ⟨he, k, hk, hkt⟩ := tag_ext hi hs hl hz (fun q => absurd q h4)
  refine ⟨he, by rw [hk]; rfl, ?_⟩
  rw [hk]
  have hlen := he.inv.len
  have hlt := (List.getElem?_eq_some_iff.1 hkt).1
  exact ⟨_, (opens_h (he.sym.trans hs) (by omega) (by omega) (by omega) hkt).trans (if_neg h4)⟩
theorem raw_good {B : Bx.Box} (hi : BInv B) (hs : B.sym = false) {h : List UInt8} (hh : h.length = 32) : GoodT B (h, B) :=
  ⟨Ext.refl hi, hh, _, Bx.opens_raw hh (fun q => by rw [hs] at q; cases q.1)⟩
theorem hash_good {B : Bx.Box} (hi : BInv B) (hl : B.L.length < 4096) {t : List UInt8} (ht : t.length ≤ 1000000) : GoodT B (hashB B t) := by
  cases hs : B.sym with
  | true => rw [show hashB B t = B.tag (hashT t) by unfold hashB; rw [hs]; rfl]; exact tag_good hi hs hl (hashT_sz ht) (by show ¬ 1 = 4; decide)
  | false => rw [show hashB B t = (Sha.sum t, B) by unfold hashB; rw [hs]; rfl]; exact raw_good hi hs (sum_len t)
theorem mac_good {B : Bx.Box} (hi : BInv B) (hl : B.L.length < 4096) {k t : List UInt8} (hk : k.length ≤ 1000000) (ht : t.length ≤ 1000000) : GoodT B (macB B k t) := by
  cases hs : B.sym with
  | true => rw [show macB B k t = B.tag (macT k t) by unfold macB; rw [hs]; rfl]; exact tag_good hi hs hl (macT_sz hk ht) (by show ¬ 2 = 4; decide)
  | false => rw [show macB B k t = (hmL k t, B) by unfold macB; rw [hs]; rfl]; exact raw_good hi hs (hmL_len k t)
end Go.Proofs.YtoifclfanabalaaGreatDoor.Sx

/- Is what stands between the handles plain? -/
namespace Go.Proofs.YtoifclfanabalaaGreatDoor.Sx
open Go
attribute [local irreducible] Calls

def insHs (t : List UInt8) (pre : List Hp) (x : Hp) (args : Array Value) (X : Fact) : Prop := insH x args X ∧ ∃ r, scan t 0 = pre ++ x :: r
theorem handlesP_it (l : Nat) (w : World) (bx : Nat) (A : Option Addr) (t : List UInt8) (c : Nat) (f0 R : Fact) (J Jx : List Hp → Fact → Prop) (hJ0 : J [] f0) (hJo : ∀ pre f, J pre f → f.own = true) (hRo : R.own = false) (hY : Yc Tryz.prog l J Jx R (insHs t))
    (hl : t.length ≤ 1000000) (hc : t.length ≤ c) (hm : Mem w (f0 :: R :: [bkF bx ty_sl_uint8 [.slice A t.length c], bsF A t])) :
    Con Tryz.prog n_box_Handles_1 #[.func (.yield l) #[] #[], .pointer (some ⟨bx, 0, none⟩)] w [f0, bkF bx ty_sl_uint8 [.slice A t.length c]] (fun _ Fs => handlesEnd t J Jx Fs) := by
  have g := good_box_Handles_1 w (Un [f0, bkF bx ty_sl_uint8 [.slice A t.length c]]) [bx]
  have hs0 : Sat (cx_box_Handles_1 w (Un [f0, bkF bx ty_sl_uint8 [.slice A t.length c]]) [bx]) (Va.of fun _ => bx) 1 [] (f0 :: R :: [bkF bx ty_sl_uint8 [.slice A t.length c], bsF A t]) w := by
    refine hm.sat rfl (fun f hf ho k hk => ?_) ⟨Nat.le_refl 1, fun i hi => by obtain rfl : i = 0 := Nat.lt_one_iff.1 hi; rfl⟩
    simp only [List.mem_cons, List.not_mem_nil, or_false] at hf
    rcases hf with rfl | rfl | rfl | rfl
    · exact ⟨_, by simp, hk⟩
    · rw [hRo] at ho; cases ho
    · exact ⟨_, by simp, hk⟩
    · cases ho
  have hs1 := hs0.toBk 2 rfl 0 Nat.zero_lt_one rfl
  refine con_of_sx (cx := cx_box_Handles_1 w (Un [f0, bkF bx ty_sl_uint8 [.slice A t.length c]]) [bx]) g b_box_Handles_1 rfl rfl (β := Va.of fun _ => bx) [.c (.v (.func (.yield l) #[] #[])), .c (.p 0 0)] 1 _ _ rfl rfl hs1 ?_
  refine loop_rule (ι := List Hp × Nat × Fact) 1 (fun i => [(0, .c (.v (.func (.yield l) #[] #[]))), (1, .c (.p 0 0)), (3, .c (.v (.int .i64 (i.2.1 : Int))))]) (fun _ => [⟨0, ty_sl_uint8, [.v (.slice A t.length c)]⟩]) (fun i => [i.2.2, R, bsF A t])
    (fun i => J i.1 i.2.2 ∧ scan t 0 = i.1 ++ scan t i.2.1 ∧ i.2.1 ≤ t.length + 32) (fun i => t.length + 32 - i.2.1) ([], 0, f0) ⟨hJ0, rfl, Nat.zero_le _⟩ (Ent.same ⟨rfl, rfl, rfl, trivial⟩ rfl) g ?_
  rintro ⟨pre, i, f⟩ ⟨hJ, hsc, hi⟩
  simp only at hJ hsc hi
  have hfo := hJo _ _ hJ
  simp only
  refine ⟨((i + 32 : Nat) : Int), by rw [wrap_i64 (by omega) (by omega)]; rfl, ?_⟩
  refine BIf.dec (fun hlt => ?_) (fun hge => ?_)
  · have hlt0 : ((i + 32 : Nat) : Int) ≤ t.length := hlt
    have hlt : i + 32 ≤ t.length := by omega
    refine ⟨((i + 32 : Nat) : Int), by rw [wrap_i64 (by omega) (by omega)]; rfl, ?_⟩
    refine ⟨c, i + 32, i, 32, c - i, _, rfl, rfl, rfl, Nat.le_refl _, by omega, by omega, by omega, rfl, rfl, ?_⟩
    obtain ⟨v, ok, hv, hhit⟩ := number_hit t i
    have e32 : ((t.drop i).take 32).length = 32 := by simp; omega
    refine call_pu (v := .tuple #[.int .i64 (v : Int), .bool ok]) (fun β w' hs => by
      have h := number_c w' (cutA A c i 1) ((t.drop i).take 32) (c - i) (Bs.cutB (hs.get 2 rfl) hc (by omega : i ≤ i + 32) hlt (by simp)) (by omega) (by omega)
      rw [hv, e32] at h
      exact h) ?_
    rcases hhit with ⟨rfl, hh⟩ | ⟨rfl, hh⟩
    · rw [scan_hit hlt hh] at hsc
      refine yield_ro (X := noF) (x := (i, v)) hY 0 1 rfl hJ hfo rfl hRo (by decide) (fun β => ⟨⟨rfl, rfl⟩, _, hsc⟩) rfl (fun β w _ => ⟨trivial, fun k hk => hk.elim, fun k _ h => h.elim⟩) ?_ ?_
      · intro f2 hfo2 hJ2
        refine ⟨((i + 31 : Nat) : Int), by rw [wrap_i64 (by omega) (by omega)]; rfl, ?_⟩
        refine ⟨((i + 32 : Nat) : Int), by rw [wrap_i64 (by omega) (by omega)]; omega, ?_⟩
        refine ⟨(pre ++ [(i, v)], i + 32, f2), ⟨hJ2, by show scan t 0 = pre ++ [(i, v)] ++ scan t (i + 32); rw [hsc]; simp, by show i + 32 ≤ _; omega⟩, by show t.length + 32 - (i + 32) < t.length + 32 - i; omega, Ent.same ⟨rfl, rfl, rfl, trivial⟩ rfl⟩
      · intro f2 hfo2 hJ2 β w' hs
        exact (hs.keepB (List.nil_sublist _)).fin [0] ⟨f2, [], rfl, .inr ⟨_, hJ2, ⟨scan t (i + 32), by rw [hsc]; simp⟩, rfl⟩⟩ rfl rfl rfl ⟨hfo2, trivial⟩
    · rw [scan_no hlt hh] at hsc
      refine ⟨((i + 1 : Nat) : Int), by rw [wrap_i64 (by omega) (by omega)]; rfl, ?_⟩
      refine ⟨(pre, i + 1, f), ⟨hJ, hsc, by show i + 1 ≤ _; omega⟩, by show t.length + 32 - (i + 1) < t.length + 32 - i; omega, Ent.same ⟨rfl, rfl, rfl, trivial⟩ rfl⟩
  · have hge0 : ¬ ((i + 32 : Nat) : Int) ≤ t.length := hge
    rw [scan_end (t := t) (i := i) (by omega), List.append_nil] at hsc
    intro β w' hs
    exact (hs.keepB (List.nil_sublist _)).fin [0] ⟨f, [], rfl, .inl ⟨pre, hJ, hsc.symm, rfl⟩⟩ rfl rfl rfl ⟨hfo, trivial⟩
/-- What stands between handles. -/
def gaps (p : List UInt8) : Nat → List Hp → List (List UInt8)
  | a, [] => [p.drop a]
  | a, h :: r => (p.drop a).take (h.1 - a) :: gaps p (h.1 + 32) r
def betweenB (ss : List (List UInt8)) (p : List UInt8) : Bool := (gaps p 0 (scan p 0)).all (plainB ss)
/-- Where the next piece begins. -/
def gapE : Nat → List Hp → Nat
  | a, [] => a
  | _, h :: r => gapE (h.1 + 32) r
def gapsP (p : List UInt8) : Nat → List Hp → List (List UInt8)
  | _, [] => []
  | a, h :: r => (p.drop a).take (h.1 - a) :: gapsP p (h.1 + 32) r
theorem gaps_app (p : List UInt8) : ∀ (pre rest : List Hp) (a : Nat), gaps p a (pre ++ rest) = gapsP p a pre ++ gaps p (gapE a pre) rest
  | [], _, _ => rfl
  | h :: r, rest, a => by
    show _ :: gaps p (h.1 + 32) (r ++ rest) = _ :: (gapsP p (h.1 + 32) r ++ _)
    rw [gaps_app p r rest (h.1 + 32)]
    rfl
theorem gapE_snoc : ∀ (pre : List Hp) (x : Hp) (a : Nat), gapE a (pre ++ [x]) = x.1 + 32
  | [], _, _ => rfl
  | h :: r, x, a => gapE_snoc r x (h.1 + 32)
theorem gapsP_snoc (p : List UInt8) : ∀ (pre : List Hp) (x : Hp) (a : Nat), gapsP p a (pre ++ [x]) = gapsP p a pre ++ [(p.drop (gapE a pre)).take (x.1 - gapE a pre)]
  | [], _, _ => rfl
  | h :: r, x, a => by
    show _ :: gapsP p (h.1 + 32) (r ++ [x]) = _ :: (gapsP p (h.1 + 32) r ++ _)
    rw [gapsP_snoc p r x (h.1 + 32)]
    rfl
theorem scan_pos (t : List UInt8) : ∀ (k i : Nat), t.length + 32 - i ≤ k → ∀ (a : Nat) (pre : List Hp) (x : Hp) (r : List Hp), a ≤ i → scan t i = pre ++ x :: r → gapE a pre ≤ x.1 ∧ x.1 + 32 ≤ t.length := by
  intro k
  induction k with
  | zero =>
    intro i h a pre x r ha he
    rw [scan_end (by omega)] at he
    cases pre <;> cases he
  | succ k ih =>
    intro i h a pre x r ha he
    by_cases hi : i + 32 ≤ t.length
    · cases hh : hit t i with
      | none =>
        rw [scan_no hi hh] at he
        exact ih (i + 1) (by omega) a pre x r (by omega) he
      | some n =>
        rw [scan_hit hi hh] at he
        cases pre with
        | nil =>
          obtain ⟨rfl, _⟩ := List.cons.inj he
          exact ⟨ha, hi⟩
        | cons y s =>
          obtain ⟨rfl, he2⟩ := List.cons.inj he
          exact ih (i + 32) (by omega) (i + 32) s x r (Nat.le_refl _) he2
    · rw [scan_end hi] at he
      cases pre <;> cases he
theorem gapE_le (p : List UInt8) : gapE 0 (scan p 0) ≤ p.length := by
  rcases List.eq_nil_or_concat (scan p 0) with h | ⟨ys, y, h⟩
  · rw [h]; exact Nat.zero_le _
  · rw [List.concat_eq_append] at h
    rw [h, gapE_snoc]
    exact (scan_pos p _ 0 (Nat.le_refl _) 0 ys y [] (Nat.le_refl _) h).2
theorem cut_nil {A : Option Addr} {c i s : Nat} (hA : A = none → c = 0) : cutA A c i s = none → c - i = 0 := by
  intro h
  unfold cutA at h
  split at h
  · omega
  · cases A with
    | none => have := hA rfl; omega
    | some ad => cases h
theorem between_c (w : World) (x : Md) (A : Option Addr) (p : List UInt8) (c : Nat) (hA : A = none → c = 0) (hpc : p.length ≤ c) (hl : p.length ≤ 70000) (hsl : ∀ s ∈ x.ss, s.length ≤ 1000000) (hps : x.ps.length ≤ 1000000) (hm : Mem w (mdFs x ++ [bsF A p, mlF])) :
    Con Tryz.prog n_knows_Mind_between #[.pointer (some ⟨x.b, 0, none⟩), .slice A p.length c] w (mdFs x) fun v Fs => v = .bool (betweenB x.ss p) ∧ Fs = mdFs x := by
  have g := good_knows_Mind_between w (Un (mdFs x))
  have hs0 : Sat (cx_knows_Mind_between w (Un (mdFs x))) Va.z 0 [] (mdFs x ++ [bsF A p, mlF]) w := hm.sat0 rfl (fun f hf ho k hk => by
    rcases List.mem_append.1 hf with hf | hf
    · exact ⟨f, hf, hk⟩
    · simp only [List.mem_cons, List.not_mem_nil, or_false] at hf
      rcases hf with rfl | rfl <;> cases ho)
  refine con_of_sx (cx := cx_knows_Mind_between w (Un (mdFs x))) g b_knows_Mind_between rfl rfl (β := Va.z) [.c (.v (.pointer (some ⟨x.b, 0, none⟩))), .c (.v (.slice A p.length c))] 0 [] _ rfl rfl hs0 ?_
  have hml := maxLen_eq
  refine call_con [] (fun β w hs => handles_c w A p.length c) ?_
  rintro v Fs ⟨bx, rfl, rfl⟩
  refine range_rule (α := Hp) (ι := Nat) (κ := Unit) g rfl (cv := [.pointer (some ⟨bx, 0, none⟩)]) rfl (by kernel_rfl) 4 (Nat.le_refl 4)
    (fun pre i => i = gapE 0 pre ∧ (gapsP p 0 pre).all (plainB x.ss) = true) (fun i => [⟨3, ty_int, [.v (.int .i64 (i : Int))]⟩, ⟨2, ty_bool, [.v (.bool false)]⟩, ⟨1, ty_sl_uint8, [.v (.slice A p.length c)]⟩, ⟨0, ty_ptr_knows_Mind, [.v (.pointer (some ⟨x.b, 0, none⟩))]⟩]) (fun _ => mdFs x) (fun i => ⟨rfl, rfl, rfl, trivial⟩)
    (fun e pre _ => e = .ret ∧ betweenB x.ss p = false) (fun _ => [⟨2, ty_bool, [.v (.bool false)]⟩]) (fun _ => mdFs x) (fun i => ⟨rfl, rfl, rfl, trivial⟩)
    [bkF bx ty_sl_uint8 [.slice A p.length c]] [bsF A p] [bsF A p, mlF] ⟨rfl, trivial⟩ (fun g h => by
      simp only [List.mem_cons, List.not_mem_nil, or_false] at h
      rcases h with rfl | rfl <;> rfl) (0 : Nat) ⟨rfl, rfl⟩ (fun β w hs => ⟨β, Agr.refl _ _, (hs.dupRo 4 rfl).perm [1, 0, 2, 3, 4, 5, 6]⟩) (insHs p)
    (fun xs Fs' => xs = scan p 0 ∧ Fs' = []) (fun pre Fs' => (∃ r, scan p 0 = pre ++ r) ∧ Fs' = [])
    (fun l w f0 R J Jx hJ0 hJo hRo hY hm => (handlesP_it l w bx A p c f0 R J Jx hJ0 hJo hRo hY (by omega) hpc hm).mono fun _ Fs h => h) ?_ ?_ ?_
  · rintro i pre h args X W S l bs pn pn' hbs ⟨hi, hall⟩ ⟨⟨rfl, rfl⟩, r, hsc⟩
    obtain ⟨hp1, hp2⟩ := scan_pos p _ 0 (Nat.le_refl _) 0 pre h r (Nat.le_refl _) hsc
    rw [← hi] at hp1
    refine ⟨_, rfl, ?_⟩
    refine draw_rule (rcx_good g) p_knows_Mind_between_4 (by kernel_rfl) [⟨3, ty_int, [.v (.int .i64 (i : Int))]⟩, ⟨2, ty_bool, [.v (.bool false)]⟩, ⟨1, ty_sl_uint8, [.v (.slice A p.length c)]⟩, ⟨0, ty_ptr_knows_Mind, [.v (.pointer (some ⟨x.b, 0, none⟩))]⟩] [] (Sub.of (List.Sublist.refl _) (List.nil_sublist _)) ?_
    refine ⟨c, h.1, i, h.1 - i, c - i, _, rfl, rfl, rfl, by omega, by omega, hp1, rfl, rfl, rfl, ?_⟩
    have hgm : (p.drop i).take (h.1 - i) ∈ gaps p 0 (scan p 0) := by
      rw [hsc, gaps_app, ← hi]
      exact List.mem_append_right _ (List.mem_cons_self ..)
    have hgl : ((p.drop i).take (h.1 - i)).length = h.1 - i := by rw [List.length_take, List.length_drop]; omega
    have hpn : betweenB x.ss p = true → plainB x.ss ((p.drop i).take (h.1 - i)) = true := fun q => List.all_eq_true.1 q _ hgm
    refine call_con [1, 2, 3] (R := fun v Fs => v = .bool (plainB x.ss ((p.drop i).take (h.1 - i))) ∧ Fs = mdFs x) (hown := ⟨rfl, rfl, rfl, trivial⟩) (fun β w' hs => by
      have h3 := hs.sub 4 rfl rfl (bsF (cutA A c i 1) ((p.drop i).take (h.1 - i))) rfl (Bs.cutB (hs.get 4 rfl) hpc hp1 (by omega) rfl) (fun k hk => cut_D (by rw [hgl]; omega) hk)
      have h4 := mdPlain_c w' x (cutA A c i 1) ((p.drop i).take (h.1 - i)) (c - i) (cut_nil hA) (by rw [hgl]; omega) (by rw [hgl]; omega) hsl hps (h3.mem.take (js := [2, 3, 4, 0, 6]) rfl)
      rw [hgl] at h4
      exact h4) ?_
    rintro v Fs ⟨rfl, rfl⟩
    refine ⟨subPerm [], ?_⟩
    cases hpl : plainB x.ss ((p.drop i).take (h.1 - i)) with
    | true =>
      refine ⟨(((h.1 + 32) : Nat) : Int), by rw [wrap_i64 (by omega) (by omega)]; rfl, ?_⟩
      refine ⟨h.1 + 32, ⟨(gapE_snoc pre h 0).symm, ?_⟩, Ent.mk' trivial rfl (fun β w hs => hs.perm [0, 1, 2])⟩
      rw [gapsP_snoc, List.all_append, show (gapsP p 0 pre).all (plainB x.ss) = true from hall, ← hi]
      simp [hpl]
    | false =>
      refine ⟨(), ⟨rfl, ?_⟩, Ent.mk' trivial rfl (fun β w hs => ((hs.keepB (List.Sublist.cons _ (List.Sublist.cons_cons _ (List.nil_sublist _)))).perm [0, 1, 2]).lower)⟩
      rcases hb : betweenB x.ss p with _ | _
      · rfl
      · rw [hpn hb] at hpl
        cases hpl
  · rintro xs i Fs ⟨hi, hall⟩ ⟨hxs, rfl⟩
    refine draw_rule g p_knows_Mind_between_7 (by kernel_rfl) [⟨3, ty_int, [.v (.int .i64 (i : Int))]⟩, ⟨1, ty_sl_uint8, [.v (.slice A p.length c)]⟩, ⟨0, ty_ptr_knows_Mind, [.v (.pointer (some ⟨x.b, 0, none⟩))]⟩] [] (Sub.of (List.Sublist.cons_cons _ (List.Sublist.cons _ (List.Sublist.refl _))) (List.nil_sublist _)) ?_
    have hil : i ≤ p.length := by
      rw [hi, hxs]
      exact gapE_le p
    refine ⟨c, p.length, i, p.length - i, c - i, _, rfl, rfl, rfl, by omega, by omega, hil, rfl, rfl, rfl, ?_⟩
    have hge : gaps p 0 (scan p 0) = gapsP p 0 xs ++ [p.drop i] := by
      have h := gaps_app p xs [] 0
      rw [List.append_nil, ← hi] at h
      rw [← hxs]
      exact h
    have hgl : (p.drop i).length = p.length - i := List.length_drop ..
    refine call_con [0, 1, 2] (R := fun v Fs => v = .bool (plainB x.ss (p.drop i)) ∧ Fs = mdFs x) (hown := ⟨rfl, rfl, rfl, trivial⟩) (fun β w' hs => by
      have h3 := hs.sub 3 rfl rfl (bsF (cutA A c i 1) (p.drop i)) rfl (Bs.cutB (hs.get 3 rfl) hpc hil (Nat.le_refl _) (List.take_of_length_le (by rw [hgl]; exact Nat.le_refl _))) (fun k hk => cut_D (by rw [hgl]; omega) hk)
      have h4 := mdPlain_c w' x (cutA A c i 1) (p.drop i) (c - i) (cut_nil hA) (by rw [hgl]; omega) (by rw [hgl]; omega) hsl hps (h3.mem.take (js := [1, 2, 3, 0, 5]) rfl)
      rw [hgl] at h4
      exact h4) ?_
    rintro v Fs ⟨rfl, rfl⟩
    have hbe : betweenB x.ss p = plainB x.ss (p.drop i) := by
      unfold betweenB
      rw [hge, List.all_append, show (gapsP p 0 xs).all (plainB x.ss) = true from hall]
      simp
    have hsb : ∀ {cx : Cx} {n : Nat} {F : List Fact} {a b2 c' d : Bk}, Sub cx n [a, b2, c', d] F [a, c', d] [] := fun {_ _ _ _ _ _ _} => Sub.of (List.Sublist.cons_cons _ (List.Sublist.cons _ (List.Sublist.refl _))) (List.nil_sublist _)
    refine ⟨hsb, ?_⟩
    refine ⟨hsb, ?_⟩
    intro β w' hs
    exact (hs.keepB (List.nil_sublist _)).fin [0, 1, 2] ⟨by rw [hbe]; rfl, rfl⟩ rfl rfl rfl ⟨rfl, rfl, rfl, trivial⟩
  · rintro e pre ⟨⟩ Fs ⟨rfl, hno⟩ ⟨_, rfl⟩
    intro β w' hs
    exact (hs.keepB (List.nil_sublist _)).fin [0, 1, 2] ⟨by rw [hno]; rfl, rfl⟩ rfl rfl rfl ⟨rfl, rfl, rfl, trivial⟩
end Go.Proofs.YtoifclfanabalaaGreatDoor.Sx

/- How many terms a box has. -/
namespace Go.Proofs.YtoifclfanabalaaGreatDoor.Sx
open Go
attribute [local irreducible] Calls

theorem lenX_c (w : World) (b : Nat) (B : Bx.Box) (y : Lay) (hb : (bxF b B y).p w) (hbD : ∀ k, (bxF b B y).D k → k < w.heap.size) : Pu Tryz.prog n_box_Box_Len #[ptrB b] w (.int .i64 (B.L.length : Int)) := by
  have g := good_box_Box_Len w (Un [])
  refine con_of_sx (cx := cx_box_Box_Len w (Un [])) g b_box_Box_Len rfl rfl (β := Va.z) [.c (.v (ptrB b))] 0 [] [oldF w] rfl rfl (old_sat rfl) ?_
  refine ⟨.slice y.A B.L.length y.c, fun β w' hs => box_cell (bx_bk (fact_old hb hbD (hs.get 0 rfl))) (o := 2) rfl, ?_⟩
  intro β w' hs
  exact hs.fin [] ⟨rfl, rfl⟩
end Go.Proofs.YtoifclfanabalaaGreatDoor.Sx

/- A mind is made; it sees. -/
namespace Go.Proofs.YtoifclfanabalaaGreatDoor.Sx
open Go
attribute [local irreducible] Calls

theorem See_c (w : World) (x : Md) (A : Option Addr) (t : List UInt8) (c : Nat) (hl : t.length ≤ 70000) (hc : t.length ≤ c) (hm : Mem w (mdFs x ++ [bsF A t])) :
    Con Tryz.prog n_knows_Mind_See #[.pointer (some ⟨x.b, 0, none⟩), .slice A t.length c] w (mdFs x) fun v Fs => v = .tuple #[] ∧ Fs = mdFs { x with seen := (foundS t).foldl setPut x.seen } := by
  have g := good_knows_Mind_See w (Un (mdFs x))
  have hs0 : Sat (cx_knows_Mind_See w (Un (mdFs x))) Va.z 0 [] (mdFs x ++ [bsF A t]) w := hm.sat0 rfl (fun f hf ho k hk => by
    rcases List.mem_append.1 hf with hf | hf
    · exact ⟨f, hf, hk⟩
    · obtain rfl := List.mem_singleton.1 hf; cases ho)
  refine con_of_sx (cx := cx_knows_Mind_See w (Un (mdFs x))) g b_knows_Mind_See rfl rfl (β := Va.z) [.c (.v (.pointer (some ⟨x.b, 0, none⟩))), .c (.v (.slice A t.length c))] 0 [] _ rfl rfl hs0 ?_
  have hml := maxLen_eq
  refine call_con [] (R := fun v Fs => ∃ A' c', v = .slice A' (foundS t).length c' ∧ (0 < (foundS t).length → ∃ ad, A' = some ad) ∧ Fs = [irowF A' (foundS t) c']) (fun β w' hs => Found_c w' A t c hl hc (hs.mem.take (js := [3]) rfl)) ?_
  rintro v Fs ⟨A', c', rfl, hA', rfl⟩
  obtain ⟨fs, hfs⟩ : ∃ fs, foundS t = fs := ⟨_, rfl⟩
  rw [hfs] at hA' ⊢
  have hfl : fs.length ≤ 1000000 := by
    rw [← hfs]
    unfold foundS
    rw [sortN_len]
    have h1 := setPuts_len (foundL t) []
    have h2 := foundL_len t
    simp only [List.length_nil] at h1
    omega
  refine loop_rule (ι := Nat × List Nat) 0 (fun j => [(0, .c (.v (.pointer (some ⟨x.b, 0, none⟩)))), (9, .c (.v (.slice A' fs.length c'))), (10, .c (.v (.int .i64 (fs.length : Int)))), (11, .c (.v (.int .i64 (j.1 : Int))))]) (fun _ => []) (fun j => irowF A' fs c' :: mdFs { x with seen := j.2 })
    (fun j => j.1 ≤ fs.length ∧ j.2 = (fs.take j.1).foldl setPut x.seen) (fun j => fs.length - j.1) (0, x.seen) ⟨Nat.zero_le _, rfl⟩ (Ent.mk' ⟨rfl, rfl, rfl, rfl, trivial⟩ rfl (fun β w' hs => hs.perm [0, 1, 2, 3])) g ?_
  rintro ⟨j, sn⟩ ⟨hj, hsn⟩
  simp only at hj hsn
  refine BIf.dec (fun hlt => ?_) (fun hge => ?_)
  · have hlt0 : (j : Int) < (fs.length : Int) := hlt
    obtain ⟨n, hn, -⟩ := at_lt (show j < fs.length by omega)
    obtain ⟨ad, rfl⟩ := hA' (by omega)
    refine ⟨ad, j, rfl, rfl, by omega, ?_⟩
    refine ⟨.int .i64 (n : Int), fun β w' hs => Rd.cell1 (row_rd (hs.get 0 rfl)) (by simp [ints, hn]), ?_⟩
    refine ⟨.map (some x.m), fun β w' hs => cellM_bk (hs.get 1 rfl) (o := 2) rfl, ?_⟩
    refine ⟨_, fun _ => _, fun β w' hs => hs.mapPutJY g 3 rfl (t := ty_map_int_struct) (n : Int) (.agg #[]), fun _ => ?_⟩
    refine ⟨((j + 1 : Nat) : Int), by rw [wrap_i64 (by omega) (by omega)]; rfl, ?_⟩
    refine ⟨(j + 1, setPut sn n), ⟨by show j + 1 ≤ _; omega, ?_⟩, by show fs.length - (j + 1) < fs.length - j; omega, ?_⟩
    · show setPut sn n = (fs.take (j + 1)).foldl setPut x.seen
      rw [List.take_add_one, hn, List.foldl_append, ← hsn]
      rfl
    · simp only [mdFs, ← setM_put]
      exact Ent.mk' ⟨rfl, rfl, rfl, rfl, trivial⟩ rfl (fun β w hs => hs.perm [0, 1, 2, 3])
  · have hge0 : ¬ (j : Int) < (fs.length : Int) := hge
    have ht : fs.take j = fs := List.take_of_length_le (by omega)
    rw [ht] at hsn
    intro β w' hs
    exact hs.fin [1, 2, 3] ⟨rfl, by rw [← hsn]; rfl⟩ rfl rfl rfl ⟨rfl, rfl, rfl, trivial⟩
end Go.Proofs.YtoifclfanabalaaGreatDoor.Sx

/- Bytes flipped. -/
namespace Go.Proofs.YtoifclfanabalaaGreatDoor.Sx
open Go
attribute [local irreducible] Calls

end Go.Proofs.YtoifclfanabalaaGreatDoor.Sx

/- The law's two boxes and the tags that they told: a tag picked. -/
namespace Go.Proofs.YtoifclfanabalaaGreatDoor.Sx
open Go
attribute [local irreducible] Calls

end Go.Proofs.YtoifclfanabalaaGreatDoor.Sx

/- The law's calls on both boxes. -/
namespace Go.Proofs.YtoifclfanabalaaGreatDoor.Sx
open Go
attribute [local irreducible] Calls

/-- A call of the script. -/
structure OpA where
  d : UInt8
  p : Int
  q : Int
  K : Option Addr
  key : List UInt8
  cK : Nat
  X : Option Addr
  text : List UInt8
  cX : Nat
  r : Int
  raw : Bool
def OpA.cells (o : OpA) : List Value := [.int .u8 o.d.toNat, .int .i64 o.p, .int .i64 o.q, .slice o.K o.key.length o.cK, .slice o.X o.text.length o.cX, .int .i64 o.r, .bool o.raw]
/-- What was told stays open. -/
structure TOk (B : Bx.Box) (ts : List Part) : Prop where
  inv : BInv B
  n : ts.length ≤ 1000
  tg : ∀ p ∈ ts, p.2.1.length = 32 ∧ ∃ r, B.opens p.2.1 = some r
structure Lo (B : Bx.Box) (y z : Lay) : Prop where
  y : y.ts.map (·.1) = B.L
  z : z.ts.map (·.1) = B.L
end Go.Proofs.YtoifclfanabalaaGreatDoor.Sx

/- BoxTurns. -/
namespace Go.Proofs.YtoifclfanabalaaGreatDoor.Sx
open Go
attribute [local irreducible] Calls

def OpA.ok (w : World) (o : OpA) : Prop := (Bs w o.K o.key ∧ o.key.length ≤ o.cK) ∧ (Bs w o.X o.text ∧ o.text.length ≤ o.cX)
/-- Where a script stands. -/
structure LS where
  k : Nat
  B : Bx.Box
  y : Lay
  z : Lay
  T : Option Addr
  c : Nat
  ts : List Part
structure LS.Ok (i : LS) (n m : Nat) : Prop where
  k : i.k ≤ n
  lo : Lo i.B i.y i.z
  ok : TOk i.B i.ts
  bl : i.B.L.length ≤ min i.k m
  tl : i.ts.length ≤ min i.k m
def LS.start (sym : Bool) (y0 : Lay) : LS := ⟨0, ⟨sym, false, []⟩, y0, ⟨none, 0, 0, []⟩, none, 0, []⟩
theorem LS.Ok.next {i : LS} {n m : Nat} (h : i.Ok n m) (hk : i.k < n) (hm : i.k < m) {B' : Bx.Box} {y z : Lay} {T : Option Addr} {c : Nat} {ts' : List Part} (he : Ext i.B B') (hl : Lo B' y z) (ho : TOk B' ts') (ht : ts'.length ≤ i.ts.length + 1) : (LS.mk (i.k + 1) B' y z T c ts').Ok n m := by
  have h1 := h.bl
  have h2 := h.tl
  have h3 := he.len
  exact ⟨hk, hl, ho, by show B'.L.length ≤ min (i.k + 1) m; omega, by show ts'.length ≤ min (i.k + 1) m; omega⟩
end Go.Proofs.YtoifclfanabalaaGreatDoor.Sx

/- The law's two boxes, compared: the program's small words on a box. -/
namespace Go.Proofs.YtoifclfanabalaaGreatDoor.Sx
open Go
attribute [local irreducible] Calls

theorem symX_c (w : World) (b : Nat) (B : Bx.Box) (y : Lay) (hb : (bxF b B y).p w) (hbD : ∀ k, (bxF b B y).D k → k < w.heap.size) : Pu Tryz.prog n_box_Box_Symbolic #[ptrB b] w (.bool B.sym) := by
  have g := good_box_Box_Symbolic w (Un [])
  refine con_of_sx (cx := cx_box_Box_Symbolic w (Un [])) g b_box_Box_Symbolic rfl rfl (β := Va.z) [.c (.v (ptrB b))] 0 [] [oldF w] rfl rfl (old_sat rfl) ?_
  refine ⟨.bool B.sym, fun β w' hs => box_cell (bx_bk (fact_old hb hbD (hs.get 0 rfl))) (o := 0) rfl, ?_⟩
  intro β w' hs
  exact hs.fin [] ⟨rfl, rfl⟩
end Go.Proofs.YtoifclfanabalaaGreatDoor.Sx

/- A mind is made. -/
namespace Go.Proofs.YtoifclfanabalaaGreatDoor.Sx
open Go
attribute [local irreducible] Calls

theorem bsD_brow {e : Nat} {A : Option Addr} {l : List UInt8} {c k : Nat} (h : (bsF A l).D k) : (browF e A l c).D k := by
  obtain ⟨_, ad, rfl, rfl⟩ := h
  rfl
/-- Copies of one's own. -/
def ownF (qs : List Part) : Fact where
  own := true
  D := fun k => ∃ q ∈ qs, (browF ty_uint8 q.1 q.2.1 q.2.2).D k
  p := fun w => ∀ q ∈ qs, Bs w q.1 q.2.1
  st := fun w w' hs h q hq => (bsF q.1 q.2.1).st w w' (fun k hk => hs k ⟨q, hq, bsD_brow hk⟩) (h q hq)
structure NwS where
  A : Option Addr
  c : Nat
  qs : List Part
theorem knowsNew_c (w : World) (bx : Nat) (B : Bx.Box) (y : Lay) (P : Option Addr) (ps : List Part) (cP : Nat) (hB : B.sym = true) (hp : ps.length ≤ 1000) (hps : ∀ q ∈ ps, q.2.1.length ≤ 1000 ∧ q.2.1.length ≤ q.2.2) (hm : Mem w [bxF bx B y, partF P ps]) :
    Con Tryz.prog n_knows_New #[ptrB bx, .slice P ps.length cP] w [bxF bx B y] fun v Fs => ∃ x : Md, v = .tuple #[.pointer (some ⟨x.b, 0, none⟩), .int .i64 0] ∧ x.bx = bx ∧ x.ss = ps.map (·.2.1) ∧ x.seen = [] ∧ Fs = mdFs x ++ [bxF bx B y] := by
  have g := good_knows_New w (Un [bxF bx B y])
  have hs0 : Sat (cx_knows_New w (Un [bxF bx B y])) Va.z 0 [] [bxF bx B y, partF P ps] w := hm.sat0 rfl (fun f hf ho k hk => by
    rcases List.mem_cons.1 hf with rfl | hf
    · exact ⟨_, List.mem_singleton.2 rfl, hk⟩
    · obtain rfl := List.mem_singleton.1 hf; cases ho)
  refine con_of_sx (cx := cx_knows_New w (Un [bxF bx B y])) g b_knows_New rfl rfl (β := Va.z) [.c (.v (ptrB bx)), .c (.v (.slice P ps.length cP))] 0 [] _ rfl rfl hs0 ?_
  have hml := maxLen_eq
  refine call_pu (fun β w' hs => symX_c w' bx B y (hs.get 0 rfl) (fun k hk => hs.flt _ (List.mem_of_getElem? (i := 0) rfl) k hk)) ?_
  rw [hB]
  intro b1
  refine loop_rule (ι := Nat × NwS) 1 (fun j => [(6, .c (.p 0 0)), (16, .c (.v (.slice P ps.length cP))), (17, .c (.v (.int .i64 (ps.length : Int)))), (18, .c (.v (.int .i64 (j.1 : Int))))]) (fun j => [⟨0, ty_knows_Mind, [.v (ptrB bx), .v (.slice j.2.A j.2.qs.length j.2.c), .v (.map (some b1))]⟩])
    (fun j => [mapIF .i64 b1 [], bxF bx B y, partF P ps, rowF ty_sl_uint8 1 (.slice j.2.A j.2.qs.length j.2.c) j.2.qs.length (j.2.qs.map partV), ownF j.2.qs])
    (fun j => j.1 ≤ ps.length ∧ j.2.qs.map (·.2.1) = (ps.take j.1).map (·.2.1)) (fun j => ps.length - j.1) (0, ⟨none, 0, []⟩) ⟨Nat.zero_le _, rfl⟩ (Ent.mk' ⟨rfl, rfl, rfl, rfl, trivial⟩ rfl (fun β w' hs => ?_)) g ?_
  · exact (((hs.nilRow ty_sl_uint8 1).emptyJ 1 rfl).fuse [] (ownF []) (fun w _ q h => by cases h) (fun k ⟨q, h, _⟩ => by cases h)).perm [2, 3, 4, 1, 0]
  rintro ⟨j, SA, sc, qs⟩ ⟨hj, hqs⟩
  simp only at hj hqs
  have hql : qs.length = j := by
    have := congrArg List.length hqs
    rw [List.length_map, List.length_map, List.length_take] at this
    omega
  refine BIf.dec (fun hlt => ?_) (fun hge => ?_)
  · have hlt0 : (j : Int) < (ps.length : Int) := hlt
    obtain ⟨q, hq, hqm⟩ := at_lt (show j < ps.length by omega)
    obtain ⟨ad, hP⟩ : ∃ ad, P = some ad := by
      obtain ⟨ad, h, _⟩ := ((show (partF P ps).p w from hm.fact (partF P ps) (by simp)).1).2 (by omega)
      exact ⟨ad, h⟩
    refine ⟨ad, j, hP, rfl, by omega, ?_⟩
    refine ⟨partV q, fun β w' hs => Rd.cell1 (show Rd 1 (some ad) ps.length (ps.map partV) w' from hP ▸ (show (partF P ps).p w' from hs.get 2 rfl).1) (by rw [List.getElem?_map, hq]; rfl), ?_⟩
    obtain ⟨Q, l, c⟩ := q
    have hq1 := hps _ hqm
    simp only at hq1
    refine draw_rule g p_knows_New_7 (by kernel_rfl) [⟨0, ty_knows_Mind, [.v (ptrB bx), .v (.slice SA qs.length sc), .v (.map (some b1))]⟩] [] (Sub.of (List.Sublist.refl _) (List.nil_sublist _)) ?_
    refine call_con [] (fun β w' hs => clone_c w' Q l c ((show (partF P ps).p w' from hs.get 2 rfl).2 _ hqm) (by omega)) ?_
    rintro v Fs ⟨A', c', rfl, hc1, hc2, rfl⟩
    refine ⟨subPerm [], ?_⟩
    intro b2
    refine ⟨subPerm [], ?_⟩
    obtain ⟨qs', hq'⟩ : ∃ qs', qs' = qs ++ [((A', l, c') : Part)] := ⟨_, rfl⟩
    have hql' : qs.length + 1 = qs'.length := by rw [hq', List.length_append]; rfl
    refine ⟨5, qs.length, qs'.length, qs.map partV, [partV (A', l, c')], qs'.map partV, rfl, fun β w' hs => row_rd (hs.get 0 rfl), fun u hu => by obtain rfl := List.mem_singleton.1 hu; rfl, hql', by rw [hq', List.map_append]; rfl, by rw [hml]; omega, by show qs'.length * 24 ≤ _; omega, ?_⟩
    intro A2 c2 r1 r2 r3
    refine ⟨subPerm [], ?_⟩
    refine ⟨subPerm [], ?_⟩
    refine ⟨(((j + 1) : Nat) : Int), by rw [wrap_i64 (by omega) (by omega)]; rfl, ?_⟩
    refine ⟨(j + 1, ⟨A2, c2, qs'⟩), ⟨by show j + 1 ≤ _; omega, ?_⟩, by show ps.length - (j + 1) < ps.length - j; omega, Ent.mk' ⟨rfl, rfl, rfl, rfl, trivial⟩ rfl (fun β w hs => ?_)⟩
    · show qs'.map (·.2.1) = (ps.take (j + 1)).map (·.2.1)
      rw [hq', List.take_add_one, hq, List.map_append, List.map_append, hqs]
      rfl
    · refine (hs.fuse [6, 1] (ownF qs') (fun w hm => ?_) (fun k hk => ?_)).perm [2, 3, 4, 5, 0]
      · intro q0 h0
        rw [hq'] at h0
        rcases List.mem_append.1 h0 with h0 | h0
        · exact (show (ownF qs).p w from hm.fact (ownF qs) (show ownF qs ∈ [ownF qs, browF ty_uint8 A' l c'] from List.mem_cons_self)) q0 h0
        · obtain rfl := List.mem_singleton.1 h0
          exact row_rd (hm.fact (browF ty_uint8 A' l c') (show browF ty_uint8 A' l c' ∈ [ownF qs, browF ty_uint8 A' l c'] from List.mem_cons_of_mem _ (List.mem_singleton.2 rfl)))
      · obtain ⟨q0, h0, hk⟩ := hk
        rw [hq'] at h0
        rcases List.mem_append.1 h0 with h0 | h0
        · exact ⟨ownF qs, List.mem_cons_self, q0, h0, hk⟩
        · obtain rfl := List.mem_singleton.1 h0
          exact ⟨browF ty_uint8 A' l c', List.mem_cons_of_mem _ (List.mem_singleton.2 rfl), hk⟩
  · have hge0 : ¬ (j : Int) < (ps.length : Int) := hge
    have ht : ps.take j = ps := List.take_of_length_le (by omega)
    rw [ht] at hqs
    intro β w' hs
    have h2 := (hs.fuse [3, 4] (secsF SA qs) (fun w hm => ⟨row_rd (hm.fact (rowF ty_sl_uint8 1 (.slice SA qs.length sc) qs.length (qs.map partV)) (by simp [takeIx, nth])), hm.fact (ownF qs) (by simp [takeIx, nth])⟩) (fun k hk => by
      rcases hk with ⟨_, ad, rfl, rfl⟩ | ⟨q, hq, hk⟩
      · exact ⟨_, List.mem_cons_self, rfl⟩
      · exact ⟨ownF qs, List.mem_cons_of_mem _ (List.mem_singleton.2 rfl), q, hq, bsD_brow hk⟩)).ofBk
    exact h2.fin [0, 1, 2, 3] ⟨⟨β 0, bx, SA, qs, sc, b1, []⟩, rfl, rfl, hqs, rfl, rfl⟩ rfl rfl rfl ⟨rfl, rfl, rfl, rfl, trivial⟩
end Go.Proofs.YtoifclfanabalaaGreatDoor.Sx

/- Facts turned, a local block named, between two statements. -/
namespace Go.Proofs.YtoifclfanabalaaGreatDoor.Sx
open Go

theorem reify_tri {cx : Cx} {c : Code} {Q : Exit → KT} {n : Nat} {env : Env} {H : List Bk} {F : List Fact} (id : Nat) {ty : TypeId} {cs : List SL} (vs : Nat → List Value) (h1 : tyAt H id = some ty) (h2 : cellsAt H id = some cs) (h3 : ∀ b, allV (cs.map (SL.re id b)) = some (vs b))
    (h : ∀ b, Tri cx c Q n (envRe id b env) (bksRe id b H) (bkF b ty (vs b) :: F)) : Tri cx c Q n env H F :=
  tri_join (ι := Nat) (fun _ => True) n (fun b => envRe id b env) (fun b => bksRe id b H) (fun b => bkF b ty (vs b) :: F) (fun b _ => h b) (EntX.reify id vs h1 h2 h3 (fun b => EntX.of b trivial ⟨fun β a w hi => ⟨β, rfl, rfl, hi⟩⟩))
end Go.Proofs.YtoifclfanabalaaGreatDoor.Sx

/- Marks. -/
namespace Go.Proofs.YtoifclfanabalaaGreatDoor.Sx
open Go
attribute [local irreducible] Calls

/-- Marks in a row. -/
abbrev mkF (A : Option Addr) (l : List Bool) : Fact := rdF 1 A l.length (l.map Value.bool)
def markB (l : List Bool) (n : Int) : Bool := decide (0 ≤ n) && l.getD n.toNat false
theorem marked_c (w : World) (A : Option Addr) (l : List Bool) (c : Nat) (n : Int) (hr : Rd 1 A l.length (l.map Value.bool) w) : Pu Tryz.prog n_knows_marked #[.slice A l.length c, .int .i64 n] w (.bool (markB l n)) := by
  have g := good_knows_marked w (Un [])
  refine con_of_sx (cx := cx_knows_marked w (Un [])) g b_knows_marked rfl rfl (β := Va.z) [.c (.v (.slice A l.length c)), .c (.v (.int .i64 n))] 0 [] [mkF A l] rfl rfl ((Sat.start rfl).rd (fun _ h => by cases h) hr) ?_
  conv => whnf
  generalize hq : decide ((0 : Int) ≤ n) = bq
  cases bq
  · have h0 : ¬ (0 : Int) ≤ n := of_decide_eq_false hq
    intro β w' hs
    exact hs.fin [] ⟨by unfold markB; rw [hq]; rfl, rfl⟩
  · have h0 : (0 : Int) ≤ n := of_decide_eq_true hq
    obtain ⟨m, rfl⟩ : ∃ m : Nat, n = (m : Int) := ⟨n.toNat, (Int.toNat_of_nonneg h0).symm⟩
    conv => whnf
    generalize hq2 : decide ((m : Int) < (l.length : Int)) = b2
    cases b2
    · have h1 : ¬ (m : Int) < (l.length : Int) := of_decide_eq_false hq2
      intro β w' hs
      refine hs.fin [] ⟨?_, rfl⟩
      unfold markB
      rw [Int.toNat_natCast, List.getD_eq_getElem?_getD, List.getElem?_eq_none (by omega), Option.getD_none, Bool.and_false]
      rfl
    · have h1 : (m : Int) < (l.length : Int) := of_decide_eq_true hq2
      obtain ⟨ad, hA, -⟩ := hr.2 (by omega)
      obtain ⟨y, hy, -⟩ := at_lt (show m < l.length by omega)
      refine ⟨ad, m, hA, rfl, by omega, ?_⟩
      refine ⟨.bool y, fun β w' hs => Rd.cell1 (show Rd 1 (some ad) l.length (l.map Value.bool) w' from hA ▸ hs.get 0 rfl) (by rw [List.getElem?_map, hy]; rfl), ?_⟩
      intro β w' hs
      refine hs.fin [] ⟨?_, rfl⟩
      unfold markB
      rw [Int.toNat_natCast, hq, Bool.true_and, List.getD_eq_getElem?_getD, hy]
      rfl
/-- All are marked. -/
def haveB (l : List Nat) (made : List Bool) : Bool := l.all fun n => markB made (n : Int)
def keepH (b : Nat) (D : Option Addr) (made : List Bool) (d : Nat) : List Fact := [bkF b ty_sl_bool [.slice D made.length d]]
theorem have1_c (w : World) (D : Option Addr) (made : List Bool) (d b : Nat) (n : Int) (hm : Mem w (keepH b D made d ++ [mkF D made])) :
    Con Tryz.prog n_knows_have_1 #[.int .i64 n, .pointer (some ⟨b, 0, none⟩)] w (keepH b D made d) fun v Fs => v = .bool (!markB made n) ∧ Fs = keepH b D made d := by
  have g := good_knows_have_1 w (Un (keepH b D made d))
  have hs0 : Sat (cx_knows_have_1 w (Un (keepH b D made d))) Va.z 0 [] (keepH b D made d ++ [mkF D made]) w := hm.sat0 rfl (fun f hf ho k hk => by
    rcases List.mem_append.1 hf with hf | hf
    · exact ⟨f, hf, hk⟩
    · obtain rfl := List.mem_singleton.1 hf; cases ho)
  refine con_of_sx (cx := cx_knows_have_1 w (Un (keepH b D made d))) g b_knows_have_1 rfl rfl (β := Va.z) [.c (.v (.int .i64 n)), .c (.v (.pointer (some ⟨b, 0, none⟩)))] 0 [] _ rfl rfl hs0 ?_
  refine ⟨_, fun β w' hs => cellM_bk (hs.get 0 rfl) (o := 0) rfl, ?_⟩
  refine call_pu (fun β w' hs => marked_c w' D made d n (hs.get 1 rfl)) ?_
  intro β w' hs
  exact hs.fin [0] ⟨rfl, rfl⟩
theorem idxH_c (w : World) (A D : Option Addr) (l : List Nat) (made : List Bool) (c d b : Nat) (hr : Rd 1 A l.length (ints l) w) (hn : l.length ≤ 2000000) (hm : Mem w (keepH b D made d ++ [mkF D made, rdF 1 A l.length (ints l)])) :
    Con Tryz.prog n_slices_IndexFunc_int_int #[.slice A l.length c, .func (.func n_knows_have_1) #[] #[.pointer (some ⟨b, 0, none⟩)]] w (keepH b D made d) fun v Fs => ∃ i : Int, v = .int .i64 i ∧ (0 ≤ i ↔ haveB l made = false) ∧ Fs = keepH b D made d := by
  have g := good_slices_IndexFunc_int_int w (Un (keepH b D made d))
  have hs0 : Sat (cx_slices_IndexFunc_int_int w (Un (keepH b D made d))) Va.z 0 [] (keepH b D made d ++ [mkF D made, rdF 1 A l.length (ints l)]) w := hm.sat0 rfl (fun f hf ho k hk => by
    rcases List.mem_append.1 hf with hf | hf
    · exact ⟨f, hf, hk⟩
    · simp only [List.mem_cons, List.not_mem_nil, or_false] at hf
      rcases hf with rfl | rfl <;> cases ho)
  refine con_of_sx (cx := cx_slices_IndexFunc_int_int w (Un (keepH b D made d))) g b_slices_IndexFunc_int_int rfl rfl (β := Va.z) [.c (.v (.slice A l.length c)), .c (.v (.func (.func n_knows_have_1) #[] #[.pointer (some ⟨b, 0, none⟩)]))] 0 [] _ rfl rfl hs0 ?_
  have hml := maxLen_eq
  refine loop_rule 0 (fun i : Nat => [(0, .c (.v (.slice A l.length c))), (1, .c (.v (.func (.func n_knows_have_1) #[] #[.pointer (some ⟨b, 0, none⟩)]))), (7, .c (.v (.int .i64 l.length))), (8, .c (.v (.int .i64 (i : Int))))]) (fun _ => []) (fun _ => keepH b D made d ++ [mkF D made, rdF 1 A l.length (ints l)])
    (fun i => i ≤ l.length ∧ haveB (l.take i) made = true) (fun i => l.length - i) 0 ⟨Nat.zero_le _, rfl⟩ (Ent.same ⟨rfl, rfl, rfl, rfl, trivial⟩ rfl) g ?_
  rintro i ⟨hi, hpre⟩
  refine BIf.dec (fun hlt => ?_) (fun hge => ?_)
  · have hlt0 : (i : Int) < l.length := hlt
    obtain ⟨y, hy, hym⟩ := at_lt (show i < l.length by omega)
    obtain ⟨ad, hA, _⟩ := hr.2 (by omega)
    refine ⟨ad, i, hA, rfl, by omega, .int .i64 (y : Int), fun β w' hs => Rd.cell1 (show Rd 1 (some ad) l.length (ints l) w' from hA ▸ hs.get 2 rfl) (by simp [ints, hy]), ?_⟩
    refine Or.inl ⟨by kernel_rfl, ?_⟩
    refine call_con [0] (fun β w' hs => have1_c w' D made d b (y : Int) (hs.mem.take (js := [0, 1]) rfl)) ?_
    rintro v Fs ⟨rfl, rfl⟩
    cases hb : markB made (y : Int) with
    | true =>
      refine ⟨((i + 1 : Nat) : Int), by rw [wrap_i64 (by omega) (by omega)]; rfl, ?_⟩
      refine ⟨i + 1, ⟨by omega, ?_⟩, by omega, Ent.mk' ⟨rfl, rfl, rfl, rfl, trivial⟩ rfl (fun β w' hs => hs)⟩
      unfold haveB at hpre ⊢
      rw [List.take_add_one, hy, List.all_append, hpre]
      simp [hb]
    | false =>
      intro β w' hs
      refine hs.fin [0] ⟨(i : Int), rfl, ⟨fun _ => ?_, fun _ => by omega⟩, rfl⟩ rfl rfl rfl ⟨rfl, trivial⟩
      cases q : haveB l made with
      | false => rfl
      | true => rw [List.all_eq_true.1 q y hym] at hb; cases hb
  · have hge0 : ¬ (i : Int) < l.length := hge
    rw [List.take_of_length_le (by omega)] at hpre
    intro β w' hs
    exact hs.fin [0] ⟨-1, rfl, ⟨fun h => absurd h (by decide), fun h => by rw [hpre] at h; cases h⟩, rfl⟩ rfl rfl rfl ⟨rfl, trivial⟩
theorem conH_c (w : World) (A D : Option Addr) (l : List Nat) (made : List Bool) (c d b : Nat) (hr : Rd 1 A l.length (ints l) w) (hn : l.length ≤ 2000000) (hm : Mem w (keepH b D made d ++ [mkF D made, rdF 1 A l.length (ints l)])) :
    Con Tryz.prog n_slices_ContainsFunc_int_int #[.slice A l.length c, .func (.func n_knows_have_1) #[] #[.pointer (some ⟨b, 0, none⟩)]] w (keepH b D made d) fun v Fs => v = .bool (!haveB l made) ∧ Fs = keepH b D made d := by
  have g := good_slices_ContainsFunc_int_int w (Un (keepH b D made d))
  have hs0 : Sat (cx_slices_ContainsFunc_int_int w (Un (keepH b D made d))) Va.z 0 [] (keepH b D made d ++ [mkF D made, rdF 1 A l.length (ints l)]) w := hm.sat0 rfl (fun f hf ho k hk => by
    rcases List.mem_append.1 hf with hf | hf
    · exact ⟨f, hf, hk⟩
    · simp only [List.mem_cons, List.not_mem_nil, or_false] at hf
      rcases hf with rfl | rfl <;> cases ho)
  refine con_of_sx (cx := cx_slices_ContainsFunc_int_int w (Un (keepH b D made d))) g b_slices_ContainsFunc_int_int rfl rfl (β := Va.z) [.c (.v (.slice A l.length c)), .c (.v (.func (.func n_knows_have_1) #[] #[.pointer (some ⟨b, 0, none⟩)]))] 0 [] _ rfl rfl hs0 ?_
  refine call_con [0] (fun β w' hs => idxH_c w' A D l made c d b (hs.get 2 rfl) hn (hs.mem.take (js := [0, 1, 2]) rfl)) ?_
  rintro v Fs ⟨i, rfl, hi, rfl⟩
  intro β w' hs
  refine hs.fin [0] ⟨?_, rfl⟩ rfl rfl rfl ⟨rfl, trivial⟩
  show Value.bool (decide (0 ≤ i)) = _
  cases q : haveB l made with
  | false => rw [decide_eq_true (hi.2 q)]; rfl
  | true => rw [decide_eq_false (fun h => by rw [hi.1 h] at q; cases q)]; rfl
theorem have_c (w : World) (A D : Option Addr) (l : List Nat) (made : List Bool) (c d : Nat) (hr : Rd 1 A l.length (ints l) w) (hn : l.length ≤ 2000000) (hm : Mem w [rdF 1 A l.length (ints l), mkF D made]) :
    Con Tryz.prog n_knows_have #[.slice A l.length c, .slice D made.length d] w [] fun v Fs => v = .bool (haveB l made) ∧ Fs = [] := by
  have g := good_knows_have w (Un [])
  have hs0 : Sat (cx_knows_have w (Un [])) Va.z 0 [] [rdF 1 A l.length (ints l), mkF D made] w := hm.sat0 rfl (fun f hf ho k hk => by
    simp only [List.mem_cons, List.not_mem_nil, or_false] at hf
    rcases hf with rfl | rfl <;> cases ho)
  refine con_of_tri (cx := cx_knows_have w (Un [])) g b_knows_have rfl rfl (β := Va.z) [.c (.v (.slice A l.length c)), .c (.v (.slice D made.length d))] 0 [] _ rfl rfl hs0 ?_
  refine tri_seq g ?_
  refine reify_tri 0 (fun _ => [.slice D made.length d]) rfl rfl (fun _ => rfl) (fun rb => ?_)
  refine tri_seq g ?_
  refine call_con [0] (fun β w' hs => conH_c w' A D l made c d rb (hs.get 1 rfl) hn (hs.mem.take (js := [0, 2, 1]) rfl)) ?_
  rintro v Fs ⟨rfl, rfl⟩
  refine tri_of g ?_
  intro β w' hs
  refine hs.fin [] ⟨?_, rfl⟩
  show Value.bool (!!haveB l made) = _
  rw [Bool.not_not]
end Go.Proofs.YtoifclfanabalaaGreatDoor.Sx

/- What can be made, plainly: the least closed marks. -/
namespace Go.Proofs.YtoifclfanabalaaGreatDoor.Sx
open Go
attribute [local irreducible] Calls

/-- What a term needs. -/
structure Nd where
  of : List Nat
  ok : Bool
  turn : Bool
def ndT (ss : List (List UInt8)) (t : Bx.Term) : Nd := if t.kind = 4 then ⟨t.list, true, true⟩ else ⟨foundS t.key ++ foundS t.text, betweenB ss t.key && betweenB ss t.text, false⟩
def ndL (ss : List (List UInt8)) (L : List Bx.Term) : List Nd := ⟨[], false, false⟩ :: L.map (ndT ss)
def IsM (l : List Bool) (n : Nat) : Prop := markB l (n : Int) = true
theorem markB_nat (l : List Bool) (n : Nat) : markB l (n : Int) = l.getD n false := by
  unfold markB
  rw [decide_eq_true (Int.natCast_nonneg n), Bool.true_and, Int.toNat_natCast]
theorem isM_iff {l : List Bool} {n : Nat} : IsM l n ↔ l[n]? = some true := by
  unfold IsM
  rw [markB_nat, List.getD_eq_getElem?_getD]
  cases l[n]? with
  | none => simp
  | some b => simp
theorem isM_set {l : List Bool} {n m : Nat} (hn : n < l.length) : IsM (l.set n true) m ↔ IsM l m ∨ m = n := by
  rw [isM_iff, isM_iff, List.getElem?_set]
  by_cases h : n = m
  · subst h
    rw [if_pos rfl, if_pos hn]
    simp
  · rw [if_neg h]
    exact ⟨.inl, fun q => q.elim id (fun e => absurd e.symm h)⟩
theorem have_iff {of : List Nat} {C : List Bool} : haveB of C = true ↔ ∀ n ∈ of, IsM C n := by
  unfold haveB IsM
  exact List.all_eq_true
/-- Those of a list that aren't made. -/
def leftL (C : List Bool) (of : List Nat) : List Nat := of.filter fun n => !markB C (n : Int)
def OkAt (C : List Bool) (n : Nat) (d : Nd) : Prop := (d.ok = true → haveB d.of C = true → IsM C n) ∧ (d.turn = true → IsM C n → ∀ k, leftL C d.of = [k] → k < C.length → IsM C k)
def Closed (nds : List Nd) (C : List Bool) : Prop := C.length = nds.length ∧ ∀ n d, nds[n]? = some d → 0 < n → OkAt C n d
def Le (A C : List Bool) : Prop := A.length = C.length ∧ ∀ n, IsM A n → IsM C n
/-- The least marks that are closed, from some on. -/
def Least (nds : List Nd) (I R : List Bool) : Prop := Closed nds R ∧ Le I R ∧ ∀ C, Closed nds C → Le I C → Le R C
theorem Le.refl (A : List Bool) : Le A A := ⟨rfl, fun _ h => h⟩
theorem Le.trans {A B C : List Bool} (h : Le A B) (h2 : Le B C) : Le A C := ⟨h.1.trans h2.1, fun n q => h2.2 n (h.2 n q)⟩
theorem Le.set {A C : List Bool} {n : Nat} (h : Le A C) (hn : n < A.length) (hc : IsM C n) : Le (A.set n true) C := by
  refine ⟨by rw [List.length_set]; exact h.1, fun m q => ?_⟩
  rcases (isM_set hn).1 q with q | rfl
  · exact h.2 m q
  · exact hc
theorem Le.have {A C : List Bool} (h : Le A C) {of : List Nat} (q : haveB of A = true) : haveB of C = true := have_iff.2 fun n hn => h.2 n (have_iff.1 q n hn)
theorem left_le {A C : List Bool} (h : Le A C) (of : List Nat) : leftL C of = leftL C (leftL A of) := by
  unfold leftL
  rw [List.filter_filter]
  refine (List.filter_congr fun n _ => ?_)
  cases hc : markB C (n : Int) with
  | true => rfl
  | false =>
    cases ha : markB A (n : Int) with
    | false => rfl
    | true => exact absurd ((show markB C (n : Int) = true from h.2 n ha)) (by rw [hc]; decide)
theorem left_mem {C : List Bool} {of : List Nat} {k : Nat} (h : k ∈ leftL C of) : k ∈ of ∧ ¬ IsM C k := by
  unfold leftL at h
  obtain ⟨h1, h2⟩ := List.mem_filter.1 h
  refine ⟨h1, fun q => ?_⟩
  rw [show markB C (k : Int) = true from q] at h2
  cases h2
/-- One that a Turn gives: any closed marks that hold these hold it, too. -/
theorem lone_in {nds : List Nd} {A C : List Bool} {n k : Nat} {d : Nd} (hC : Closed nds C) (h : Le A C) (hd : nds[n]? = some d) (h0 : 0 < n) (ht : d.turn = true) (hn : IsM A n) (hk : leftL A d.of = [k]) (hl : k < A.length) : IsM C k := by
  have h2 := (hC.2 n d hd h0).2 ht (h.2 n hn) k
  have e := left_le h d.of
  rw [hk] at e
  by_cases q : IsM C k
  · exact q
  · refine h2 ?_ (by rw [← h.1]; exact hl)
    rw [e]
    unfold leftL
    have : markB C (k : Int) = false := by
      cases hm : markB C (k : Int) with
      | false => rfl
      | true => exact absurd hm q
    simp [this]
def cntF (l : List Bool) : Nat := l.count false
theorem cntF_set : ∀ {l : List Bool} {n : Nat}, n < l.length → ¬ IsM l n → cntF (l.set n true) + 1 = cntF l
  | [], n, h, _ => absurd h (Nat.not_lt_zero _)
  | b :: r, 0, _, hm => by
    cases b with
    | true => exact absurd rfl hm
    | false => simp [cntF]
  | b :: r, n + 1, h, hm => by
    have ih := cntF_set (l := r) (n := n) (by simpa using h) (fun q => hm (isM_iff.2 (by rw [List.getElem?_cons_succ]; exact isM_iff.1 q)))
    unfold cntF at ih ⊢
    rw [List.set_cons_succ, List.count_cons, List.count_cons]
    omega
/-- Where a round stands. -/
structure Inn (nds : List Nd) (I m0 made : List Bool) (n : Nat) (more : Bool) : Prop where
  len : made.length = nds.length
  le0 : Le I made
  least : ∀ C, Closed nds C → Le I C → Le made C
  lt : more = true → cntF made < cntF m0
  same : more = false → made = m0 ∧ ∀ i d, nds[i]? = some d → 0 < i → i < n → OkAt made i d
/-- A round's middle: the first half of a need is seen to. -/
structure Mid (nds : List Nd) (I m0 made : List Bool) (n : Nat) (more : Bool) (d : Nd) : Prop where
  inn : Inn nds I m0 made n more
  half : 0 < n → d.ok = true → haveB d.of made = true → more = false → IsM made n
theorem Inn.cnt {nds : List Nd} {I m0 made : List Bool} {n : Nat} {more : Bool} (h : Inn nds I m0 made n more) : cntF made ≤ cntF m0 := by
  cases more with
  | true => exact Nat.le_of_lt (h.lt rfl)
  | false => rw [(h.same rfl).1]; exact Nat.le_refl _
theorem Inn.put {nds : List Nd} {I m0 made : List Bool} {n k : Nat} {more : Bool} (h : Inn nds I m0 made n more) (hk : k < made.length) (hm : ¬ IsM made k) (hC : ∀ C, Closed nds C → Le I C → Le made C → IsM C k) : Inn nds I m0 (made.set k true) n true where
  len := by rw [List.length_set]; exact h.len
  le0 := ⟨by rw [List.length_set]; exact h.le0.1, fun m q => (isM_set hk).2 (.inl (h.le0.2 m q))⟩
  least := fun C h1 h2 => (h.least C h1 h2).set hk (hC C h1 h2 (h.least C h1 h2))
  lt := fun _ => by have := cntF_set hk hm; have := h.cnt; omega
  same := fun q => by cases q
theorem Inn.mid_put {nds : List Nd} {I m0 made : List Bool} {n : Nat} {more : Bool} {d : Nd} (h : Inn nds I m0 made n more) (hd : nds[n]? = some d) (h0 : 0 < n) (hm : ¬ IsM made n) (hok : d.ok = true) (hv : haveB d.of made = true) : Mid nds I m0 (made.set n true) n true d where
  inn := h.put (by rw [h.len]; exact (List.getElem?_eq_some_iff.1 hd).1) hm (fun C h1 _ h3 => (h1.2 n d hd h0).1 hok (h3.have hv))
  half := fun _ _ _ q => by cases q
theorem Inn.mid_no {nds : List Nd} {I m0 made : List Bool} {n : Nat} {more : Bool} {d : Nd} (h : Inn nds I m0 made n more) (hno : 0 < n → d.ok = true → haveB d.of made = true → IsM made n) : Mid nds I m0 made n more d := ⟨h, fun h0 h1 h2 _ => hno h0 h1 h2⟩
theorem Inn.next {nds : List Nd} {I m0 made : List Bool} {n : Nat} {d : Nd} {more : Bool} (h : Inn nds I m0 made n more) (hd : nds[n]? = some d) (hn : 0 < n → more = false → OkAt made n d) : Inn nds I m0 made (n + 1) more where
  len := h.len
  le0 := h.le0
  least := h.least
  lt := h.lt
  same := fun q => ⟨(h.same q).1, fun i d' hi h0 hlt => by
    rcases Nat.lt_or_ge i n with q2 | q2
    · exact (h.same q).2 i d' hi h0 q2
    · obtain rfl : i = n := by omega
      rw [hd] at hi
      obtain rfl := Option.some.inj hi
      exact hn h0 q⟩
theorem Mid.next_no {nds : List Nd} {I m0 made : List Bool} {n : Nat} {d : Nd} {more : Bool} (h : Mid nds I m0 made n more d) (hd : nds[n]? = some d) (hno : 0 < n → d.turn = true → IsM made n → ∀ k, leftL made d.of = [k] → k < made.length → IsM made k) : Inn nds I m0 made (n + 1) more :=
  h.inn.next hd fun h0 q => ⟨fun h1 h2 => h.half h0 h1 h2 q, hno h0⟩
theorem Mid.next_put {nds : List Nd} {I m0 made : List Bool} {n k : Nat} {d : Nd} {more : Bool} (h : Mid nds I m0 made n more d) (hd : nds[n]? = some d) (h0 : 0 < n) (ht : d.turn = true) (hm : IsM made n) (hk : leftL made d.of = [k]) (hl : k < made.length) : Inn nds I m0 (made.set k true) (n + 1) true := by
  have hno := (left_mem (C := made) (of := d.of) (k := k) (by rw [hk]; exact List.mem_singleton.2 rfl)).2
  have h2 := h.inn.put hl hno (fun C h1 _ h3 => lone_in h1 h3 hd h0 ht hm hk hl)
  exact h2.next hd (fun _ q => by cases q)
theorem Inn.start {nds : List Nd} {I made : List Bool} (hl : made.length = nds.length) (h0 : Le I made) (h1 : ∀ C, Closed nds C → Le I C → Le made C) : Inn nds I made made 0 false := ⟨hl, h0, h1, fun q => (by cases q), fun _ => ⟨rfl, fun i d _ _ q => absurd q (Nat.not_lt_zero _)⟩⟩
theorem Inn.done {nds : List Nd} {I m0 made : List Bool} (h : Inn nds I m0 made nds.length false) : Least nds I made := by
  refine ⟨⟨h.len, fun n d hd h0 => (h.same rfl).2 n d hd h0 (List.getElem?_eq_some_iff.1 hd).1⟩, h.le0, h.least⟩
/-- The marks of numbers. -/
def marksOf (N : Nat) (ns : List Nat) : List Bool := (List.range N).map fun i => decide (i ∈ ns)
theorem marksOf_len (N : Nat) (ns : List Nat) : (marksOf N ns).length = N := by simp [marksOf]
theorem marksOf_iff {N : Nat} {ns : List Nat} {n : Nat} : IsM (marksOf N ns) n ↔ n < N ∧ n ∈ ns := by
  rw [isM_iff]
  unfold marksOf
  rw [List.getElem?_map]
  by_cases h : n < N
  · rw [List.getElem?_range h]
    simp [h]
  · rw [List.getElem?_eq_none (by simp; omega)]
    simp [h]
end Go.Proofs.YtoifclfanabalaaGreatDoor.Sx

/- The law's two boxes, compared. -/
namespace Go.Proofs.YtoifclfanabalaaGreatDoor.Sx
open Go
attribute [local irreducible] Calls

end Go.Proofs.YtoifclfanabalaaGreatDoor.Sx

/- BoxOpaque. -/
namespace Go.Proofs.YtoifclfanabalaaGreatDoor.Sx
open Go
attribute [local irreducible] Calls

theorem tri_know {cx : Cx} {n : Nat} {env : Env} {H : List Bk} {F : List Fact} {c : Code} {Q : Exit → KT} {p : Prop} (h : ∀ β w, Sat cx β n H F w → p) (k : p → Tri cx c Q n env H F) : Tri cx c Q n env H F :=
  ⟨fun β a w hi => (k (h β w hi.sat)).run β a w hi⟩
theorem row_cap {e size n c : Nat} {A : Option Addr} {xs : List Value} {w : World} (h : (rowF e size (.slice A n c) n xs).p w) : n ≤ c := by
  rcases h.2 with ⟨_, h0⟩ | ⟨g, cap, cur, he, _, _, hnc, _⟩
  · omega
  · injection he with _ _ h3
    omega
theorem elem6 {w : World} {A : Option Addr} {ad : Addr} {n : Nat} {ts : List (Bx.Term × TA)} (h : Rd 6 A n (termsV ts) w) (hn : ts.length = n) (hA : A = some ad) {k : Nat} {q : Bx.Term × TA} (hq : ts[k]? = some q) : ∀ j u, (termV q.1 q.2)[j]? = some u → w.cell? ((ad.add (k * 6)).add j) = some u := by
  subst hn
  obtain ⟨hil, hie⟩ := List.getElem?_eq_some_iff.1 hq
  have h2 := Rd.elem (f := fun p : Bx.Term × TA => termV p.1 p.2) (fun _ => rfl) h hA hil
  rw [hie] at h2
  exact h2
end Go.Proofs.YtoifclfanabalaaGreatDoor.Sx

/- No box; a box's terms, one by one. -/
namespace Go.Proofs.YtoifclfanabalaaGreatDoor.Sx
open Go
attribute [local irreducible] Calls

abbrev Tm := Bx.Term × TA
def insT (L : List Bx.Term) (pre : List Tm) (x : Tm) (args : Array Value) (X : Fact) : Prop := args = #[.int .i64 ((pre.length + 1 : Nat) : Int), .agg (termV x.1 x.2).toArray] ∧ X = sepF (copyFs x.1 x.2) ∧ L[pre.length]? = some x.1
def termsEnd (b : Nat) (B : Bx.Box) (y : Lay) (J Jx : List Tm → Fact → Prop) (Fs : List Fact) : Prop :=
  ∃ f Fs', Fs = f :: Fs' ∧ ((∃ xs, J xs f ∧ xs.length = B.L.length ∧ Fs' = [bxF b B y]) ∨ (∃ pre, Jx pre f ∧ pre.length ≤ B.L.length ∧ Fs' = [bxF b B y]))
theorem terms_it (l : Nat) (w : World) (bx b : Nat) (B : Bx.Box) (y : Lay) (f0 R : Fact) (J Jx : List Tm → Fact → Prop) (hts : y.ts.map (·.1) = B.L) (hL : B.L.length ≤ 4096) (hsz : ∀ t ∈ B.L, TSz t) (hJ0 : J [] f0) (hJo : ∀ pre f, J pre f → f.own = true) (hRo : R.own = false) (hY : Yc Tryz.prog l J Jx R (insT B.L))
    (hm : Mem w (f0 :: R :: [bkF bx ty_ptr_box_Box [ptrB b], bxF b B y])) :
    Con Tryz.prog n_box_Box_Terms_1 #[.func (.yield l) #[] #[], .pointer (some ⟨bx, 0, none⟩)] w [f0, bkF bx ty_ptr_box_Box [ptrB b], bxF b B y] (fun _ Fs => termsEnd b B y J Jx Fs) := by
  have g := good_box_Box_Terms_1 w (Un [f0, bkF bx ty_ptr_box_Box [ptrB b], bxF b B y]) [bx]
  have hs0 : Sat (cx_box_Box_Terms_1 w (Un [f0, bkF bx ty_ptr_box_Box [ptrB b], bxF b B y]) [bx]) (Va.of fun _ => bx) 1 [] (f0 :: R :: [bkF bx ty_ptr_box_Box [ptrB b], bxF b B y]) w := by
    refine hm.sat rfl (fun f hf ho k hk => ?_) ⟨Nat.le_refl 1, fun i hi => by obtain rfl : i = 0 := Nat.lt_one_iff.1 hi; rfl⟩
    simp only [List.mem_cons, List.not_mem_nil, or_false] at hf
    rcases hf with rfl | rfl | rfl | rfl
    · exact ⟨_, by simp, hk⟩
    · rw [hRo] at ho; cases ho
    · exact ⟨bkF bx ty_ptr_box_Box [ptrB b], by simp, hk⟩
    · exact ⟨bxF b B y, by simp, hk⟩
  have hs1 := hs0.toBk 2 rfl 0 Nat.zero_lt_one rfl
  refine con_of_sx (cx := cx_box_Box_Terms_1 w (Un [f0, bkF bx ty_ptr_box_Box [ptrB b], bxF b B y]) [bx]) g b_box_Box_Terms_1 rfl rfl (β := Va.of fun _ => bx) [.c (.v (.func (.yield l) #[] #[])), .c (.p 0 0)] 1 _ _ rfl rfl hs1 ?_
  have hlen : y.ts.length = B.L.length := by rw [← hts, List.length_map]
  have hyA : 0 < B.L.length → ∃ ad, y.A = some ad := fun hp => by
    obtain ⟨ad, q, _⟩ := (bx_rd (hs1.get 2 rfl)).2 (by omega)
    exact ⟨ad, q⟩
  refine call_pu (fun β w' hs => lenX_c w' b B y (hs.get 2 rfl) (fun k hk => hs.flt _ (List.mem_of_getElem? (i := 2) rfl) k hk)) ?_
  refine loop_rule (ι := List Tm × Fact) 1 (fun i => [(0, .c (.v (.func (.yield l) #[] #[]))), (1, .c (.p 0 0)), (5, .c (.v (.int .i64 (B.L.length : Int)))), (6, .c (.v (.int .i64 (i.1.length : Int))))]) (fun _ => [⟨0, ty_ptr_box_Box, [.v (ptrB b)]⟩]) (fun i => [i.2, R, bxF b B y])
    (fun i => J i.1 i.2 ∧ i.1.length ≤ B.L.length) (fun i => B.L.length - i.1.length) ([], f0) ⟨hJ0, Nat.zero_le _⟩ (Ent.same ⟨rfl, rfl, rfl, rfl, trivial⟩ rfl) g ?_
  rintro ⟨pre, f⟩ ⟨hJ, hi⟩
  simp only at hJ hi
  have hfo := hJo _ _ hJ
  simp only
  refine BIf.dec (fun hlt => ?_) (fun hge => ?_)
  · have hlt0 : (pre.length : Int) < B.L.length := hlt
    have hkl : pre.length < B.L.length := by omega
    obtain ⟨q, hq, hqm⟩ := at_lt (l := y.ts) (k := pre.length) (by omega)
    have hqL : B.L[pre.length]? = some q.1 := by rw [← hts, List.getElem?_map, hq]; rfl
    have hqs := hsz _ (List.mem_of_getElem? hqL)
    refine ⟨((pre.length + 1 : Nat) : Int), by rw [wrap_i64 (by omega) (by omega)]; rfl, ?_⟩
    refine ⟨.slice y.A B.L.length y.c, fun β w' hs => box_cell (bx_bk (hs.get 2 rfl)) (o := 2) rfl, ?_⟩
    obtain ⟨ad, hAd⟩ := hyA (by omega)
    refine ⟨ad, pre.length, hAd, rfl, hkl, termV q.1 q.2, rfl, fun β w' hs => elem6 (bx_rd (hs.get 2 rfl)) hlen hAd hq, ?_⟩
    refine call_conS [] (fun β w' hs => copyOf_c w' q.1 q.2 (bx_parts (hs.get 2 rfl) q hqm) hqs) ?_
    rintro v Fs ⟨a', rfl, rfl⟩
    refine ⟨_, _, fun β w' hs => hs.sep [0, 1, 2, 3] rfl ⟨rfl, rfl, rfl, rfl, trivial⟩, ?_⟩
    refine yield_own (X := sepF (copyFs q.1 a')) (x := (q.1, a')) hY 1 2 0 rfl hJ hfo rfl rfl rfl (by decide) (by decide) (by decide) (fun β => ⟨rfl, rfl, hqL⟩) ?_ ?_
    · intro f2 hfo2 hJ2
      have e : (pre ++ [(q.1, a')]).length = pre.length + 1 := by rw [List.length_append]; rfl
      refine ⟨((pre.length + 1 : Nat) : Int), by rw [wrap_i64 (by omega) (by omega)]; rfl, ?_⟩
      refine ⟨(pre ++ [(q.1, a')], f2), ⟨hJ2, by show (pre ++ [(q.1, a')]).length ≤ _; omega⟩, by show B.L.length - (pre ++ [(q.1, a')]).length < B.L.length - pre.length; omega, ?_⟩
      simp only [e]
      exact Ent.same ⟨rfl, rfl, rfl, rfl, trivial⟩ rfl
    · intro f2 hfo2 hJ2 β w' hs
      have e : (pre ++ [(q.1, a')]).length = pre.length + 1 := by rw [List.length_append]; rfl
      exact (hs.keepB (List.nil_sublist _)).fin [0, 2] ⟨f2, _, rfl, .inr ⟨_, hJ2, by omega, rfl⟩⟩ rfl rfl rfl ⟨hfo2, rfl, trivial⟩
  · have hge0 : ¬ (pre.length : Int) < B.L.length := hge
    intro β w' hs
    exact (hs.keepB (List.nil_sublist _)).fin [0, 2] ⟨f, _, rfl, .inl ⟨pre, hJ, by omega, rfl⟩⟩ rfl rfl rfl ⟨hfo, rfl, trivial⟩
theorem terms_c (w : World) (b : Nat) : Con Tryz.prog n_box_Box_Terms #[ptrB b] w [] (fun v Fs => ∃ bx, v = .func (.func n_box_Box_Terms_1) #[] #[.pointer (some ⟨bx, 0, none⟩)] ∧ Fs = [bkF bx ty_ptr_box_Box [ptrB b]]) := by
  refine con_of_sx (cx := cx_box_Box_Terms w (Un [])) (good_box_Box_Terms w (Un [])) b_box_Box_Terms rfl rfl (β := Va.z) [.c (.v (ptrB b))] 0 [] [] rfl rfl (Sat.start rfl) ?_
  intro β w' hs
  exact hs.ofBk.fin [0] ⟨β 0, rfl, rfl⟩
end Go.Proofs.YtoifclfanabalaaGreatDoor.Sx

/- A nil mind. -/
namespace Go.Proofs.YtoifclfanabalaaGreatDoor.Sx
open Go
attribute [local irreducible] Calls

end Go.Proofs.YtoifclfanabalaaGreatDoor.Sx

/- What a mind has seen. -/
namespace Go.Proofs.YtoifclfanabalaaGreatDoor.Sx
open Go
attribute [local irreducible] Calls

end Go.Proofs.YtoifclfanabalaaGreatDoor.Sx

/- The first one that is asked for. -/
namespace Go.Proofs.YtoifclfanabalaaGreatDoor.Sx
open Go
attribute [local irreducible] Calls

theorem lone1_c (w : World) (D : Option Addr) (made : List Bool) (d b : Nat) (n : Int) (hm : Mem w (keepH b D made d ++ [mkF D made])) :
    Con Tryz.prog n_knows_lone_1 #[.int .i64 n, .pointer (some ⟨b, 0, none⟩)] w (keepH b D made d) fun v Fs => v = .bool (markB made n) ∧ Fs = keepH b D made d := by
  have g := good_knows_lone_1 w (Un (keepH b D made d))
  have hs0 : Sat (cx_knows_lone_1 w (Un (keepH b D made d))) Va.z 0 [] (keepH b D made d ++ [mkF D made]) w := hm.sat0 rfl (fun f hf ho k hk => by
    rcases List.mem_append.1 hf with hf | hf
    · exact ⟨f, hf, hk⟩
    · obtain rfl := List.mem_singleton.1 hf; cases ho)
  refine con_of_sx (cx := cx_knows_lone_1 w (Un (keepH b D made d))) g b_knows_lone_1 rfl rfl (β := Va.z) [.c (.v (.int .i64 n)), .c (.v (.pointer (some ⟨b, 0, none⟩)))] 0 [] _ rfl rfl hs0 ?_
  refine ⟨_, fun β w' hs => cellM_bk (hs.get 0 rfl) (o := 0) rfl, ?_⟩
  refine call_pu (fun β w' hs => marked_c w' D made d n (hs.get 1 rfl)) ?_
  intro β w' hs
  exact hs.fin [0] ⟨rfl, rfl⟩
/-- The first one's place. -/
def ixF (f : Nat → Bool) (l : List Nat) : Int := if l.any f = true then (l.findIdx f : Int) else -1
theorem idxL_c (w : World) (A D : Option Addr) (l : List Nat) (made : List Bool) (c d b : Nat) (hr : Rd 1 A l.length (ints l) w) (hn : l.length ≤ 2000000) (hm : Mem w (keepH b D made d ++ [mkF D made, rdF 1 A l.length (ints l)])) :
    Con Tryz.prog n_slices_IndexFunc_int_int #[.slice A l.length c, .func (.func n_knows_lone_1) #[] #[.pointer (some ⟨b, 0, none⟩)]] w (keepH b D made d) fun v Fs => v = .int .i64 (ixF (fun n : Nat => markB made (n : Int)) l) ∧ Fs = keepH b D made d := by
  have g := good_slices_IndexFunc_int_int w (Un (keepH b D made d))
  have hs0 : Sat (cx_slices_IndexFunc_int_int w (Un (keepH b D made d))) Va.z 0 [] (keepH b D made d ++ [mkF D made, rdF 1 A l.length (ints l)]) w := hm.sat0 rfl (fun f hf ho k hk => by
    rcases List.mem_append.1 hf with hf | hf
    · exact ⟨f, hf, hk⟩
    · simp only [List.mem_cons, List.not_mem_nil, or_false] at hf
      rcases hf with rfl | rfl <;> cases ho)
  refine con_of_sx (cx := cx_slices_IndexFunc_int_int w (Un (keepH b D made d))) g b_slices_IndexFunc_int_int rfl rfl (β := Va.z) [.c (.v (.slice A l.length c)), .c (.v (.func (.func n_knows_lone_1) #[] #[.pointer (some ⟨b, 0, none⟩)]))] 0 [] _ rfl rfl hs0 ?_
  have hml := maxLen_eq
  obtain ⟨f, hf⟩ : ∃ f : Nat → Bool, f = fun n : Nat => markB made (n : Int) := ⟨_, rfl⟩
  rw [← hf]
  refine loop_rule 0 (fun i : Nat => [(0, .c (.v (.slice A l.length c))), (1, .c (.v (.func (.func n_knows_lone_1) #[] #[.pointer (some ⟨b, 0, none⟩)]))), (7, .c (.v (.int .i64 l.length))), (8, .c (.v (.int .i64 (i : Int))))]) (fun _ => []) (fun _ => keepH b D made d ++ [mkF D made, rdF 1 A l.length (ints l)])
    (fun i => i ≤ l.length ∧ (l.take i).any f = false) (fun i => l.length - i) 0 ⟨Nat.zero_le _, rfl⟩ (Ent.same ⟨rfl, rfl, rfl, rfl, trivial⟩ rfl) g ?_
  rintro i ⟨hi, hpre⟩
  refine BIf.dec (fun hlt => ?_) (fun hge => ?_)
  · have hlt0 : (i : Int) < l.length := hlt
    obtain ⟨y, hy, hym⟩ := at_lt (show i < l.length by omega)
    obtain ⟨ad, hA, _⟩ := hr.2 (by omega)
    refine ⟨ad, i, hA, rfl, by omega, .int .i64 (y : Int), fun β w' hs => Rd.cell1 (show Rd 1 (some ad) l.length (ints l) w' from hA ▸ hs.get 2 rfl) (by simp [ints, hy]), ?_⟩
    refine Or.inl ⟨by kernel_rfl, ?_⟩
    refine call_con [0] (fun β w' hs => lone1_c w' D made d b (y : Int) (hs.mem.take (js := [0, 1]) rfl)) ?_
    rintro v Fs ⟨rfl, rfl⟩
    have hfy : f y = markB made (y : Int) := by rw [hf]
    rw [← hfy]
    cases hb : f y with
    | false =>
      refine ⟨((i + 1 : Nat) : Int), by rw [wrap_i64 (by omega) (by omega)]; rfl, ?_⟩
      refine ⟨i + 1, ⟨by omega, ?_⟩, by omega, Ent.mk' ⟨rfl, rfl, rfl, rfl, trivial⟩ rfl (fun β w' hs => hs)⟩
      rw [List.take_add_one, hy, List.any_append, hpre]
      simp [hb]
    | true =>
      have hix : l.findIdx f = i := by
        refine (List.findIdx_eq (by omega)).2 ⟨?_, fun j hj => ?_⟩
        · rw [(List.getElem?_eq_some_iff.1 hy).2]; exact hb
        · have := List.any_eq_false.1 hpre (l[j]'(by omega)) (List.mem_take_iff_getElem.2 ⟨j, by omega, rfl⟩)
          simpa using this
      have hany : l.any f = true := List.any_eq_true.2 ⟨y, hym, hb⟩
      intro β w' hs
      exact hs.fin [0] ⟨by unfold ixF; rw [if_pos hany, hix]; rfl, rfl⟩ rfl rfl rfl ⟨rfl, trivial⟩
  · have hge0 : ¬ (i : Int) < l.length := hge
    rw [List.take_of_length_le (by omega)] at hpre
    intro β w' hs
    exact hs.fin [0] ⟨by unfold ixF; rw [hpre]; rfl, rfl⟩ rfl rfl rfl ⟨rfl, trivial⟩
end Go.Proofs.YtoifclfanabalaaGreatDoor.Sx

/- A row's end is cleared; a row grows less. -/
namespace Go.Proofs.YtoifclfanabalaaGreatDoor.Sx
open Go

theorem zeroCells_one (z0 : Value) (n : Nat) : (Builtin.zeroCells #[z0] n).toList = List.replicate n z0 := by
  simp [Builtin.zeroCells]
  apply List.ext_getElem
  · simp
  · intro i h1 h2
    simp [Nat.mod_one]
section
variable {cx : Cx} {β : Va} {n : Nat} {env : Env} {H : List Bk} {F : List Fact} {w : World}
theorem Sat.clearRow (h : Sat cx β n H F w) (g : Good cx) (j : Nat) {b k c e i m q : Nat} {xs : List Value} {z0 : Value} (hj : nth F j = some (rowF e 1 (.slice (some ⟨b, 0, none⟩) k c) k xs)) (him : i + m = k) (hm : 0 < m)
    {t : TypeId} {it ie : TI} (ty : TypeId) (cst : Array Bool) (h1 : z0.oneCell' = true) (hi : lk cx.tt t = some it := by rfl) (hd : it.desc = .slice e := by rfl) (hie : lk cx.tt e = some ie := by rfl) (hz : ie.zero = [z0] := by rfl) :
    ∃ w', (builtin .clear #[t] ty cst #[.slice (some ((⟨b, 0, none⟩ : Addr).add i)) m q]).run cx.P w = .ok (.value (.tuple #[])) w' ∧
      Sat cx β n H (putAt F j (rowF e 1 (.slice (some ⟨b, 0, none⟩) k c) k (putAll xs i (List.replicate m z0)))) w' := by
  have ht := (g.ti hi).real (d := .slice _) hd rfl
  obtain ⟨z, hzv, hzc⟩ := (g.ti hie).run_zero w
  have hza : z.cells = #[z0] := by apply Array.ext'; rw [hzc, hz]
  obtain ⟨w', e1, e2⟩ := h.rowSet (us := List.replicate m z0) (o := i) hj (by rw [List.length_replicate]; omega) (fun u hu => by rw [List.eq_of_mem_replicate hu]; exact h1)
  refine ⟨w', ?_, e2⟩
  obtain ⟨m', rfl⟩ : ∃ m', m = m' + 1 := ⟨m - 1, by omega⟩
  simp [builtin, Builtin.clear_, run_underlying ht, hzv, hza, zeroCells_one, e1]
theorem dropIx_all : ∀ (F : List Fact) (i : Nat), dropIx [0] (i + 1) F = F
  | [], _ => rfl
  | f :: r, i => by
    show f :: dropIx [0] (i + 2) r = f :: r
    rw [dropIx_all r (i + 1)]
/-- A row's first part, as a row. -/
theorem Sat.lessRow (h : Sat cx β n H F w) {e s i k c : Nat} {A : Option Addr} {xs : List Value} {F' : List Fact} (hF : F = rowF e s (.slice A k c) k xs :: F') (hik : i ≤ k) (hA : ∃ b, A = some ⟨b, 0, none⟩) :
    Sat cx β n H (rowF e s (.slice A i c) i (xs.take (i * s)) :: F') w := by
  subst hF
  obtain ⟨b, rfl⟩ := hA
  have hd : dropIx [0] 0 (rowF e s (.slice (some ⟨b, 0, none⟩) k c) k xs :: F') = F' := dropIx_all F' 0
  have h2 := h.fuse [0] (rowF e s (.slice (some ⟨b, 0, none⟩) i c) i (xs.take (i * s))) (fun w hm => ?_) (fun k hk => ?_)
  · rw [hd] at h2
    exact h2
  · have hp : w.ownsRow 0 e s (.slice (some ⟨b, 0, none⟩) k c) k xs := hm.fact (rowF e s (.slice (some ⟨b, 0, none⟩) k c) k xs) (by simp [takeIx, nth])
    have hks : i * s ≤ k * s := Nat.mul_le_mul_right _ hik
    refine ⟨by rw [List.length_take, hp.1]; omega, .inr ?_⟩
    rcases hp.2 with ⟨q, _⟩ | ⟨g, cap, cur, hv, hb, hg, hnc, hcm, hcs, htake⟩
    · cases q
    · injection hv with h1 h2 h3
      subst h3
      exact ⟨g, c, cur, by rw [h1], hb, hg, by omega, hcm, hcs, by rw [← htake, List.take_take, Nat.min_eq_left hks]⟩
  · exact ⟨_, List.mem_cons_self, hk⟩
end
end Go.Proofs.YtoifclfanabalaaGreatDoor.Sx

/- A fact of one's own, read only. -/
namespace Go.Proofs.YtoifclfanabalaaGreatDoor.Sx
open Go

def roX (f : Fact) : Fact := ⟨false, f.D, f.p, f.st⟩
theorem Sat.asRo {cx : Cx} {β : Va} {n : Nat} {H : List Bk} {F : List Fact} {w : World} (h : Sat cx β n H F w) (j : Nat) {f : Fact} (hj : nth F j = some f) (ho : f.own = true := by rfl) : Sat cx β n H (putAt F j (roX f)) w :=
  h.upd hj ho (Chg.refl _ _) (show f.p w from h.get j hj) (fun _ hk => .inl hk)
/-- What can be read of it. -/
theorem Sat.ofRo {cx : Cx} {β : Va} {n : Nat} {H : List Bk} {F : List Fact} {w : World} (h : Sat cx β n H F w) (j : Nat) {f : Fact} (hj : nth F j = some (roX f)) (g : Fact) (hgo : g.own = false) (hp : g.p w) (hD : ∀ k, g.D k → f.D k) : Sat cx β n H (g :: F) w :=
  h.sub j hj rfl g hgo hp hD
theorem BIf.yes {P Q : Prop} {b : Bool} (hb : b = true) (h : P) : BIf P Q b := by subst hb; exact h
theorem BIf.no {P Q : Prop} {b : Bool} (hb : b = false) (h : Q) : BIf P Q b := by subst hb; exact h
end Go.Proofs.YtoifclfanabalaaGreatDoor.Sx

/- What isn't made of a list. -/
namespace Go.Proofs.YtoifclfanabalaaGreatDoor.Sx
open Go
attribute [local irreducible] Calls

/-- Where the moving of those that stay stands. -/
structure DelI (f : Nat → Bool) (l : List Nat) (i j : Nat) (dk : List Nat) : Prop where
  len : dk.length = l.length
  lt : i < j
  le : j ≤ l.length
  low : dk.take i = (l.take j).filter fun n => !f n
  high : ∀ q, j ≤ q → dk[q]? = l[q]?
theorem DelI.start {f : Nat → Bool} {l : List Nat} (h : l.any f = true) : DelI f l (l.findIdx f) (l.findIdx f + 1) l := by
  obtain ⟨x, hx, hf⟩ := List.any_eq_true.1 h
  have hlt : l.findIdx f < l.length := List.findIdx_lt_length_of_exists ⟨x, hx, hf⟩
  refine ⟨rfl, Nat.lt_succ_self _, hlt, ?_, fun _ _ => rfl⟩
  rw [List.take_add_one, List.getElem?_eq_getElem hlt, List.filter_append]
  have e1 : (l.take (l.findIdx f)).filter (fun n => !f n) = l.take (l.findIdx f) := by
    rw [List.filter_eq_self]
    intro a ha
    obtain ⟨q, hq, rfl⟩ := List.mem_take_iff_getElem.1 ha
    have := List.not_of_lt_findIdx (p := f) (xs := l) (i := q) (by omega)
    simpa using this
  have e2 : f l[l.findIdx f] = true := List.findIdx_getElem (w := hlt)
  rw [e1]
  simp [e2]
theorem DelI.keep {f : Nat → Bool} {l dk : List Nat} {i j x : Nat} (h : DelI f l i j dk) (hx : l[j]? = some x) (hf : f x = false) : DelI f l (i + 1) (j + 1) (dk.set i x) := by
  have hj := (List.getElem?_eq_some_iff.1 hx).1
  have h1 := h.lt
  have h2 := h.len
  refine ⟨by rw [List.length_set]; exact h.len, by omega, hj, ?_, fun q hq => ?_⟩
  · rw [List.take_add_one, List.take_add_one, hx, List.filter_append, List.take_set_of_le (Nat.le_refl _), h.low, List.getElem?_set, if_pos rfl, if_pos (by omega)]
    simp [hf]
  · rw [List.getElem?_set, if_neg (by omega), h.high q (by omega)]
theorem DelI.skip {f : Nat → Bool} {l dk : List Nat} {i j x : Nat} (h : DelI f l i j dk) (hx : l[j]? = some x) (hf : f x = true) : DelI f l i (j + 1) dk := by
  have hj := (List.getElem?_eq_some_iff.1 hx).1
  have h1 := h.lt
  refine ⟨h.len, by omega, hj, ?_, fun q hq => h.high q (by omega)⟩
  rw [List.take_add_one, hx, List.filter_append, h.low]
  simp [hf]
theorem asRd {cx : Cx} {β : Va} {n : Nat} {H : List Bk} {F : List Fact} {w : World} {e s k c : Nat} {A : Option Addr} {xs : List Value} (h : Sat cx β n H F w) (j : Nat) (hj : nth F j = some (rowF e s (.slice A k c) k xs)) : Sat cx β n H (rdF s A k xs :: dropIx [j] 0 F) w := by
  have q : takeIx F [j] = [rowF e s (.slice A k c) k xs] := by simp only [takeIx, hj]
  refine h.fuse [j] (rdF s A k xs) (fun w hm => ?_) (fun k hk => ?_) rfl (by rw [q]; exact ⟨rfl, trivial⟩)
  · rw [q] at hm
    exact row_rd (hm.fact _ List.mem_cons_self)
  · rw [q]
    obtain ⟨_, ad, h, rfl⟩ := hk
    cases h
    exact ⟨_, List.mem_cons_self, rfl⟩
theorem ints_set (l : List Nat) (j x : Nat) : putAll (ints l) (j * 1) [.int .i64 (x : Int)] = ints (l.set j x) := by
  show putAt (ints l) (j * 1) _ = _
  rw [putAt_eq, Nat.mul_one]
  unfold ints
  rw [List.map_set]
theorem delL_c (w : World) (A D : Option Addr) (l : List Nat) (made : List Bool) (c d b : Nat) (hn : l.length ≤ 2000000) (hm : Mem w (keepH b D made d ++ [irowF A l c, mkF D made])) :
    Con Tryz.prog n_slices_DeleteFunc_int_int #[.slice A l.length c, .func (.func n_knows_lone_1) #[] #[.pointer (some ⟨b, 0, none⟩)]] w (keepH b D made d ++ [irowF A l c]) fun v Fs => v = .slice A (leftL made l).length c ∧ Fs = keepH b D made d ++ [irowF A (leftL made l) c] := by
  have g := good_slices_DeleteFunc_int_int w (Un (keepH b D made d ++ [irowF A l c]))
  have hs0 : Sat (cx_slices_DeleteFunc_int_int w (Un (keepH b D made d ++ [irowF A l c]))) Va.z 0 [] (keepH b D made d ++ [irowF A l c, mkF D made]) w := hm.sat0 rfl (fun f hf ho k hk => by
    simp only [keepH, List.cons_append, List.nil_append, List.mem_cons, List.not_mem_nil, or_false] at hf
    rcases hf with rfl | rfl | rfl
    · exact ⟨_, by simp [keepH], hk⟩
    · exact ⟨_, by simp [keepH], hk⟩
    · cases ho)
  refine con_of_sx (cx := cx_slices_DeleteFunc_int_int w (Un (keepH b D made d ++ [irowF A l c]))) g b_slices_DeleteFunc_int_int rfl rfl (β := Va.z) [.c (.v (.slice A l.length c)), .c (.v (.func (.func n_knows_lone_1) #[] #[.pointer (some ⟨b, 0, none⟩)]))] 0 [] _ rfl rfl hs0 ?_
  have hml := maxLen_eq
  refine call_con [0] (fun β w' hs => idxL_c w' A D l made c d b (row_rd (hs.get 1 rfl)) hn ((asRd hs 1 rfl).mem.take (js := [1, 2, 0]) rfl)) ?_
  rintro v Fs ⟨rfl, rfl⟩
  obtain ⟨f, hf⟩ : ∃ f : Nat → Bool, f = fun n : Nat => markB made (n : Int) := ⟨_, rfl⟩
  obtain ⟨r, hr⟩ : ∃ r : Int, ixF (fun n : Nat => markB made (n : Int)) l = r := ⟨_, rfl⟩
  rw [hr]
  rw [← hf] at hr
  have hK : leftL made l = l.filter (fun n => !f n) := by rw [hf]; rfl
  rw [hK]
  have hfy : ∀ y : Nat, markB made (y : Int) = f y := fun y => by rw [hf]
  refine BIf.dec (fun he => ?_) (fun hne => ?_)
  · have he0 : r = -1 := he
    have hall : l.filter (fun n => !f n) = l := by
      rw [List.filter_eq_self]
      intro n hn'
      cases hfn : f n with
      | false => rfl
      | true =>
        have hany : l.any f = true := List.any_eq_true.2 ⟨n, hn', hfn⟩
        unfold ixF at hr
        rw [if_pos hany] at hr
        omega
    rw [hall]
    intro β w' hs
    exact hs.fin [0, 1] ⟨rfl, rfl⟩ rfl rfl rfl ⟨rfl, rfl, trivial⟩
  · have hne0 : ¬ r = -1 := hne
    have hany : l.any f = true := by
      cases q : l.any f with
      | true => rfl
      | false => unfold ixF at hr; rw [q, if_neg (by decide)] at hr; exact absurd hr.symm hne0
    have hst := DelI.start hany
    obtain ⟨i0, hi0⟩ : ∃ i0, l.findIdx f = i0 := ⟨_, rfl⟩
    rw [hi0] at hst
    obtain rfl : r = (i0 : Int) := by unfold ixF at hr; rw [if_pos hany, hi0] at hr; exact hr.symm
    have hi0l : i0 < l.length := hst.le
    obtain ⟨bA, rfl, hcl⟩ : ∃ bA, A = some ⟨bA, 0, none⟩ ∧ l.length ≤ c := by
      have ho : w.ownsRow 0 ty_int 1 (.slice A l.length c) l.length (ints l) := hm.fact (irowF A l c) (by simp [keepH])
      rcases ho.2 with ⟨q, hz⟩ | ⟨b', cap, cur, hv, _, _, hcc, _⟩
      · omega
      · injection hv with e1 e2 e3
        exact ⟨b', e1, by omega⟩
    refine ⟨((i0 + 1 : Nat) : Int), by rw [wrap_i64 (by omega) (by omega)]; rfl, ?_⟩
    refine loop_rule (ι := Nat × Nat × List Nat) 0 (fun j => [(0, .c (.v (.slice (some ⟨bA, 0, none⟩) l.length c))), (1, .c (.v (.func (.func n_knows_lone_1) #[] #[.pointer (some ⟨b, 0, none⟩)]))), (5, .c (.v (.int .i64 (j.1 : Int)))), (6, .c (.v (.int .i64 (j.2.1 : Int))))]) (fun _ => []) (fun j => keepH b D made d ++ [rowF ty_int 1 (.slice (some ⟨bA, 0, none⟩) l.length c) l.length (ints j.2.2), mkF D made])
      (fun j => DelI f l j.1 j.2.1 j.2.2) (fun j => l.length - j.2.1) (i0, i0 + 1, l) hst (Ent.mk' ⟨rfl, rfl, rfl, rfl, trivial⟩ rfl (fun β w' hs => hs)) g ?_
    rintro ⟨i, j, dk⟩ hI
    simp only at hI
    have hI1 := hI.lt
    have hI2 := hI.le
    have hI3 := hI.len
    refine BIf.dec (fun hlt => ?_) (fun hge => ?_)
    · have hlt0 : (j : Int) < (l.length : Int) := hlt
      obtain ⟨y, hy, -⟩ := at_lt (show j < l.length by omega)
      have hdy : dk[j]? = some y := (hI.high j (Nat.le_refl _)).trans hy
      refine ⟨_, j, rfl, rfl, by omega, .int .i64 (y : Int), fun β w' hs => Rd.cell1 (row_rd (hs.get 1 rfl)) (by simp [ints, hdy]), ?_⟩
      refine Or.inl ⟨by kernel_rfl, ?_⟩
      refine call_con [0] (fun β w' hs => lone1_c w' D made d b (y : Int) (hs.mem.take (js := [0, 2]) rfl)) ?_
      rintro v Fs ⟨rfl, rfl⟩
      rw [hfy]
      cases hb : f y with
      | false =>
        refine ⟨_, i, rfl, rfl, by omega, ?_⟩
        refine ⟨_, fun β w' hs => Sat.rowSet hs (j := 1) (us := [.int .i64 (y : Int)]) rfl (by show i * 1 + 1 ≤ l.length * 1; omega) (fun u hu => by obtain rfl := List.mem_singleton.1 hu; rfl), ?_⟩
        refine ⟨((i + 1 : Nat) : Int), by rw [wrap_i64 (by omega) (by omega)]; rfl, ?_⟩
        refine ⟨((j + 1 : Nat) : Int), by rw [wrap_i64 (by omega) (by omega)]; rfl, ?_⟩
        exact ⟨(i + 1, j + 1, dk.set i y), hI.keep hy hb, by show l.length - (j + 1) < l.length - j; omega, Ent.mk' ⟨rfl, rfl, rfl, rfl, trivial⟩ rfl (fun β w' hs => by
          show Sat _ _ _ _ (keepH b D made d ++ [rowF ty_int 1 (.slice (some ⟨bA, 0, none⟩) l.length c) l.length (ints (dk.set i y)), mkF D made]) _
          rw [← ints_set]
          exact hs)⟩
      | true =>
        refine ⟨((j + 1 : Nat) : Int), by rw [wrap_i64 (by omega) (by omega)]; rfl, ?_⟩
        exact ⟨(i, j + 1, dk), hI.skip hy hb, by show l.length - (j + 1) < l.length - j; omega, Ent.mk' ⟨rfl, rfl, rfl, rfl, trivial⟩ rfl (fun β w' hs => hs)⟩
    · have hge0 : ¬ (j : Int) < (l.length : Int) := hge
      obtain rfl : j = l.length := by omega
      have hlow := hI.low
      rw [List.take_length] at hlow
      rw [← hlow]
      have hdl : (dk.take i).length = i := by rw [List.length_take]; omega
      rw [hdl]
      refine ⟨c, l.length, i, l.length - i, c - i, some ((⟨bA, 0, none⟩ : Addr).add i), rfl, rfl, rfl, Nat.le_refl _, hcl, by omega, rfl, rfl, by unfold cutA; rw [if_neg (by omega)]; show some _ = some _; rw [show ti3.size = 1 from rfl, Nat.mul_one], ?_⟩
      refine ⟨_, _, .c (.v (.tuple #[])), fun β w' ty hs => hs.clearRow g 1 (z0 := .int .i64 0) (m := l.length - i) (q := c - i) rfl (by omega) (by omega) ty _ rfl, trivial, ?_⟩
      refine ⟨c, i, 0, i, c, _, rfl, rfl, rfl, by omega, by omega, by omega, rfl, rfl, rfl, ?_⟩
      intro β w' hs
      have h2 := (hs.perm [1, 0, 2]).lessRow (i := i) rfl (by omega) ⟨bA, rfl⟩
      have e1 : (putAll (ints dk) i (List.replicate (l.length - i) (Value.int .i64 0))).take (i * 1) = ints (dk.take i) := by
        rw [putAll_all _ _ _ (by rw [List.length_replicate]; simp [ints]; omega), Nat.mul_one, List.append_assoc, List.take_append_of_le_length (by rw [List.length_take]; simp [ints]; omega), List.take_take, Nat.min_self]
        unfold ints
        rw [List.map_take]
      rw [e1] at h2
      refine h2.fin [1, 0] ⟨?_, ?_⟩ rfl rfl rfl ⟨rfl, rfl, trivial⟩
      · show Value.slice (cutA (some ⟨bA, 0, none⟩) c 0 1) i c = _
        unfold cutA
        split
        · rfl
        · rfl
      · show [_, rowF ty_int 1 (.slice (some ⟨bA, 0, none⟩) i c) i (ints (dk.take i))] = _
        simp only [irowF, hdl]
        rfl
end Go.Proofs.YtoifclfanabalaaGreatDoor.Sx

/- The only one that isn't made. -/
namespace Go.Proofs.YtoifclfanabalaaGreatDoor.Sx
open Go
attribute [local irreducible] Calls

def loneV : List Nat → Value
  | [k] => .tuple #[.int .i64 (k : Int), .bool true]
  | _ => .tuple #[.int .i64 0, .bool false]
theorem lone_c (w : World) (A D : Option Addr) (l : List Nat) (made : List Bool) (c d : Nat) (hr : Rd 1 A l.length (ints l) w) (hn : l.length ≤ 2000000) (hm : Mem w [rdF 1 A l.length (ints l), mkF D made]) :
    Con Tryz.prog n_knows_lone #[.slice A l.length c, .slice D made.length d] w [] fun v Fs => v = loneV (leftL made l) ∧ Fs = [] := by
  have g := good_knows_lone w (Un [])
  have hs0 : Sat (cx_knows_lone w (Un [])) Va.z 0 [] [rdF 1 A l.length (ints l), mkF D made] w := hm.sat0 rfl (fun f hf ho k hk => by
    simp only [List.mem_cons, List.not_mem_nil, or_false] at hf
    rcases hf with rfl | rfl <;> cases ho)
  refine con_of_tri (cx := cx_knows_lone w (Un [])) g b_knows_lone rfl rfl (β := Va.z) [.c (.v (.slice A l.length c)), .c (.v (.slice D made.length d))] 0 [] _ rfl rfl hs0 ?_
  refine tri_seq g ?_
  refine reify_tri 0 (fun _ => [.slice D made.length d]) rfl rfl (fun _ => rfl) (fun rb => ?_)
  refine tri_seq g ?_
  refine call_con [] (fun β w' hs => cloneI_c w' A l c (hs.get 1 rfl) (by omega)) ?_
  rintro v Fs ⟨A', c', rfl, hlc, hcm, rfl⟩
  refine call_con [1, 0] (fun β w' hs => delL_c w' A' D l made c' d rb hn (hs.mem.take (js := [1, 0, 3]) rfl)) ?_
  rintro v Fs ⟨rfl, rfl⟩
  obtain ⟨L, hL⟩ : ∃ L, leftL made l = L := ⟨_, rfl⟩
  rw [hL]
  refine tri_know (p := 0 < L.length → ∃ ad, A' = some ad) (fun β w' hs h => by
    obtain ⟨ad, q, _⟩ := (row_rd (show (irowF A' L c').p w' from hs.get 1 rfl)).2 h
    exact ⟨ad, q⟩) ?_
  intro hA'
  refine tri_of g ?_
  refine BIf.not (BIf.dec (fun h1 => ?_) (fun h1 => ?_))
  · have h10 : (L.length : Int) = 1 := h1
    obtain ⟨k, rfl⟩ : ∃ k, L = [k] := List.length_eq_one_iff.1 (by omega)
    obtain ⟨ad, rfl⟩ := hA' (Nat.succ_pos 0)
    refine ⟨_, 0, rfl, rfl, Nat.succ_pos 0, .int .i64 (k : Int), fun β w' hs => Rd.cell1 (row_rd (hs.get 1 rfl)) rfl, ?_⟩
    intro β w' hs
    exact hs.fin [] ⟨rfl, rfl⟩
  · have h10 : ¬ (L.length : Int) = 1 := h1
    have hv : loneV L = .tuple #[.int .i64 0, .bool false] := by
      unfold loneV
      split
      · exact absurd rfl h10
      · rfl
    rw [hv]
    intro β w' hs
    exact hs.fin [] ⟨rfl, rfl⟩
end Go.Proofs.YtoifclfanabalaaGreatDoor.Sx

/- What all terms need. -/
namespace Go.Proofs.YtoifclfanabalaaGreatDoor.Sx
open Go
attribute [local irreducible] Calls

structure NdR where
  d : Nd
  A : Option Addr
  c : Nat
def NdR.vs (q : NdR) : List Value := [.slice q.A q.d.of.length q.c, .bool q.d.ok, .bool q.d.turn]
def ndVs (qs : List NdR) : List Value := qs.flatMap NdR.vs
/-- The lists of what is needed: of one's own. -/
def ownN (qs : List NdR) : Fact where
  own := true
  D := fun k => ∃ q ∈ qs, (rdF 1 q.A q.d.of.length (ints q.d.of)).D k
  p := fun w => ∀ q ∈ qs, Rd 1 q.A q.d.of.length (ints q.d.of) w
  st := fun w w' hs h q hq => (rdF 1 q.A q.d.of.length (ints q.d.of)).st w w' (fun k hk => hs k ⟨q, hq, hk⟩) (h q hq)
structure NwN where
  A : Option Addr
  c : Nat
  qs : List NdR
def ndFs (i : NwN) : List Fact := [rowF ty_knows_need 3 (.slice i.A i.qs.length i.c) i.qs.length (ndVs i.qs), ownN i.qs]
def nd0 : NdR := ⟨⟨[], false, false⟩, none, 0⟩
theorem rdD_row {A : Option Addr} {n c : Nat} {xs : List Value} {e s k : Nat} (h : (rdF s A n xs).D k) : (rowF e s (.slice A n c) n xs).D k := by
  obtain ⟨_, ad, rfl, rfl⟩ := h
  rfl
theorem foundS_len (t : List UInt8) : (foundS t).length ≤ 13 * t.length + 9 := by
  unfold foundS
  rw [sortN_len]
  have h1 := setPuts_len (foundL t) []
  have h2 := foundL_len t
  simp only [List.length_nil] at h1
  omega
theorem ndVs_app (qs : List NdR) (q : NdR) : ndVs qs ++ q.vs = ndVs (qs ++ [q]) := by simp [ndVs]
theorem Sat.addN {cx : Cx} {β : Va} {n : Nat} {H : List Bk} {F : List Fact} {w : World} (h : Sat cx β n H F w) (js : List Nat) {qs : List NdR} {A : Option Addr} {l : List Nat} {c : Nat} (e : takeIx F js = [ownN qs, irowF A l c]) (ok turn : Bool) (hn : nodupB js = true := by rfl) : Sat cx β n H (ownN (qs ++ [⟨⟨l, ok, turn⟩, A, c⟩]) :: dropIx js 0 F) w := by
  refine h.fuse js (ownN (qs ++ [⟨⟨l, ok, turn⟩, A, c⟩])) (fun w hm => ?_) (fun k hk => ?_) hn (by rw [e]; exact ⟨rfl, rfl, trivial⟩)
  · rw [e] at hm
    intro q hq
    rcases List.mem_append.1 hq with hq | hq
    · exact (show (ownN qs).p w from hm.fact (ownN qs) List.mem_cons_self) q hq
    · obtain rfl := List.mem_singleton.1 hq
      exact row_rd (show (irowF A l c).p w from hm.fact (irowF A l c) (List.mem_cons_of_mem _ (List.mem_singleton.2 rfl)))
  · rw [e]
    obtain ⟨q, hq, hk⟩ := hk
    rcases List.mem_append.1 hq with hq | hq
    · exact ⟨ownN qs, List.mem_cons_self, q, hq, hk⟩
    · obtain rfl := List.mem_singleton.1 hq
      exact ⟨irowF A l c, List.mem_cons_of_mem _ (List.mem_singleton.2 rfl), rdD_row hk⟩
theorem row_nil {e s n c : Nat} {A : Option Addr} {xs : List Value} {w : World} (h : (rowF e s (.slice A n c) n xs).p w) : A = none → c = 0 := by
  rintro rfl
  rcases h.2 with ⟨q, _⟩ | ⟨g, cap, cur, hv, _⟩
  · injection q
  · cases hv
theorem needs_c (w : World) (x : Md) (B : Bx.Box) (y : Lay) (hts : y.ts.map (·.1) = B.L) (hL : B.L.length ≤ 4096) (hsz : ∀ t ∈ B.L, TSz t) (hkt : ∀ t ∈ B.L, t.key.length ≤ 70000 ∧ t.text.length ≤ 70000) (hsl : ∀ s ∈ x.ss, s.length ≤ 1000000) (hps : x.ps.length ≤ 1000000) (hm : Mem w (mdFs x ++ [bxF x.bx B y, mlF])) :
    Con Tryz.prog n_knows_Mind_needs #[.pointer (some ⟨x.b, 0, none⟩)] w (mdFs x ++ [bxF x.bx B y]) fun v Fs => ∃ i : NwN, v = .slice i.A i.qs.length i.c ∧ i.qs.map (·.d) = ndL x.ss B.L ∧ (0 < i.qs.length → ∃ ad, i.A = some ad) ∧ Fs = ndFs i ++ (mdFs x ++ [bxF x.bx B y]) := by
  have g := good_knows_Mind_needs w (Un (mdFs x ++ [bxF x.bx B y]))
  have hs0 : Sat (cx_knows_Mind_needs w (Un (mdFs x ++ [bxF x.bx B y]))) Va.z 0 [] (mdFs x ++ [bxF x.bx B y, mlF]) w := hm.sat0 rfl (fun f hf ho k hk => by
    rcases List.mem_append.1 hf with hf | hf
    · exact ⟨f, List.mem_append_left _ hf, hk⟩
    · simp only [List.mem_cons, List.not_mem_nil, or_false] at hf
      rcases hf with rfl | rfl
      · exact ⟨_, List.mem_append_right _ (List.mem_singleton.2 rfl), hk⟩
      · cases ho)
  refine con_of_sx (cx := cx_knows_Mind_needs w (Un (mdFs x ++ [bxF x.bx B y]))) g b_knows_Mind_needs rfl rfl (β := Va.z) [.c (.v (.pointer (some ⟨x.b, 0, none⟩)))] 0 [] _ rfl rfl hs0 ?_
  have hml := maxLen_eq
  intro b1
  refine ⟨_, fun β w' hs => cellM_bk (hs.get 1 rfl) (o := 0) rfl, ?_⟩
  refine call_con [] (fun β w' hs => terms_c w' x.bx) ?_
  rintro v Fs ⟨bx, rfl, rfl⟩
  refine range_rule (α := Tm) (ι := NwN) (κ := Unit) g rfl (cv := [.pointer (some ⟨bx, 0, none⟩)]) rfl (by kernel_rfl) 2 (Nat.le_refl 2)
    (fun pre i => pre.map (·.1) = B.L.take pre.length ∧ i.qs.map (·.d) = ⟨[], false, false⟩ :: (pre.map (·.1)).map (ndT x.ss)) (fun i => [⟨1, ty_sl_knows_need, [.v (.slice i.A i.qs.length i.c)]⟩, ⟨0, ty_ptr_knows_Mind, [.v (.pointer (some ⟨x.b, 0, none⟩))]⟩]) (fun i => ndFs i ++ mdFs x) (fun i => ⟨rfl, rfl, rfl, rfl, rfl, trivial⟩)
    (fun e pre i => False) (fun i => []) (fun i => []) (fun i => trivial)
    [bkF bx ty_ptr_box_Box [ptrB x.bx], bxF x.bx B y] [] [mlF] ⟨rfl, rfl, trivial⟩ (fun g h => by obtain rfl := List.mem_singleton.1 h; rfl) ⟨some ⟨b1, 0, none⟩, 1, [nd0]⟩ ⟨rfl, rfl⟩ (fun β w hs => ⟨β, Agr.refl _ _, ?_⟩) (insT B.L)
    (fun xs Fs' => xs.length = B.L.length ∧ Fs' = [bxF x.bx B y]) (fun pre Fs' => pre.length ≤ B.L.length ∧ Fs' = [bxF x.bx B y])
    (fun l w f0 R J Jx hJ0 hJo hRo hY hm => (terms_it l w bx x.bx B y f0 R J Jx hts hL hsz hJ0 hJo hRo hY hm).mono fun _ Fs h => h) ?_ ?_ ?_
  · exact (hs.noMem (ownN [nd0]) (fun q hq => by obtain rfl := List.mem_singleton.1 hq; exact ⟨rfl, fun h => absurd h (by decide)⟩) (fun k hk => by
      obtain ⟨q, hq, _, ad, h, _⟩ := hk
      obtain rfl := List.mem_singleton.1 hq
      cases h)).perm [1, 6, 2, 0, 3, 4, 5, 7]
  · rintro i pre q args X W S l bs pn pn' hbs ⟨hpre, hqs⟩ ⟨rfl, rfl, hq⟩
    obtain ⟨t, a⟩ := q
    simp only at hq
    refine ⟨_, rfl, ?_⟩
    have hpl : pre.length < B.L.length := (List.getElem?_eq_some_iff.1 hq).1
    have hil : i.qs.length = pre.length + 1 := by
      have := congrArg List.length hqs
      simpa using this
    have htm : t ∈ B.L := List.mem_of_getElem? hq
    have htk := hkt t htm
    refine BIf.dec (fun h4 => ?_) (fun h4 => ?_)
    · have h40 : (t.kind : Int) = 4 := h4
      intro b2
      obtain ⟨q, hqd⟩ : ∃ q : NdR, q = ⟨⟨t.list, true, true⟩, a.l, a.lc⟩ := ⟨_, rfl⟩
      obtain ⟨qs', hqs'⟩ : ∃ qs', qs' = i.qs ++ [q] := ⟨_, rfl⟩
      have hql' : i.qs.length + 1 = qs'.length := by rw [hqs', List.length_append]; rfl
      refine ⟨2, i.qs.length, qs'.length, ndVs i.qs, q.vs, ndVs qs', rfl, fun β w' hs => by rw [hqd]; exact row_rd (hs.get 0 rfl), fun u hu => by rw [hqd] at hu; simp only [NdR.vs, List.mem_cons, List.not_mem_nil, or_false] at hu; rcases hu with rfl | rfl | rfl <;> rfl, hql', by rw [hqs', ndVs_app], by rw [hml]; omega, by show qs'.length * 32 ≤ _; omega, ?_⟩
      intro A2 c2 r1 r2 r3
      refine ⟨⟨A2, c2, qs'⟩, ⟨?_, ?_⟩, Ent.mk' trivial rfl (fun β w hs => ?_)⟩
      · show (pre ++ [(t, a)]).map (·.1) = B.L.take (pre ++ [(t, a)]).length
        rw [List.map_append, hpre, List.length_append, List.length_singleton, List.take_add_one, hq]
        rfl
      · show qs'.map (·.d) = _
        rw [hqs', List.map_append, hqs, hqd, List.map_append, List.map_append]
        show _ = _ :: (_ ++ [ndT x.ss t])
        unfold ndT
        rw [if_pos (show t.kind = 4 by omega)]
        rfl
      · have h2 := (hs.unsep 1 rfl).addN [6, 1] rfl true true
        rw [← hqd, ← hqs'] at h2
        have h3 : Sat _ _ (2 + 1) [⟨1, ty_sl_knows_need, [.v (.slice A2 qs'.length c2)]⟩, ⟨0, ty_ptr_knows_Mind, [.v (.pointer (some ⟨x.b, 0, none⟩))]⟩] _ _ := h2.keepB (List.sublist_cons_self _ _)
        exact Sat.lower (n' := 2) (h3.perm [5, 0, 6, 7, 8])
    · have h40 : ¬ (t.kind : Int) = 4 := h4
      refine draw_rule (rcx_good g) p_knows_Mind_needs_6 (by kernel_rfl) [⟨2, ty_box_Term, termS t a⟩, ⟨1, ty_sl_knows_need, [.v (.slice i.A i.qs.length i.c)]⟩, ⟨0, ty_ptr_knows_Mind, [.v (.pointer (some ⟨x.b, 0, none⟩))]⟩] [] (Sub.of (List.Sublist.refl _) (List.nil_sublist _)) ?_
      refine call_con [] (R := fun v Fs => ∃ A' c', v = .slice A' (foundS t.key).length c' ∧ (0 < (foundS t.key).length → ∃ ad, A' = some ad) ∧ Fs = [irowF A' (foundS t.key) c']) (fun β w' hs => Found_c w' a.k t.key a.kc htk.1 (brow_cap ((hs.unsep 0 rfl).get 3 rfl)) (((hs.unsep 0 rfl).rdRow 3 rfl).mem.take (js := [0]) rfl)) ?_
      rintro v Fs ⟨A1, c1, rfl, hA1, rfl⟩
      refine ⟨subPerm [], ?_⟩
      refine call_con [] (R := fun v Fs => ∃ A' c', v = .slice A' (foundS t.text).length c' ∧ (0 < (foundS t.text).length → ∃ ad, A' = some ad) ∧ Fs = [irowF A' (foundS t.text) c']) (fun β w' hs => Found_c w' a.t t.text a.tc htk.2 (brow_cap ((hs.unsep 1 rfl).get 2 rfl)) (((hs.unsep 1 rfl).rdRow 2 rfl).mem.take (js := [0]) rfl)) ?_
      rintro v Fs ⟨A2, c2, rfl, hA2, rfl⟩
      refine ⟨subPerm [], ?_⟩
      obtain ⟨fk, hfk⟩ : ∃ fk, foundS t.key = fk := ⟨_, rfl⟩
      obtain ⟨ft, hft⟩ : ∃ ft, foundS t.text = ft := ⟨_, rfl⟩
      have hfkl := foundS_len t.key
      have hftl := foundS_len t.text
      rw [hfk] at hA1 hfkl ⊢
      rw [hft] at hA2 hftl ⊢
      obtain ⟨of, hof⟩ : ∃ of, of = fk ++ ft := ⟨_, rfl⟩
      have hofl : fk.length + ft.length = of.length := by rw [hof, List.length_append]
      refine ⟨1, fk.length, of.length, ints fk, ints ft, ints of, rfl, fun β w' hs => row_rd (hs.get 0 rfl), ints_one _, hofl, by rw [hof]; simp [ints], by rw [hml]; omega, by show of.length * 8 ≤ _; omega, ?_⟩
      intro A3 c3 r1 r2 r3
      refine ⟨subPerm [], ?_⟩
      refine call_con [5, 6, 7] (R := fun v Fs => v = .bool (betweenB x.ss t.key) ∧ Fs = mdFs x) (hown := ⟨rfl, rfl, rfl, trivial⟩) (fun β w' hs => by
        have u := hs.unsep 2 rfl
        exact between_c w' x a.k t.key a.kc (row_nil (u.get 3 rfl)) (brow_cap (u.get 3 rfl)) htk.1 hsl hps ((u.rdRow 3 rfl).mem.take (js := [8, 9, 10, 0, 11]) rfl)) ?_
      rintro v Fs ⟨rfl, rfl⟩
      refine ⟨subPerm [], ?_⟩
      cases hbk : betweenB x.ss t.key with
      | false =>
        refine ⟨subPerm [], ?_⟩
        intro b2
        refine ⟨subPerm [], ?_⟩
        obtain ⟨q, hqd⟩ : ∃ q : NdR, q = ⟨⟨of, false, false⟩, A3, c3⟩ := ⟨_, rfl⟩
        obtain ⟨qs', hqs'⟩ : ∃ qs', qs' = i.qs ++ [q] := ⟨_, rfl⟩
        have hql' : i.qs.length + 1 = qs'.length := by rw [hqs', List.length_append]; rfl
        refine ⟨7, i.qs.length, qs'.length, ndVs i.qs, q.vs, ndVs qs', rfl, fun β w' hs => by rw [hqd]; exact row_rd (hs.get 0 rfl), fun u hu => by rw [hqd] at hu; simp only [NdR.vs, List.mem_cons, List.not_mem_nil, or_false] at hu; rcases hu with rfl | rfl | rfl <;> rfl, hql', by rw [hqs', ndVs_app], by rw [hml]; omega, by show qs'.length * 32 ≤ _; omega, ?_⟩
        intro A4 c4 p1 p2 p3
        refine ⟨subPerm [], ?_⟩
        refine ⟨⟨A4, c4, qs'⟩, ⟨?_, ?_⟩, Ent.mk' trivial rfl (fun β w hs => ?_)⟩
        · show (pre ++ [(t, a)]).map (·.1) = B.L.take (pre ++ [(t, a)]).length
          rw [List.map_append, hpre, List.length_append, List.length_singleton, List.take_add_one, hq]
          rfl
        · show qs'.map (·.d) = _
          rw [hqs', List.map_append, hqs, hqd, List.map_append, List.map_append]
          show _ = _ :: (_ ++ [ndT x.ss t])
          unfold ndT
          rw [if_neg (show ¬ t.kind = 4 by omega), hfk, hft, ← hof, hbk]
          rfl
        · have h2 := hs.addN [8, 5] rfl false false
          rw [← hqd, ← hqs'] at h2
          have h3 : Sat _ _ (2 + 1) [⟨1, ty_sl_knows_need, [.v (.slice A4 qs'.length c4)]⟩, ⟨0, ty_ptr_knows_Mind, [.v (.pointer (some ⟨x.b, 0, none⟩))]⟩] _ _ := h2.keepB (List.sublist_cons_self _ _)
          exact Sat.lower (n' := 2) (h3.perm [7, 0, 2, 3, 4])
      | true =>
        refine call_con [0, 1, 2] (R := fun v Fs => v = .bool (betweenB x.ss t.text) ∧ Fs = mdFs x) (hown := ⟨rfl, rfl, rfl, trivial⟩) (fun β w' hs => by
          have u := hs.unsep 5 rfl
          exact between_c w' x a.t t.text a.tc (row_nil (u.get 2 rfl)) (brow_cap (u.get 2 rfl)) htk.2 hsl hps ((u.rdRow 2 rfl).mem.take (js := [4, 5, 6, 0, 11]) rfl)) ?_
        rintro v Fs ⟨rfl, rfl⟩
        refine ⟨subPerm [], ?_⟩
        intro b2
        refine ⟨subPerm [], ?_⟩
        obtain ⟨q, hqd⟩ : ∃ q : NdR, q = ⟨⟨of, betweenB x.ss t.text, false⟩, A3, c3⟩ := ⟨_, rfl⟩
        obtain ⟨qs', hqs'⟩ : ∃ qs', qs' = i.qs ++ [q] := ⟨_, rfl⟩
        have hql' : i.qs.length + 1 = qs'.length := by rw [hqs', List.length_append]; rfl
        refine ⟨7, i.qs.length, qs'.length, ndVs i.qs, q.vs, ndVs qs', rfl, fun β w' hs => by rw [hqd]; exact row_rd (hs.get 0 rfl), fun u hu => by rw [hqd] at hu; simp only [NdR.vs, List.mem_cons, List.not_mem_nil, or_false] at hu; rcases hu with rfl | rfl | rfl <;> rfl, hql', by rw [hqs', ndVs_app], by rw [hml]; omega, by show qs'.length * 32 ≤ _; omega, ?_⟩
        intro A4 c4 p1 p2 p3
        refine ⟨subPerm [], ?_⟩
        refine ⟨⟨A4, c4, qs'⟩, ⟨?_, ?_⟩, Ent.mk' trivial rfl (fun β w hs => ?_)⟩
        · show (pre ++ [(t, a)]).map (·.1) = B.L.take (pre ++ [(t, a)]).length
          rw [List.map_append, hpre, List.length_append, List.length_singleton, List.take_add_one, hq]
          rfl
        · show qs'.map (·.d) = _
          rw [hqs', List.map_append, hqs, hqd, List.map_append, List.map_append]
          show _ = _ :: (_ ++ [ndT x.ss t])
          unfold ndT
          rw [if_neg (show ¬ t.kind = 4 by omega), hfk, hft, ← hof, hbk]
          rfl
        · have h2 := hs.addN [8, 5] rfl (betweenB x.ss t.text) false
          rw [← hqd, ← hqs'] at h2
          have h3 : Sat _ _ (2 + 1) [⟨1, ty_sl_knows_need, [.v (.slice A4 qs'.length c4)]⟩, ⟨0, ty_ptr_knows_Mind, [.v (.pointer (some ⟨x.b, 0, none⟩))]⟩] _ _ := h2.keepB (List.sublist_cons_self _ _)
          exact Sat.lower (n' := 2) (h3.perm [7, 0, 2, 3, 4])
  · rintro xs i Fs ⟨hpre, hqs⟩ ⟨hxs, rfl⟩
    have hx : xs.map (·.1) = B.L := by rw [hpre, hxs, List.take_length]
    rw [hx] at hqs
    intro β w' hs
    have hA : 0 < i.qs.length → ∃ ad, i.A = some ad := fun h => by
      obtain ⟨ad, q, _⟩ := (row_rd (show (rowF ty_knows_need 3 (.slice i.A i.qs.length i.c) i.qs.length (ndVs i.qs)).p w' from hs.get 1 rfl)).2 h
      exact ⟨ad, q⟩
    exact (hs.keepB (List.nil_sublist _)).fin [1, 2, 3, 4, 5, 0] ⟨i, rfl, hqs, hA, rfl⟩ rfl rfl rfl ⟨rfl, rfl, rfl, rfl, rfl, rfl, trivial⟩
  · rintro e pre j Fs ⟨⟩
end Go.Proofs.YtoifclfanabalaaGreatDoor.Sx

/- What can be made: the walk. -/
namespace Go.Proofs.YtoifclfanabalaaGreatDoor.Sx
open Go
attribute [local irreducible] Calls

abbrev mrowF (D : Option Addr) (l : List Bool) (d : Nat) : Fact := rowF ty_bool 1 (.slice D l.length d) l.length (l.map Value.bool)
/-- What the asking for the next leaves: at the end the set again. -/
def nxtG (kk : IntKind) (b r : Nat) (l ss : MLI) : Option (Int × Value) → Fact
  | none => mapIF kk b l
  | some x => itIF kk b r l (ss ++ [x]) (some x)
theorem Sat.nextG {cx : Cx} {β : Va} {n : Nat} {H : List Bk} {F : List Fact} {w : World} {kk : IntKind} (h : Sat cx β n H F w) (j : Nat) {b r : Nat} {l ss : MLI} {cur : Option (Int × Value)} (hj : nth F j = some (itIF kk b r l ss cur)) (ty : TypeId) :
    ∃ (o : {o : Option (Int × Value) // NxtI l ss o}) (w' : World), (Instr.next (.pointer (some ⟨r, 0, none⟩)) false ty).run cx.P w = .ok (nxtV kk o.1) w' ∧ Sat cx β n H (putAt F j (nxtG kk b r l ss o.1)) w' := by
  obtain ⟨⟨o, ho⟩, w', e, hs⟩ := h.nextI j hj ty
  have hlt : j < F.length := by rw [nth_eq] at hj; exact (List.getElem?_eq_some_iff.1 hj).1
  refine ⟨⟨o, ho⟩, w', e, ?_⟩
  cases o with
  | some x => exact hs
  | none =>
    have hs2 : Sat cx β n H (putAt F j (itIF kk b r l ss cur)) w' := hs
    have h3 := hs2.endJ j (b := b) (r := r) (l := l) (ss := ss) (cur := cur) (by rw [nth_eq, putAt_eq, List.getElem?_set, if_pos rfl, if_pos hlt])
    rw [putAt_eq, putAt_eq, List.set_set] at h3
    show Sat cx β n H (putAt F j (mapIF kk b l)) w'
    rw [putAt_eq]
    exact h3
theorem repl_bools (N : Nat) : repl [Value.bool false] N = (marksOf N []).map Value.bool := by
  have h : ∀ N, repl [Value.bool false] N = List.replicate N (Value.bool false) := by
    intro N
    induction N with
    | zero => rfl
    | succ k ih => rw [repl, ih]; rfl
  rw [h]
  refine List.ext_getElem (by simp [marksOf]) (fun i h1 h2 => ?_)
  simp [marksOf]
theorem bools_set (l : List Bool) (j : Nat) : putAll (l.map Value.bool) (j * 1) [.bool true] = (l.set j true).map Value.bool := by
  show putAt (l.map Value.bool) (j * 1) _ = _
  rw [putAt_eq, Nat.mul_one, List.map_set]
theorem marks_put {N n : Nat} (ns : List Nat) (h : n < N) : (marksOf N ns).set n true = marksOf N (ns ++ [n]) := by
  refine List.ext_getElem (by simp [marksOf]) (fun i h1 h2 => ?_)
  rw [List.getElem_set]
  simp only [marksOf, List.getElem_map, List.getElem_range, List.mem_append, List.mem_singleton]
  by_cases q : n = i
  · subst q
    simp
  · rw [if_neg q]
    have : ¬ i = n := fun e => q e.symm
    simp [this]
theorem marks_skip {N n : Nat} (ns : List Nat) (h : ¬ n < N) : marksOf N (ns ++ [n]) = marksOf N ns := by
  refine List.ext_getElem (by simp [marksOf]) (fun i h1 h2 => ?_)
  have hi : i < N := by simpa [marksOf] using h2
  simp only [marksOf, List.getElem_map, List.getElem_range, List.mem_append, List.mem_singleton]
  have : ¬ i = n := by omega
  simp [this]
theorem marks_perm {N : Nat} {a b : List Nat} (h : a.Perm b) : marksOf N a = marksOf N b := by
  unfold marksOf
  refine List.map_congr_left (fun i _ => ?_)
  rw [decide_eq_decide]
  exact h.mem_iff
theorem setM_inj {a b : List Nat} (h : (setM a).Perm (setM b)) : a.Perm b := by
  have := h.map (fun q : Int × Value => q.1.toNat)
  simp only [setM, List.map_map] at this
  have e : ((fun q : Int × Value => q.1.toNat) ∘ fun n : Nat => (((n : Nat) : Int), Value.agg #[])) = id := rfl
  rw [e, List.map_id, List.map_id] at this
  exact this
theorem setM_mem {x : Int × Value} {l : List Nat} (h : x ∈ setM l) : ∃ n : Nat, x = ((n : Int), Value.agg #[]) := by
  obtain ⟨n, _, rfl⟩ := List.mem_map.1 h
  exact ⟨n, rfl⟩
theorem elem3 {w : World} {A : Option Addr} {ad : Addr} {n : Nat} {qs : List NdR} (h : Rd 3 A n (ndVs qs) w) (hn : qs.length = n) (hA : A = some ad) {k : Nat} {q : NdR} (hq : qs[k]? = some q) : ∀ j u, q.vs[j]? = some u → w.cell? ((ad.add (k * 3)).add j) = some u := by
  subst hn
  obtain ⟨hil, hie⟩ := List.getElem?_eq_some_iff.1 hq
  have h2 := Rd.elem (f := NdR.vs) (fun _ => rfl) h hA hil
  rw [hie] at h2
  exact h2
theorem all_c (w : World) (x : Md) (B : Bx.Box) (y : Lay) (hts : y.ts.map (·.1) = B.L) (hL : B.L.length ≤ 4096) (hsz : ∀ t ∈ B.L, TSz t) (hkt : ∀ t ∈ B.L, t.key.length ≤ 70000 ∧ t.text.length ≤ 70000) (hsl : ∀ s ∈ x.ss, s.length ≤ 1000000) (hps : x.ps.length ≤ 1000000) (hm : Mem w (mdFs x ++ [bxF x.bx B y, mlF])) :
    Con Tryz.prog n_knows_Mind_all #[.pointer (some ⟨x.b, 0, none⟩)] w (mdFs x ++ [bxF x.bx B y]) fun v Fs => ∃ D R d, v = .slice D (List.length R) d ∧ Least (ndL x.ss B.L) (marksOf (B.L.length + 1) x.seen) R ∧ Fs = mrowF D R d :: (mdFs x ++ [bxF x.bx B y]) := by
  have g := good_knows_Mind_all w (Un (mdFs x ++ [bxF x.bx B y]))
  have hs0 : Sat (cx_knows_Mind_all w (Un (mdFs x ++ [bxF x.bx B y]))) Va.z 0 [] (mdFs x ++ [bxF x.bx B y, mlF]) w := hm.sat0 rfl (fun f hf ho k hk => by
    rcases List.mem_append.1 hf with hf | hf
    · exact ⟨f, List.mem_append_left _ hf, hk⟩
    · simp only [List.mem_cons, List.not_mem_nil, or_false] at hf
      rcases hf with rfl | rfl
      · exact ⟨_, List.mem_append_right _ (List.mem_singleton.2 rfl), hk⟩
      · cases ho)
  refine con_of_sx (cx := cx_knows_Mind_all w (Un (mdFs x ++ [bxF x.bx B y]))) g b_knows_Mind_all rfl rfl (β := Va.z) [.c (.v (.pointer (some ⟨x.b, 0, none⟩)))] 0 [] _ rfl rfl hs0 ?_
  have hml := maxLen_eq
  refine ⟨_, fun β w' hs => cellM_bk (hs.get 0 rfl) (o := 0) rfl, ?_⟩
  refine call_pu (fun β w' hs => lenX_c w' x.bx B y (hs.get 3 rfl) (fun k hk => hs.flt _ (List.mem_of_getElem? (i := 3) rfl) k hk)) ?_
  refine ⟨(((B.L.length + 1) : Nat) : Int), by rw [wrap_i64 (by omega) (by omega)]; rfl, ?_⟩
  obtain ⟨N, hN⟩ : ∃ N, B.L.length + 1 = N := ⟨_, rfl⟩
  rw [hN]
  refine ⟨N, N, rfl, rfl, Nat.le_refl _, by show 1 * N ≤ _; omega, by omega, fun b0 => ?_⟩
  refine ⟨_, fun β w' hs => cellM_bk (hs.get 1 rfl) (o := 2) rfl, ?_⟩
  obtain ⟨rl, hrl⟩ : ∃ rl, rl = repl ti4.zero N := ⟨_, rfl⟩
  refine ⟨Nat, fun r => .pointer (some ⟨r, 0, none⟩), fun r => [rowF ty_bool 1 (.slice (some ⟨b0, 0, none⟩) N N) N ((marksOf N []).map Value.bool), bkF x.b ty_knows_Mind x.vs, secsF x.P x.ps, itIF .i64 x.m r (setM x.seen) [] none, bxF x.bx B y, mlF], fun β w' ty hs => by rw [← repl_bools]; exact hs.rangeI g 3 rfl, fun r => ?_⟩
  refine loop_rule (ι := List Nat × Option (Int × Value)) 0 (fun _ => [(0, .c (.v (.pointer (some ⟨x.b, 0, none⟩)))), (3, .c (.v (.slice (some ⟨b0, 0, none⟩) N N))), (24, .c (.v (.pointer (some ⟨r, 0, none⟩))))]) (fun _ => []) (fun j => [rowF ty_bool 1 (.slice (some ⟨b0, 0, none⟩) N N) N ((marksOf N j.1).map Value.bool), bkF x.b ty_knows_Mind x.vs, secsF x.P x.ps, itIF .i64 x.m r (setM x.seen) (setM j.1) j.2, bxF x.bx B y, mlF])
    (fun j => True) (fun j => x.seen.length - j.1.length) ([], none) trivial (Ent.same ⟨rfl, rfl, rfl, trivial⟩ rfl) g ?_
  rintro ⟨ns, cur⟩ -
  refine ⟨{o : Option (Int × Value) // NxtI (setM x.seen) (setM ns) o}, fun o => nxtV .i64 o.1, fun o => [rowF ty_bool 1 (.slice (some ⟨b0, 0, none⟩) N N) N ((marksOf N ns).map Value.bool), bkF x.b ty_knows_Mind x.vs, secsF x.P x.ps, nxtG .i64 x.m r (setM x.seen) (setM ns) o.1, bxF x.bx B y, mlF], fun β w' ty hs => hs.nextG 3 rfl ty, ?_⟩
  rintro ⟨o, ho⟩
  cases o with
  | some q =>
    obtain ⟨hq1, hq2⟩ : q ∈ setM x.seen ∧ (setM ns).length < (setM x.seen).length := ho
    obtain ⟨n, rfl⟩ := setM_mem hq1
    have hq2 : ns.length < x.seen.length := by simpa [setM] using hq2
    have hsn : setM ns ++ [((n : Int), Value.agg #[])] = setM (ns ++ [n]) := by simp [setM]
    refine ⟨Unit, fun _ => .tuple #[.int .i64 (n : Int), Value.agg #[]], fun _ => [rowF ty_bool 1 (.slice (some ⟨b0, 0, none⟩) N N) N ((marksOf N ns).map Value.bool), bkF x.b ty_knows_Mind x.vs, secsF x.P x.ps, itIF .i64 x.m r (setM x.seen) (setM ns ++ [((n : Int), Value.agg #[])]) (some ((n : Int), Value.agg #[])), bxF x.bx B y, mlF], fun β w' ty hs => ⟨(), w', hs.entryI 3 rfl, hs⟩, fun _ => ?_⟩
    rw [hsn]
    have hmu : x.seen.length - (ns ++ [n]).length < x.seen.length - ns.length := by rw [List.length_append]; show x.seen.length - (ns.length + 1) < _; omega
    refine BIf.dec (fun hlt => ?_) (fun hge => ?_)
    · have hlt0 : (n : Int) < (N : Int) := hlt
      refine ⟨_, n, rfl, rfl, by omega, ?_⟩
      refine ⟨_, fun β w' hs => Sat.rowSet hs (j := 0) (us := [.bool true]) rfl (by show n * 1 + 1 ≤ N * 1; omega) (fun u hu => by obtain rfl := List.mem_singleton.1 hu; rfl), ?_⟩
      refine ⟨(ns ++ [n], some ((n : Int), Value.agg #[])), trivial, hmu, ?_⟩
      simp only [← marks_put ns (show n < N by omega), ← bools_set]
      exact Ent.same ⟨rfl, rfl, rfl, trivial⟩ rfl
    · have hge0 : ¬ (n : Int) < (N : Int) := hge
      refine ⟨(ns ++ [n], some ((n : Int), Value.agg #[])), trivial, hmu, ?_⟩
      simp only [marks_skip ns (show ¬ n < N by omega)]
      exact Ent.same ⟨rfl, rfl, rfl, trivial⟩ rfl
  | none =>
    have hperm : (setM ns).Perm (setM x.seen) := ho
    have hmk : marksOf N ns = marksOf N x.seen := marks_perm (setM_inj hperm)
    rw [hmk]
    refine call_con [1, 2, 3, 4] (R := fun v Fs => ∃ i : NwN, v = .slice i.A i.qs.length i.c ∧ i.qs.map (·.d) = ndL x.ss B.L ∧ (0 < i.qs.length → ∃ ad, i.A = some ad) ∧ Fs = ndFs i ++ (mdFs x ++ [bxF x.bx B y])) (hown := ⟨rfl, rfl, rfl, rfl, trivial⟩) (fun β w' hs => needs_c w' x B y hts hL hsz hkt hsl hps (hs.mem.take (js := [1, 2, 3, 4, 5]) rfl)) ?_
    rintro v Fs ⟨q, rfl, hq, hS, rfl⟩
    obtain ⟨S, sc, qs⟩ := q
    simp only at hq hS
    obtain ⟨nds, hnd⟩ : ∃ nds, ndL x.ss B.L = nds := ⟨_, rfl⟩
    obtain ⟨I, hI⟩ : ∃ I, marksOf N x.seen = I := ⟨_, rfl⟩
    have hIl : I.length = N := by rw [← hI]; exact marksOf_len _ _
    have hndl : nds.length = N := by rw [← hnd, ← hN]; simp [ndL]
    have hsh : ∀ (n : Nat) d, nds[n]? = some d → d.turn = true → d.ok = true ∧ 0 < n := fun n d hd ht => by
      rw [← hnd] at hd
      unfold ndL at hd
      cases n with
      | zero => cases hd; cases ht
      | succ n =>
        rw [List.getElem?_cons_succ, List.getElem?_map] at hd
        cases hL' : B.L[n]? with
        | none => rw [hL'] at hd; cases hd
        | some t =>
          rw [hL'] at hd
          cases hd
          unfold ndT at ht ⊢
          split
          · exact ⟨rfl, Nat.succ_pos _⟩
          · rename_i h4
            rw [if_neg h4] at ht
            cases ht
    have hsz2 : ∀ (n : Nat) d, nds[n]? = some d → d.of.length ≤ 2000000 := fun n d hd => by
      rw [← hnd] at hd
      unfold ndL at hd
      cases n with
      | zero => cases hd; exact Nat.zero_le _
      | succ n =>
        rw [List.getElem?_cons_succ, List.getElem?_map] at hd
        cases hL' : B.L[n]? with
        | none => rw [hL'] at hd; cases hd
        | some t =>
          rw [hL'] at hd
          cases hd
          have hm := List.mem_of_getElem? hL'
          have h1 := (hsz t hm).list
          have h2 := hkt t hm
          unfold ndT
          split
          · show t.list.length ≤ _
            omega
          · show (foundS t.key ++ foundS t.text).length ≤ _
            have h3 := foundS_len t.key
            have h4 := foundS_len t.text
            rw [List.length_append]
            omega
    rw [hnd] at hq ⊢
    rw [hI]
    have hql : qs.length = N := by
      have := congrArg List.length hq
      rw [List.length_map] at this
      omega
    have hq0 : (qs[0]?).map (·.d) = some ⟨[], false, false⟩ := by
      rw [← List.getElem?_map, hq, ← hnd]
      rfl
    clear hnd
    refine loop_rule (ι := List Bool × Bool) 0 (fun j => [(0, .c (.v (.pointer (some ⟨x.b, 0, none⟩)))), (3, .c (.v (.slice (some ⟨b0, 0, none⟩) N N))), (5, .c (.v (.slice S qs.length sc))), (6, .c (.v (.bool j.2)))]) (fun _ => []) (fun j => ndFs ⟨S, sc, qs⟩ ++ (mdFs x ++ [bxF x.bx B y] ++ [rowF ty_bool 1 (.slice (some ⟨b0, 0, none⟩) N N) N (j.1.map Value.bool), mlF]))
      (fun j => Inn nds I j.1 j.1 0 false ∧ (j.2 = false → Least nds I j.1)) (fun j => 2 * cntF j.1 + (if j.2 = true then 1 else 0)) (I, true) ⟨Inn.start (hIl.trans hndl.symm) (Le.refl _) (fun C _ h => h), fun q => by cases q⟩ (Ent.mk' ⟨rfl, rfl, rfl, rfl, trivial⟩ rfl (fun β w' hs => hs)) g ?_
    rintro ⟨m0, more⟩ ⟨hin, hmo⟩
    simp only at hin hmo
    cases more with
    | false =>
      have hle := hmo rfl
      have hlen : m0.length = N := by rw [hin.len]; exact hndl
      intro β w' hs
      refine hs.fin [6, 2, 3, 4, 5] ⟨some ⟨b0, 0, none⟩, m0, N, by rw [hlen]; rfl, hle, ?_⟩ rfl rfl rfl ⟨rfl, rfl, rfl, rfl, rfl, trivial⟩
      unfold mrowF
      rw [hlen]
      rfl
    | true =>
      refine loop_rule (ι := Nat × List Bool × Bool) 0 (fun j => [(0, .c (.v (.pointer (some ⟨x.b, 0, none⟩)))), (3, .c (.v (.slice (some ⟨b0, 0, none⟩) N N))), (5, .c (.v (.slice S qs.length sc))), (6, .c (.v (.bool j.2.2))), (43, .c (.v (.slice S qs.length sc))), (44, .c (.v (.int .i64 (qs.length : Int)))), (45, .c (.v (.int .i64 (j.1 : Int))))]) (fun _ => []) (fun j => ndFs ⟨S, sc, qs⟩ ++ (mdFs x ++ [bxF x.bx B y] ++ [rowF ty_bool 1 (.slice (some ⟨b0, 0, none⟩) N N) N (j.2.1.map Value.bool), mlF]))
        (fun j => Inn nds I m0 j.2.1 j.1 j.2.2 ∧ j.1 ≤ N) (fun j => N - j.1) (0, m0, false) ⟨hin, Nat.zero_le _⟩ (Ent.mk' ⟨rfl, rfl, rfl, rfl, rfl, rfl, rfl, trivial⟩ rfl (fun β w' hs => hs)) g ?_
      rintro ⟨n, made, mo⟩ ⟨hi, hn⟩
      simp only at hi hn
      refine BIf.dec (fun hlt => ?_) (fun hge => ?_)
      · have hlt0 : (n : Int) < (qs.length : Int) := hlt
        obtain ⟨ad, hSA⟩ := hS (by omega)
        obtain ⟨q, hqn, -⟩ := at_lt (show n < qs.length by omega)
        have hd : nds[n]? = some q.d := by rw [← hq, List.getElem?_map, hqn]; rfl
        have hsh1 := hsh n q.d hd
        have hsz1 := hsz2 n q.d hd
        have hmn : made.length = N := hi.len.trans hndl
        refine ⟨ad, n, hSA, rfl, by omega, q.vs, rfl, fun β w' hs => elem3 (row_rd (hs.get 0 rfl)) rfl hSA hqn, ?_⟩
        obtain ⟨⟨of, ok, turn⟩, qA, qc⟩ := q
        simp only at hsh1 hsz1
        obtain ⟨mb, hmb, -⟩ := at_lt (show n < made.length by omega)
        have hmI : IsM made n ↔ mb = true := by rw [isM_iff, hmb, Option.some.injEq]
        have hrdO : ∀ {β : Va} {m : Nat} {H : List Bk} {F : List Fact} {w' : World}, Sat (cx_knows_Mind_all w (Un (mdFs x ++ [bxF x.bx B y]))) β m H F w' → nth F 1 = some (ownN qs) → Rd 1 qA of.length (ints of) w' := fun hs h1 => (show (ownN qs).p _ from hs.get 1 h1) ⟨⟨of, ok, turn⟩, qA, qc⟩ (List.mem_of_getElem? hqn)
        have hmem : ∀ {md : List Bool} {β : Va} {m : Nat} {H : List Bk} {w' : World}, Sat (cx_knows_Mind_all w (Un (mdFs x ++ [bxF x.bx B y]))) β m H (ndFs ⟨S, sc, qs⟩ ++ (mdFs x ++ [bxF x.bx B y] ++ [rowF ty_bool 1 (.slice (some ⟨b0, 0, none⟩) N N) N (md.map Value.bool), mlF])) w' → Mem w' [rdF 1 qA of.length (ints of), rdF 1 (some ⟨b0, 0, none⟩) N (md.map Value.bool)] := fun {md} {β} {m} {H} {w'} hs => by
          have h2 := (asRd hs 6 rfl).asRo 2 rfl
          exact (h2.ofRo 2 rfl (rdF 1 qA of.length (ints of)) rfl (hrdO hs rfl) (fun k hk => ⟨_, List.mem_of_getElem? hqn, hk⟩)).mem.take (js := [0, 1]) rfl
        have hCn : ∀ (md : List Bool) (w' : World), md.length = N → Rd 1 qA of.length (ints of) w' → Mem w' [rdF 1 qA of.length (ints of), rdF 1 (some ⟨b0, 0, none⟩) N (md.map Value.bool)] → Con Tryz.prog n_knows_have #[.slice qA of.length qc, .slice (some ⟨b0, 0, none⟩) N N] w' [] (fun v Fs => v = .bool (haveB of md) ∧ Fs = []) := fun md w' hl hr hm => by
          have h := have_c w' qA (some ⟨b0, 0, none⟩) of md qc N hr hsz1 (by unfold mkF; rw [hl]; exact hm)
          rw [hl] at h
          exact h
        have hLn : ∀ (md : List Bool) (w' : World), md.length = N → Rd 1 qA of.length (ints of) w' → Mem w' [rdF 1 qA of.length (ints of), rdF 1 (some ⟨b0, 0, none⟩) N (md.map Value.bool)] → Con Tryz.prog n_knows_lone #[.slice qA of.length qc, .slice (some ⟨b0, 0, none⟩) N N] w' [] (fun v Fs => v = loneV (leftL md of) ∧ Fs = []) := fun md w' hl hr hm => by
          have h := lone_c w' qA (some ⟨b0, 0, none⟩) of md qc N hr hsz1 (by unfold mkF; rw [hl]; exact hm)
          rw [hl] at h
          exact h
        cases turn with
        | true =>
          obtain ⟨rfl, h0⟩ := hsh1 rfl
          refine BIf.dec (fun hlt => ?_) (fun hge => absurd (show (0 : Int) < (n : Int) by omega) hge)
          refine ⟨_, n, rfl, rfl, by omega, ?_⟩
          refine ⟨.bool mb, fun β w' hs => Rd.cell1 (row_rd (show (rowF ty_bool 1 (.slice (some ⟨b0, 0, none⟩) N N) N (made.map Value.bool)).p w' from hs.get 6 rfl)) (by rw [List.getElem?_map, hmb]; rfl), ?_⟩
          cases mb with
          | true =>
            have hm2 : IsM made n := hmI.2 rfl
            have hl2 := hmn
            have hM : Mid nds I m0 made n mo ⟨of, true, true⟩ := hi.mid_no (fun _ _ _ => hm2)
            refine ⟨_, n, rfl, rfl, by omega, ?_⟩
            refine ⟨.bool true, fun β w' hs => Rd.cell1 (row_rd (show (rowF ty_bool 1 (.slice (some ⟨b0, 0, none⟩) N N) N (made.map Value.bool)).p w' from hs.get 6 rfl)) (by rw [List.getElem?_map, isM_iff.1 hm2]; rfl), ?_⟩
            refine call_con [] (fun β w' hs => hLn made w' hl2 (hrdO hs rfl) (hmem hs)) ?_
            rintro v Fs ⟨rfl, rfl⟩
            obtain ⟨L, hL⟩ : ∃ L, leftL made of = L := ⟨_, rfl⟩
            rw [hL]
            match L, hL with
            | [], hL =>
              refine ⟨((n + 1 : Nat) : Int), by rw [wrap_i64 (by omega) (by omega)]; rfl, ?_⟩
              exact ⟨(n + 1, made, mo), ⟨hM.next_no hd (fun _ _ _ k hk => by rw [hL] at hk; cases hk), by show n + 1 ≤ N; omega⟩, by show N - (n + 1) < N - n; omega, Ent.mk' ⟨rfl, rfl, rfl, rfl, rfl, rfl, rfl, trivial⟩ rfl (fun β w' hs => (hs.keepB (List.nil_sublist _)).lower)⟩
            | [k], hL =>
              refine BIf.dec (fun hk => ?_) (fun hk => ?_)
              · have hk0 : (k : Int) < (N : Int) := hk
                refine ⟨_, k, rfl, rfl, by omega, ?_⟩
                refine ⟨_, fun β w' hs => Sat.rowSet hs (j := 6) (us := [.bool true]) rfl (by show k * 1 + 1 ≤ N * 1; omega) (fun u hu => by obtain rfl := List.mem_singleton.1 hu; rfl), ?_⟩
                refine ⟨((n + 1 : Nat) : Int), by rw [wrap_i64 (by omega) (by omega)]; rfl, ?_⟩
                refine ⟨(n + 1, made.set k true, true), ⟨hM.next_put hd h0 rfl hm2 hL (by omega), by show n + 1 ≤ N; omega⟩, by show N - (n + 1) < N - n; omega, ?_⟩
                simp only [← bools_set]
                exact Ent.mk' ⟨rfl, rfl, rfl, rfl, rfl, rfl, rfl, trivial⟩ rfl (fun β w' hs => (hs.keepB (List.nil_sublist _)).lower)
              · have hk0 : ¬ (k : Int) < (N : Int) := hk
                refine ⟨((n + 1 : Nat) : Int), by rw [wrap_i64 (by omega) (by omega)]; rfl, ?_⟩
                exact ⟨(n + 1, made, mo), ⟨hM.next_no hd (fun _ _ _ k2 hk2 hlt2 => by rw [hL] at hk2; cases hk2; omega), by show n + 1 ≤ N; omega⟩, by show N - (n + 1) < N - n; omega, Ent.mk' ⟨rfl, rfl, rfl, rfl, rfl, rfl, rfl, trivial⟩ rfl (fun β w' hs => (hs.keepB (List.nil_sublist _)).lower)⟩
            | a :: b :: r, hL =>
              refine ⟨((n + 1 : Nat) : Int), by rw [wrap_i64 (by omega) (by omega)]; rfl, ?_⟩
              exact ⟨(n + 1, made, mo), ⟨hM.next_no hd (fun _ _ _ k hk => by rw [hL] at hk; cases hk), by show n + 1 ≤ N; omega⟩, by show N - (n + 1) < N - n; omega, Ent.mk' ⟨rfl, rfl, rfl, rfl, rfl, rfl, rfl, trivial⟩ rfl (fun β w' hs => (hs.keepB (List.nil_sublist _)).lower)⟩
          | false =>
            have hm2' : ¬ IsM made n := fun q => by have := hmI.1 q; cases this
            refine call_con [] (fun β w' hs => hCn made w' hmn (hrdO hs rfl) (hmem hs)) ?_
            rintro v Fs ⟨rfl, rfl⟩
            cases hv : haveB of made with
            | true =>
              refine ⟨_, n, rfl, rfl, by omega, ?_⟩
              refine ⟨_, fun β w' hs => Sat.rowSet hs (j := 6) (us := [.bool true]) rfl (by show n * 1 + 1 ≤ N * 1; omega) (fun u hu => by obtain rfl := List.mem_singleton.1 hu; rfl), ?_⟩
              have hm2 : IsM (made.set n true) n := (isM_set (by omega)).2 (.inr rfl)
              have hl2 : (made.set n true).length = N := by rw [List.length_set]; exact hmn
              have hM : Mid nds I m0 (made.set n true) n true ⟨of, true, true⟩ := hi.mid_put hd h0 hm2' rfl hv
              refine ⟨_, n, rfl, rfl, by omega, ?_⟩
              refine ⟨.bool true, fun β w' hs => Rd.cell1 (row_rd (show (rowF ty_bool 1 (.slice (some ⟨b0, 0, none⟩) N N) N ((made.set n true).map Value.bool)).p w' from (by rw [← bools_set]; exact hs.get 6 rfl))) (by rw [List.getElem?_map, isM_iff.1 hm2]; rfl), ?_⟩
              refine call_con [] (fun β w' hs => hLn (made.set n true) w' hl2 (hrdO hs rfl) (hmem (md := made.set n true) (by rw [← bools_set]; exact hs))) ?_
              rintro v Fs ⟨rfl, rfl⟩
              obtain ⟨L, hL⟩ : ∃ L, leftL (made.set n true) of = L := ⟨_, rfl⟩
              rw [hL]
              match L, hL with
              | [], hL =>
                refine ⟨((n + 1 : Nat) : Int), by rw [wrap_i64 (by omega) (by omega)]; rfl, ?_⟩
                refine ⟨(n + 1, made.set n true, true), ⟨hM.next_no hd (fun _ _ _ k hk => by rw [hL] at hk; cases hk), by show n + 1 ≤ N; omega⟩, by show N - (n + 1) < N - n; omega, ?_⟩
                simp only [← bools_set]
                exact Ent.mk' ⟨rfl, rfl, rfl, rfl, rfl, rfl, rfl, trivial⟩ rfl (fun β w' hs => (hs.keepB (List.nil_sublist _)).lower)
              | [k], hL =>
                refine BIf.dec (fun hk => ?_) (fun hk => ?_)
                · have hk0 : (k : Int) < (N : Int) := hk
                  refine ⟨_, k, rfl, rfl, by omega, ?_⟩
                  refine ⟨_, fun β w' hs => Sat.rowSet hs (j := 6) (us := [.bool true]) rfl (by show k * 1 + 1 ≤ N * 1; omega) (fun u hu => by obtain rfl := List.mem_singleton.1 hu; rfl), ?_⟩
                  refine ⟨((n + 1 : Nat) : Int), by rw [wrap_i64 (by omega) (by omega)]; rfl, ?_⟩
                  refine ⟨(n + 1, (made.set n true).set k true, true), ⟨hM.next_put hd h0 rfl hm2 hL (by omega), by show n + 1 ≤ N; omega⟩, by show N - (n + 1) < N - n; omega, ?_⟩
                  simp only [← bools_set]
                  exact Ent.mk' ⟨rfl, rfl, rfl, rfl, rfl, rfl, rfl, trivial⟩ rfl (fun β w' hs => (hs.keepB (List.nil_sublist _)).lower)
                · have hk0 : ¬ (k : Int) < (N : Int) := hk
                  refine ⟨((n + 1 : Nat) : Int), by rw [wrap_i64 (by omega) (by omega)]; rfl, ?_⟩
                  refine ⟨(n + 1, made.set n true, true), ⟨hM.next_no hd (fun _ _ _ k2 hk2 hlt2 => by rw [hL] at hk2; cases hk2; omega), by show n + 1 ≤ N; omega⟩, by show N - (n + 1) < N - n; omega, ?_⟩
                  simp only [← bools_set]
                  exact Ent.mk' ⟨rfl, rfl, rfl, rfl, rfl, rfl, rfl, trivial⟩ rfl (fun β w' hs => (hs.keepB (List.nil_sublist _)).lower)
              | a :: b :: r, hL =>
                refine ⟨((n + 1 : Nat) : Int), by rw [wrap_i64 (by omega) (by omega)]; rfl, ?_⟩
                refine ⟨(n + 1, made.set n true, true), ⟨hM.next_no hd (fun _ _ _ k hk => by rw [hL] at hk; cases hk), by show n + 1 ≤ N; omega⟩, by show N - (n + 1) < N - n; omega, ?_⟩
                simp only [← bools_set]
                exact Ent.mk' ⟨rfl, rfl, rfl, rfl, rfl, rfl, rfl, trivial⟩ rfl (fun β w' hs => (hs.keepB (List.nil_sublist _)).lower)
            | false =>
              refine ⟨_, n, rfl, rfl, by omega, ?_⟩
              refine ⟨.bool false, fun β w' hs => Rd.cell1 (row_rd (show (rowF ty_bool 1 (.slice (some ⟨b0, 0, none⟩) N N) N (made.map Value.bool)).p w' from hs.get 6 rfl)) (by rw [List.getElem?_map, hmb]; rfl), ?_⟩
              refine ⟨((n + 1 : Nat) : Int), by rw [wrap_i64 (by omega) (by omega)]; rfl, ?_⟩
              exact ⟨(n + 1, made, mo), ⟨(hi.mid_no (d := ⟨of, true, true⟩) (fun _ _ q => by rw [hv] at q; cases q)).next_no hd (fun _ _ q => absurd q hm2'), by show n + 1 ≤ N; omega⟩, by show N - (n + 1) < N - n; omega, Ent.mk' ⟨rfl, rfl, rfl, rfl, rfl, rfl, rfl, trivial⟩ rfl (fun β w' hs => (hs.keepB (List.nil_sublist _)).lower)⟩
        | false =>
          refine BIf.dec (fun hlt => ?_) (fun hge => ?_)
          · have h0 : (0 : Int) < (n : Int) := hlt
            refine ⟨_, n, rfl, rfl, by omega, ?_⟩
            refine ⟨.bool mb, fun β w' hs => Rd.cell1 (row_rd (show (rowF ty_bool 1 (.slice (some ⟨b0, 0, none⟩) N N) N (made.map Value.bool)).p w' from hs.get 6 rfl)) (by rw [List.getElem?_map, hmb]; rfl), ?_⟩
            cases mb with
            | true =>
              have hm2 : IsM made n := hmI.2 rfl
              refine ⟨((n + 1 : Nat) : Int), by rw [wrap_i64 (by omega) (by omega)]; rfl, ?_⟩
              exact ⟨(n + 1, made, mo), ⟨(hi.mid_no (d := ⟨of, ok, false⟩) (fun _ _ _ => hm2)).next_no hd (fun _ q => by cases q), by show n + 1 ≤ N; omega⟩, by show N - (n + 1) < N - n; omega, Ent.mk' ⟨rfl, rfl, rfl, rfl, rfl, rfl, rfl, trivial⟩ rfl (fun β w' hs => (hs.keepB (List.nil_sublist _)).lower)⟩
            | false =>
              have hm2' : ¬ IsM made n := fun q => by have := hmI.1 q; cases this
              cases ok with
              | false =>
                refine ⟨((n + 1 : Nat) : Int), by rw [wrap_i64 (by omega) (by omega)]; rfl, ?_⟩
                exact ⟨(n + 1, made, mo), ⟨(hi.mid_no (d := ⟨of, false, false⟩) (fun _ q => by cases q)).next_no hd (fun _ q => by cases q), by show n + 1 ≤ N; omega⟩, by show N - (n + 1) < N - n; omega, Ent.mk' ⟨rfl, rfl, rfl, rfl, rfl, rfl, rfl, trivial⟩ rfl (fun β w' hs => (hs.keepB (List.nil_sublist _)).lower)⟩
              | true =>
                refine call_con [] (fun β w' hs => hCn made w' hmn (hrdO hs rfl) (hmem hs)) ?_
                rintro v Fs ⟨rfl, rfl⟩
                cases hv : haveB of made with
                | true =>
                  refine ⟨_, n, rfl, rfl, by omega, ?_⟩
                  refine ⟨_, fun β w' hs => Sat.rowSet hs (j := 6) (us := [.bool true]) rfl (by show n * 1 + 1 ≤ N * 1; omega) (fun u hu => by obtain rfl := List.mem_singleton.1 hu; rfl), ?_⟩
                  refine ⟨((n + 1 : Nat) : Int), by rw [wrap_i64 (by omega) (by omega)]; rfl, ?_⟩
                  refine ⟨(n + 1, made.set n true, true), ⟨(hi.mid_put hd (show 0 < n by omega) hm2' rfl hv).next_no hd (fun _ q => by cases q), by show n + 1 ≤ N; omega⟩, by show N - (n + 1) < N - n; omega, ?_⟩
                  simp only [← bools_set]
                  exact Ent.mk' ⟨rfl, rfl, rfl, rfl, rfl, rfl, rfl, trivial⟩ rfl (fun β w' hs => (hs.keepB (List.nil_sublist _)).lower)
                | false =>
                  refine ⟨((n + 1 : Nat) : Int), by rw [wrap_i64 (by omega) (by omega)]; rfl, ?_⟩
                  exact ⟨(n + 1, made, mo), ⟨(hi.mid_no (d := ⟨of, true, false⟩) (fun _ _ q => by rw [hv] at q; cases q)).next_no hd (fun _ q => by cases q), by show n + 1 ≤ N; omega⟩, by show N - (n + 1) < N - n; omega, Ent.mk' ⟨rfl, rfl, rfl, rfl, rfl, rfl, rfl, trivial⟩ rfl (fun β w' hs => (hs.keepB (List.nil_sublist _)).lower)⟩
          · have h0 : ¬ (0 : Int) < (n : Int) := hge
            refine ⟨((n + 1 : Nat) : Int), by rw [wrap_i64 (by omega) (by omega)]; rfl, ?_⟩
            exact ⟨(n + 1, made, mo), ⟨(hi.mid_no (d := ⟨of, ok, false⟩) (fun q => absurd q (by omega))).next_no hd (fun q => absurd q (by omega)), by show n + 1 ≤ N; omega⟩, by show N - (n + 1) < N - n; omega, Ent.mk' ⟨rfl, rfl, rfl, rfl, rfl, rfl, rfl, trivial⟩ rfl (fun β w' hs => (hs.keepB (List.nil_sublist _)).lower)⟩
      · have hge0 : ¬ (n : Int) < (qs.length : Int) := hge
        obtain rfl : n = N := by omega
        have hi2 : Inn nds I m0 made nds.length mo := by rw [hndl]; exact hi
        refine ⟨(made, mo), ⟨Inn.start hi.len hi.le0 hi.least, fun q => by obtain rfl : mo = false := q; exact hi2.done⟩, ?_, Ent.mk' ⟨rfl, rfl, rfl, rfl, trivial⟩ rfl (fun β w' hs => hs)⟩
        show (2 * cntF made + if mo = true then 1 else 0) < 2 * cntF m0 + 1
        have hc := hi.cnt
        cases mo with
        | false => simp; omega
        | true => have := hi.lt rfl; simp; omega
end Go.Proofs.YtoifclfanabalaaGreatDoor.Sx

/- Can a handle be made? And what is found in a short text, and in a handle. -/
namespace Go.Proofs.YtoifclfanabalaaGreatDoor.Sx
open Go
attribute [local irreducible] Calls

theorem made_c (w : World) (x : Md) (B : Bx.Box) (y : Lay) (n : Int) (hts : y.ts.map (·.1) = B.L) (hL : B.L.length ≤ 4096) (hsz : ∀ t ∈ B.L, TSz t) (hkt : ∀ t ∈ B.L, t.key.length ≤ 70000 ∧ t.text.length ≤ 70000) (hsl : ∀ s ∈ x.ss, s.length ≤ 1000000) (hps : x.ps.length ≤ 1000000) (hm : Mem w (mdFs x ++ [bxF x.bx B y, mlF])) :
    Con Tryz.prog n_knows_Mind_Made #[.pointer (some ⟨x.b, 0, none⟩), .int .i64 n] w (mdFs x ++ [bxF x.bx B y]) fun v Fs => ∃ R, Least (ndL x.ss B.L) (marksOf (B.L.length + 1) x.seen) R ∧ v = .bool (markB R n) ∧ Fs = mdFs x ++ [bxF x.bx B y] := by
  have g := good_knows_Mind_Made w (Un (mdFs x ++ [bxF x.bx B y]))
  have hs0 : Sat (cx_knows_Mind_Made w (Un (mdFs x ++ [bxF x.bx B y]))) Va.z 0 [] (mdFs x ++ [bxF x.bx B y, mlF]) w := hm.sat0 rfl (fun f hf ho k hk => by
    rcases List.mem_append.1 hf with hf | hf
    · exact ⟨f, List.mem_append_left _ hf, hk⟩
    · simp only [List.mem_cons, List.not_mem_nil, or_false] at hf
      rcases hf with rfl | rfl
      · exact ⟨_, List.mem_append_right _ (List.mem_singleton.2 rfl), hk⟩
      · cases ho)
  refine con_of_sx (cx := cx_knows_Mind_Made w (Un (mdFs x ++ [bxF x.bx B y]))) g b_knows_Mind_Made rfl rfl (β := Va.z) [.c (.v (.pointer (some ⟨x.b, 0, none⟩))), .c (.v (.int .i64 n))] 0 [] _ rfl rfl hs0 ?_
  refine call_con [0, 1, 2, 3] (R := fun v Fs => ∃ D R d, v = .slice D (List.length R) d ∧ Least (ndL x.ss B.L) (marksOf (B.L.length + 1) x.seen) R ∧ Fs = mrowF D R d :: (mdFs x ++ [bxF x.bx B y])) (hown := ⟨rfl, rfl, rfl, rfl, trivial⟩) (fun β w' hs => all_c w' x B y hts hL hsz hkt hsl hps hs.mem) ?_
  rintro v Fs ⟨D, R, d, rfl, hR, rfl⟩
  refine call_pu (fun β w' hs => marked_c w' D R d n (row_rd (hs.get 0 rfl))) ?_
  intro β w' hs
  exact hs.fin [1, 2, 3, 4] ⟨R, hR, rfl, rfl⟩ rfl rfl rfl ⟨rfl, rfl, rfl, rfl, trivial⟩
theorem mem_setPut {l : List Nat} {n m : Nat} : m ∈ setPut l n ↔ m ∈ l ∨ m = n := by
  unfold setPut
  split
  · rename_i h
    exact ⟨.inl, fun q => q.elim id (fun e => e ▸ h)⟩
  · rw [List.mem_append, List.mem_singleton]
theorem mem_setPuts : ∀ {ns l : List Nat} {m : Nat}, m ∈ ns.foldl setPut l ↔ m ∈ l ∨ m ∈ ns
  | [], l, m => by simp
  | n :: r, l, m => by
    rw [List.foldl_cons, mem_setPuts, mem_setPut, List.mem_cons, or_assoc]
theorem mem_foundS {t : List UInt8} {n : Nat} : n ∈ foundS t ↔ n ∈ foundL t := by
  unfold foundS sortN
  rw [List.mem_mergeSort, mem_setPuts]
  simp
theorem nums_short {t : List UInt8} (h : t.length < 32) : numsL t = [] := by
  unfold numsL
  rw [scan_end (by omega)]
  rfl
theorem foundL_short {t : List UInt8} (h : t.length + 3 < 32) : foundL t = [] := by
  unfold foundL
  rw [nums_short (by omega), List.nil_append, List.flatMap_eq_nil_iff]
  intro s hs
  rw [List.flatMap_eq_nil_iff]
  intro q hq
  have h1 := runsA_len hs
  have h2 := readL_len hq
  exact nums_short (by omega)
theorem foundS_short {t : List UInt8} (h : t.length + 3 < 32) : foundS t = [] := by
  unfold foundS
  rw [foundL_short h]
  simp [sortN]
theorem scan_handle {n : Nat} (hn : n < 4294967296) (h0 : 0 < n) : scan (Bx.handle n) 0 = [(0, n)] := by
  have hl := Bx.handle_len n
  have hh : hit (Bx.handle n) 0 = some n := by
    unfold hit
    rw [List.drop_zero, List.take_of_length_le (by omega), Bx.looks_handle hn]
    simp only
    rw [if_pos h0]
  rw [scan_hit (by omega) hh, scan_end (by omega)]
theorem found_handle {n : Nat} (hn : n < 4294967296) (h0 : 0 < n) : n ∈ foundS (Bx.handle n) := by
  rw [mem_foundS]
  unfold foundL numsL
  rw [scan_handle hn h0]
  simp
theorem between_short {ss : List (List UInt8)} {p : List UInt8} (h : p.length < 32) : betweenB ss p = plainB ss p := by
  unfold betweenB
  rw [scan_end (by omega)]
  simp [gaps]
end Go.Proofs.YtoifclfanabalaaGreatDoor.Sx

/- A box's calls: what is told has its length. -/
namespace Go.Proofs.YtoifclfanabalaaGreatDoor.Sx
open Go
attribute [local irreducible] Calls

/-- What a box tells, and the box behind it. -/
def outL (F : Bx.Box → Lay → Fact) (r : List UInt8 × Bx.Box) (v : Value) (Fs : List Fact) : Prop :=
  ∃ A c y', v = .slice A r.1.length c ∧ r.1.length ≤ c ∧ c ≤ maxLen ∧ y'.ts.map (·.1) = r.2.L ∧ Fs = [browF ty_uint8 A r.1 c, F r.2 y']
theorem boxOut_L {b : Nat} {r : List UInt8 × Bx.Box} {v : Value} {Fs : List Fact} (h : r.1.length = 32) (k : boxOut b r v Fs) : outL (bxF b) r v Fs := by
  obtain ⟨A, c, y', rfl, h1, h2, h3, rfl⟩ := k
  exact ⟨A, c, y', by rw [h], by rw [h]; exact h1, h2, h3, rfl⟩
theorem one_part (A : Option Addr) (l : List UInt8) (c : Nat) : partsT [(A, l, c)] = l := by simp [partsT]
theorem hashL_c (w : World) (b : Nat) (B : Bx.Box) (y : Lay) (b0 : Nat) (A : Option Addr) (l : List UInt8) (c : Nat) (hts : y.ts.map (·.1) = B.L) (hi : BInv B) (hL : B.L.length < 4096) (hn : l.length ≤ 1000000) (hm : Mem w [bxF b B y, partF (some ⟨b0, 0, none⟩) [(A, l, c)], oddF 2, firstF 0]) :
    Con Tryz.prog n_box_Box_Hash #[ptrB b, .slice (some ⟨b0, 0, none⟩) 1 1] w [bxF b B y] (outL (bxF b) (hashB B l)) := by
  have k := hashP_c w b B y b0 [(A, l, c)] 1 hts (by omega) (by simp) (Nat.le_refl 1) (by show 1 ≤ 1000; decide) (by rw [one_part]; exact hn) hm
  rw [one_part] at k
  exact k.mono fun v Fs h => boxOut_L (hash_good hi hL hn).2.1 h
theorem macL_c (w : World) (b : Nat) (B : Bx.Box) (y : Lay) (K : Option Addr) (key : List UInt8) (cK : Nat) (b0 : Nat) (A : Option Addr) (l : List UInt8) (c : Nat) (hts : y.ts.map (·.1) = B.L) (hi : BInv B) (hL : B.L.length < 4096) (hk : key.length ≤ 1000000) (hn : l.length ≤ 1000000) (hm : Mem w [bxF b B y, partF (some ⟨b0, 0, none⟩) [(A, l, c)], bsF K key, oddF 2, firstF 0]) :
    Con Tryz.prog n_box_Box_Mac #[ptrB b, .slice K key.length cK, .slice (some ⟨b0, 0, none⟩) 1 1] w [bxF b B y] (outL (bxF b) (macB B key l)) := by
  have k := macP_c w b B y K key cK b0 [(A, l, c)] 1 hts (by omega) hk (by simp) (Nat.le_refl 1) (by show 1 ≤ 1000; decide) (by rw [one_part]; exact hn) hm
  rw [one_part] at k
  exact k.mono fun v Fs h => boxOut_L (mac_good hi hL hk hn).2.1 h
end Go.Proofs.YtoifclfanabalaaGreatDoor.Sx

/- The document's example of what can be known. -/
namespace Go.Proofs.YtoifclfanabalaaGreatDoor.Sx
open Go
attribute [local irreducible] Calls

def tK : Bx.Term := macT [107] [97]
def BK : Bx.Box := ⟨true, false, [tA, tK]⟩
theorem hash_a : hashB B0 [97] = (Bx.handle 1, B1) := tag_A
theorem mac_ka : macB B1 [107] [97] = (Bx.handle 2, BK) := tag_new (B := B1) (t := tK) (place_not (by simp [B1, tA, tK, hashT, macT])) (by decide)
theorem inv0 : BInv B0 := ⟨fun t h => (by cases h), List.nodup_nil, fun t h => (by cases h), fun _ => rfl, by decide⟩
theorem inv1 : BInv B1 := by have h := (hash_good inv0 (t := [97]) (by decide) (by decide)).1.inv; rw [hash_a] at h; exact h
theorem invK : BInv BK := by have h := (mac_good inv1 (k := [107]) (t := [97]) (by decide) (by decide) (by decide)).1.inv; rw [mac_ka] at h; exact h
def ndsK : List Nd := [⟨[], false, false⟩, ⟨[], true, false⟩, ⟨[], false, false⟩]
theorem nds_k : ndL [[107]] BK.L = ndsK := by
  have e1 : ndT [[107]] tA = ⟨[], true, false⟩ := by
    unfold ndT
    rw [if_neg (by decide), show tA.key = [] from rfl, show tA.text = [97] from rfl, foundS_short (by decide), foundS_short (by decide), between_short (by decide), between_short (by decide)]
    have h1 : plainB [[107]] [] = true := by decide +kernel
    have h2 : plainB [[107]] [97] = true := by decide +kernel
    rw [h1, h2]
    rfl
  have e2 : ndT [[107]] tK = ⟨[], false, false⟩ := by
    unfold ndT
    rw [if_neg (by decide), show tK.key = [107] from rfl, show tK.text = [97] from rfl, foundS_short (by decide), foundS_short (by decide), between_short (by decide)]
    have h1 : plainB [[107]] [107] = false := by decide +kernel
    rw [h1]
    rfl
  show ⟨[], false, false⟩ :: [ndT [[107]] tA, ndT [[107]] tK] = _
  rw [e1, e2]
  rfl
theorem least_1 {I R : List Bool} (h : Least ndsK I R) : markB R (1 : Int) = true := by
  have h1 := (h.1.2 1 ⟨[], true, false⟩ rfl (by decide)).1 rfl (by unfold haveB; rfl)
  exact h1
theorem least_2 {R : List Bool} (h : Least ndsK (marksOf 3 []) R) : markB R (2 : Int) = false := by
  have hC : Closed ndsK [false, true, false] := by
    refine ⟨rfl, fun n d hd h0 => ?_⟩
    match n, hd, h0 with
    | 0, _, h0 => exact absurd h0 (by decide)
    | 1, hd, _ => cases hd; exact ⟨fun _ _ => rfl, fun q => (by cases q)⟩
    | 2, hd, _ => cases hd; exact ⟨fun q => (by cases q), fun q => (by cases q)⟩
    | n + 3, hd, _ => cases hd
  have hle : Le (marksOf 3 []) [false, true, false] := ⟨rfl, fun n q => by have := (marksOf_iff.1 q).2; cases this⟩
  have hr := (h.2.2 _ hC hle).2 2
  cases hm : markB R (2 : Int) with
  | false => rfl
  | true => exact absurd (hr hm) (by unfold IsM; decide)
theorem least_3 {s : List Nat} {R : List Bool} (h : Least ndsK (marksOf 3 s) R) (hs : 2 ∈ s) : markB R (2 : Int) = true := h.2.1.2 2 (marksOf_iff.2 ⟨by decide, hs⟩)
theorem tsz_K : ∀ t ∈ BK.L, t.key.length ≤ 70000 ∧ t.text.length ≤ 70000 := by
  intro t ht
  have : t = tA ∨ t = tK := by simpa [BK] using ht
  rcases this with rfl | rfl <;> exact ⟨by decide, by decide⟩
theorem awake28_c (w : World) (hm : Mem w [mlF, oddF 2, firstF 0]) : Con Tryz.prog n_ostiarylaw28_awake #[] w [] fun v Fs => v = .bool true ∧ Fs = [] := by
  have g := good_ostiarylaw28_awake w (Un [])
  have hs0 : Sat (cx_ostiarylaw28_awake w (Un [])) Va.z 0 [] [mlF, oddF 2, firstF 0] w := hm.sat0 rfl (fun f hf ho k hk => by
    simp only [List.mem_cons, List.not_mem_nil, or_false] at hf
    rcases hf with rfl | rfl | rfl <;> cases ho)
  refine con_of_sx (cx := cx_ostiarylaw28_awake w (Un [])) g b_ostiarylaw28_awake rfl rfl (β := Va.z) [] 0 [] _ rfl rfl hs0 ?_
  refine call_con [] (fun β w' hs => newX_c w' true) ?_
  rintro v Fs ⟨b, y0, rfl, hy0, rfl⟩
  intro b1
  refine ⟨0, _, rfl, ?_⟩
  intro b2
  refine call_con [2] (R := outL (bxF b) (hashB B0 [97])) (fun β w' hs => by
    have h2 := (hs.rowRd 0 rfl).part1 (l := [97]) [0, 1] rfl
    exact hashL_c w' b B0 y0 b2 (some ⟨b1, 0, none⟩) [97] 1 (by rw [hy0]; rfl) inv0 (by decide) (by decide) (h2.mem.take (js := [3, 0, 5, 6]) rfl)) ?_
  rw [hash_a]
  rintro v Fs ⟨A1, c1, y1, rfl, p1, p2, hy1, rfl⟩
  intro b3
  refine ⟨0, _, rfl, ?_⟩
  intro b4
  refine ⟨0, _, rfl, ?_⟩
  intro b5
  refine call_con [4] (R := outL (bxF b) (macB B1 [107] [97])) (fun β w' hs => by
    have h2 := (hs.rowRd 0 rfl).part1 (l := [97]) [0, 1] rfl
    exact macL_c w' b B1 y1 (some ⟨b3, 0, none⟩) [107] 1 b5 (some ⟨b4, 0, none⟩) [97] 1 hy1 inv1 (by decide) (by decide) (by decide) (h2.mem.take (js := [5, 0, 3, 9, 10]) rfl)) ?_
  rw [mac_ka]
  rintro v Fs ⟨A2, c2, y2, rfl, p3, p4, hy2, rfl⟩
  intro b6
  refine ⟨0, _, rfl, ?_⟩
  intro b7
  refine call_con [3] (R := fun v Fs => ∃ x : Md, v = .tuple #[.pointer (some ⟨x.b, 0, none⟩), .int .i64 0] ∧ x.bx = b ∧ x.ss = [[107]] ∧ x.seen = [] ∧ Fs = mdFs x ++ [bxF b BK y2]) (fun β w' hs => by
    have h2 := (hs.rowRd 0 rfl).part1 (l := [107]) [0, 1] rfl
    exact knowsNew_c w' b BK y2 (some ⟨b7, 0, none⟩) [(some ⟨b6, 0, none⟩, [107], 1)] 1 rfl (by show 1 ≤ 1000; decide) (fun q hq => by obtain rfl := List.mem_singleton.1 hq; exact ⟨by show 1 ≤ 1000; decide, Nat.le_refl 1⟩) (h2.mem.take (js := [4, 0]) rfl)) ?_
  rintro v Fs ⟨x, rfl, rfl, hss, hsn, rfl⟩
  have hpl : x.ps.length ≤ 1000000 := by
    have := congrArg List.length hss
    unfold Md.ss at this
    rw [List.length_map] at this
    rw [this]
    decide
  have hsl : ∀ s ∈ x.ss, s.length ≤ 1000000 := fun s h => by rw [hss] at h; obtain rfl := List.mem_singleton.1 h; decide
  have hnd : ndL x.ss BK.L = ndsK := by rw [hss]; exact nds_k
  refine call_con [0, 1, 2, 3] (R := fun v Fs => v = .bool true ∧ Fs = mdFs x ++ [bxF x.bx BK y2]) (hown := ⟨rfl, rfl, rfl, rfl, trivial⟩) (fun β w' hs => (made_c w' x BK y2 1 hy2 (by decide) invK.sz tsz_K hsl hpl (hs.mem.take (js := [0, 1, 2, 3, 13]) rfl)).mono fun v Fs ⟨R, hR, e1, e2⟩ => ⟨by rw [hnd] at hR; rw [e1, least_1 hR], e2⟩) ?_
  rintro v Fs ⟨rfl, rfl⟩
  refine call_con [0, 1, 2, 3] (R := fun v Fs => v = .bool false ∧ Fs = mdFs x ++ [bxF x.bx BK y2]) (hown := ⟨rfl, rfl, rfl, rfl, trivial⟩) (fun β w' hs => (made_c w' x BK y2 2 hy2 (by decide) invK.sz tsz_K hsl hpl (hs.mem.take (js := [0, 1, 2, 3, 13]) rfl)).mono fun v Fs ⟨R, hR, e1, e2⟩ => ⟨by rw [hnd, hsn] at hR; rw [e1, least_2 hR], e2⟩) ?_
  rintro v Fs ⟨rfl, rfl⟩
  refine call_con [] (fun β w' hs => handle_c w' 2) ?_
  rintro v Fs ⟨A3, c3, rfl, p5, p6, rfl⟩
  refine call_con [1, 2, 3] (R := fun v Fs => v = .tuple #[] ∧ Fs = mdFs { x with seen := (foundS (Bx.handle 2)).foldl setPut x.seen }) (hown := ⟨rfl, rfl, rfl, trivial⟩) (fun β w' hs => by
    have h2 := hs.rdRow 0 rfl
    have h3 := See_c w' x A3 (Bx.handle 2) c3 (by rw [Bx.handle_len]; decide) (by rw [Bx.handle_len]; exact p5) (h2.mem.take (js := [1, 2, 3, 0]) rfl)
    rw [Bx.handle_len] at h3
    exact h3) ?_
  rintro v Fs ⟨rfl, rfl⟩
  obtain ⟨x2, hx2⟩ : ∃ x2 : Md, x2 = { x with seen := (foundS (Bx.handle 2)).foldl setPut x.seen } := ⟨_, rfl⟩
  have e1 : x2.b = x.b := by rw [hx2]
  have e2 : x2.bx = x.bx := by rw [hx2]
  have e3 : x2.ss = x.ss := by rw [hx2]; rfl
  have e4 : x2.ps = x.ps := by rw [hx2]
  have e5 : 2 ∈ x2.seen := by rw [hx2]; exact mem_setPuts.2 (.inr (found_handle (by decide) (by decide)))
  rw [← hx2]
  clear hx2
  rw [← e2, ← e1]
  refine call_con [0, 1, 2, 4] (R := fun v Fs => v = .bool true ∧ Fs = mdFs x2 ++ [bxF x2.bx BK y2]) (hown := ⟨rfl, rfl, rfl, rfl, trivial⟩) (fun β w' hs => (made_c w' x2 BK y2 2 hy2 (by decide) invK.sz tsz_K (by rw [e3]; exact hsl) (by rw [e4]; exact hpl) (hs.mem.take (js := [0, 1, 2, 4, 14]) rfl)).mono fun v Fs ⟨R, hR, e1, e2⟩ => ⟨by rw [e3, hnd] at hR; rw [e1, least_3 hR e5], e2⟩) ?_
  rintro v Fs ⟨rfl, rfl⟩
  intro β w' hs
  exact hs.fin [] ⟨rfl, rfl⟩
end Go.Proofs.YtoifclfanabalaaGreatDoor.Sx

/- What of sums with one key can be made: plainly. -/
namespace Go.Proofs.YtoifclfanabalaaGreatDoor.Sx
open Go
attribute [local irreducible] Calls

theorem decG_len3 : ∀ {vs : List Nat} {l : List UInt8}, decG vs = some l → 4 * l.length ≤ 3 * vs.length
  | [], l, h => by
    simp only [decG] at h
    obtain rfl := Option.some.inj h
    exact Nat.le_refl _
  | [a], l, h => by simp [decG] at h
  | [a, b], l, h => by
    simp only [decG] at h
    split at h
    · obtain rfl := Option.some.inj h
      simp
    · cases h
  | [a, b, c], l, h => by
    simp only [decG] at h
    split at h
    · obtain rfl := Option.some.inj h
      simp
    · cases h
  | a :: b :: c :: d :: r, l, h => by
    simp only [decG] at h
    cases hr : decG r with
    | none => rw [hr] at h; cases h
    | some m =>
      rw [hr] at h
      obtain rfl := Option.some.inj h
      have := decG_len3 hr
      simp only [List.length_cons]
      omega
theorem decS_len3 {url : Bool} {s l : List UInt8} (h : decS url s = some l) : 4 * l.length ≤ 3 * s.length := by
  unfold decS at h
  cases hv : valsA url s with
  | none => rw [hv] at h; cases h
  | some vs =>
    rw [hv] at h
    have h1 := decG_len3 (show decG vs = some l from h)
    rw [(valsA_len hv).1] at h1
    exact h1
theorem unhexA_len2 : ∀ {s l : List UInt8}, unhexA s = some l → 2 * l.length ≤ s.length
  | [], l, h => by
    obtain rfl := Option.some.inj h
    exact Nat.le_refl _
  | [_], l, h => by cases h
  | a :: b :: r, l, h => by
    simp only [unhexA] at h
    cases ha : digA a with
    | none => rw [ha] at h; cases h
    | some x =>
      cases hb : digA b with
      | none => rw [ha, hb] at h; cases h
      | some y =>
        cases hr : unhexA r with
        | none => rw [ha, hb, hr] at h; cases h
        | some m =>
          rw [ha, hb, hr] at h
          obtain rfl := Option.some.inj h
          have := unhexA_len2 hr
          simp only [List.length_cons]
          omega
theorem readL_len3 {s q : List UInt8} (h : q ∈ readL s) : 4 * q.length ≤ 3 * (s.length + 3) := by
  unfold readL at h
  rcases List.mem_append.1 h with h | h
  · have h0 := Option.mem_toList.1 h
    unfold decP at h0
    split at h0
    · cases h0
    · split at h0
      · cases h0
      · have h1 := decS_len3 (show decS false _ = some q from h0)
        have h2 := strip_len (strip (s ++ eqs ((4 - s.length % 4) % 4)))
        have h3 := strip_len (s ++ eqs ((4 - s.length % 4) % 4))
        rw [unpad_strip] at h1
        rw [List.length_append] at h3
        simp only [eqs, List.length_replicate] at h1 h2 h3
        omega
  · rcases List.mem_append.1 h with h | h
    · have h0 := Option.mem_toList.1 h
      unfold decU at h0
      split at h0
      · cases h0
      · have h1 := decS_len3 (show decS true _ = some q from h0)
        omega
    · have h1 := unhexA_len2 (Option.mem_toList.1 h)
      omega
/-- In texts that aren't longer than a handle just what stands there is found. -/
theorem foundL_32 {t : List UInt8} (h : t.length ≤ 32) : foundL t = numsL t := by
  unfold foundL
  have e : ((runsA t).flatMap fun s => (readL s).flatMap numsL) = [] := by
    rw [List.flatMap_eq_nil_iff]
    intro s hs
    rw [List.flatMap_eq_nil_iff]
    intro q hq
    have h1 := runsA_len hs
    have h2 := readL_len3 hq
    exact nums_short (by omega)
  rw [e, List.append_nil]
theorem foundS_handle {n : Nat} (hn : n < 4294967296) (h0 : 0 < n) : foundS (Bx.handle n) = [n] := by
  unfold foundS
  rw [foundL_32 (Nat.le_of_eq (Bx.handle_len n))]
  unfold numsL
  rw [scan_handle hn h0]
  simp [setPut, sortN]
theorem foundS_nil {t : List UInt8} (h : foundS t = []) : scan t 0 = [] := by
  have h1 : foundL t = [] := by
    rw [List.eq_nil_iff_forall_not_mem]
    intro n hn
    have := mem_foundS.2 hn
    rw [h] at this
    cases this
  unfold foundL numsL at h1
  have := (List.append_eq_nil_iff.1 h1).1
  exact List.map_eq_nil_iff.1 this
theorem between_nil {ss : List (List UInt8)} {p : List UInt8} (h : scan p 0 = []) : betweenB ss p = plainB ss p := by
  unfold betweenB
  rw [h]
  simp [gaps]
theorem holds_self (p : List UInt8) : holdsB p p = true := by
  unfold holdsB
  rw [List.any_eq_true]
  exact ⟨0, List.mem_range.2 (Nat.succ_pos _), by rw [List.drop_zero, List.take_length]; exact decide_eq_true rfl⟩
theorem between_no (p : List UInt8) : betweenB [] p = true := by
  unfold betweenB
  rw [List.all_eq_true]
  intro q _
  rfl
theorem nds_len (ss : List (List UInt8)) (L : List Bx.Term) : (ndL ss L).length = L.length + 1 := by simp [ndL]
theorem nds_at (ss : List (List UInt8)) (L : List Bx.Term) (i : Nat) : (ndL ss L)[i + 1]? = (L[i]?).map (ndT ss) := by
  unfold ndL
  rw [List.getElem?_cons_succ, List.getElem?_map]
theorem mac_step {B : Bx.Box} (hi : BInv B) (hs : B.sym = true) (hl : B.L.length < 4096) {key u : List UInt8} (hk : key.length ≤ 1000000) (hu : u.length ≤ 1000000) : ∃ j B', macB B key u = (Bx.handle j, B') ∧ 1 ≤ j ∧ j ≤ B'.L.length ∧ BInv B' ∧ B'.sym = true ∧ (B'.L = B.L ∨ B'.L = B.L ++ [macT key u]) ∧ (macT key u ∉ B.L → B'.L = B.L ++ [macT key u] ∧ j = B.L.length + 1) := by
  have hg := (mac_good hi hl hk hu).1.inv
  have e : macB B key u = B.tag (macT key u) := by unfold macB; rw [hs]; rfl
  rw [e] at hg ⊢
  unfold Bx.Box.tag at hg ⊢
  cases hp : Bx.place (macT key u) B.L with
  | some i =>
    have h1 := Bx.place_some hp
    have h2 := (List.getElem?_eq_some_iff.1 h1).1
    exact ⟨i + 1, B, rfl, Nat.succ_pos _, h2, hi, hs, .inl rfl, fun hno => absurd (List.mem_of_getElem? h1) hno⟩
  | none =>
    rw [hp] at hg
    simp only at hg ⊢
    rw [if_neg (by omega)] at hg ⊢
    exact ⟨B.L.length + 1, _, rfl, Nat.succ_pos _, by rw [List.length_append]; exact Nat.le_refl _, hg, hs, .inr rfl, fun _ => ⟨rfl, rfl⟩⟩
theorem keys_no {ss : List (List UInt8)} {L0 : List Bx.Term} {key one : List UInt8} {seen : List Nat} {R : List Bool} (hs : key ∈ ss) (h0 : key ≠ []) (hk : foundS key = []) (hall : ∀ t ∈ L0, t.kind ≠ 4) (hseen : ∀ s ∈ seen, s ≤ L0.length)
    (h : Least (ndL ss (L0 ++ [macT key one])) (marksOf ((L0 ++ [macT key one]).length + 1) seen) R) : markB R ((L0.length + 1 : Nat) : Int) = false := by
  have hlen : (L0 ++ [macT key one]).length = L0.length + 1 := by rw [List.length_append]; rfl
  have hC : Closed (ndL ss (L0 ++ [macT key one])) (marksOf (L0.length + 2) (List.range (L0.length + 1))) := by
    refine ⟨by rw [marksOf_len, nds_len, hlen], fun n d hd hn => ?_⟩
    obtain ⟨i, rfl⟩ : ∃ i, n = i + 1 := ⟨n - 1, by omega⟩
    rw [nds_at] at hd
    rcases Nat.lt_or_ge i L0.length with q | q
    · rw [List.getElem?_append_left q] at hd
      have hm : IsM (marksOf (L0.length + 2) (List.range (L0.length + 1))) (i + 1) := marksOf_iff.2 ⟨by omega, List.mem_range.2 (by omega)⟩
      refine ⟨fun _ _ => hm, fun ht => ?_⟩
      rw [List.getElem?_eq_getElem q] at hd
      obtain rfl := Option.some.inj hd
      unfold ndT at ht
      rw [if_neg (hall _ (List.getElem_mem q))] at ht
      cases ht
    · have hi : i = L0.length := by
        rcases Nat.lt_or_ge i (L0.length + 1) with q2 | q2
        · omega
        · rw [List.getElem?_eq_none (by omega)] at hd; cases hd
      subst hi
      rw [List.getElem?_append_right (Nat.le_refl _), Nat.sub_self] at hd
      obtain rfl := Option.some.inj hd
      have hnd : ndT ss (macT key one) = ⟨foundS key ++ foundS one, false, false⟩ := by
        unfold ndT
        rw [if_neg (show ¬ (macT key one).kind = 4 from (by decide : ¬ (2 : Nat) = 4))]
        have hb : betweenB ss key = false := by
          rw [between_nil (foundS_nil hk)]
          unfold plainB
          rw [Bool.not_eq_false', List.any_eq_true]
          exact ⟨key, hs, by rw [holds_self, decide_eq_true h0]; rfl⟩
        show Nd.mk _ (betweenB ss key && _) _ = _
        rw [hb]
        rfl
      rw [hnd]
      exact ⟨fun q => (by cases q), fun q => (by cases q)⟩
  have hle : Le (marksOf ((L0 ++ [macT key one]).length + 1) seen) (marksOf (L0.length + 2) (List.range (L0.length + 1))) := by
    refine ⟨by rw [marksOf_len, marksOf_len, hlen], fun n q => ?_⟩
    obtain ⟨h1, h2⟩ := marksOf_iff.1 q
    have := hseen n h2
    exact marksOf_iff.2 ⟨by omega, List.mem_range.2 (by omega)⟩
  have hr := (h.2.2 _ hC hle).2 (L0.length + 1)
  cases hm : markB R ((L0.length + 1 : Nat) : Int) with
  | false => rfl
  | true =>
    have := (marksOf_iff.1 (hr hm)).2
    have := List.mem_range.1 this
    omega
theorem keys_yes {L0 : List Bx.Term} {key one : List UInt8} {I R : List Bool} (hk : foundS key = []) (ho : foundS one = []) (h : Least (ndL [] (L0 ++ [macT key one])) I R) : markB R ((L0.length + 1 : Nat) : Int) = true := by
  have hnd : ndT [] (macT key one) = ⟨[], true, false⟩ := by
    unfold ndT
    rw [if_neg (show ¬ (macT key one).kind = 4 from (by decide : ¬ (2 : Nat) = 4))]
    show Nd.mk (foundS key ++ foundS one) (betweenB [] key && betweenB [] one) false = _
    rw [hk, ho, between_no, between_no]
    rfl
  have hd : (ndL [] (L0 ++ [macT key one]))[L0.length + 1]? = some ⟨[], true, false⟩ := by
    rw [nds_at, List.getElem?_append_right (Nat.le_refl _), Nat.sub_self]
    show some (ndT [] (macT key one)) = _
    rw [hnd]
  exact (h.1.2 _ _ hd (Nat.succ_pos _)).1 rfl (by unfold haveB; rfl)
end Go.Proofs.YtoifclfanabalaaGreatDoor.Sx

/- The document's letters: each of six bits; a letter's six bits. -/
namespace Go.Proofs.YtoifclfanabalaaGreatDoor.Sx
open Go
attribute [local irreducible] Calls

theorem letA_1 {url : Bool} {n : Nat} (h : n < 26) : letA url n = UInt8.ofNat (65 + n) := by unfold letA; rw [if_pos h]
theorem letA_2 {url : Bool} {n : Nat} (h1 : ¬ n < 26) (h : n < 52) : letA url n = UInt8.ofNat (97 + n - 26) := by unfold letA; rw [if_neg h1, if_pos h]
theorem letA_3 {url : Bool} {n : Nat} (h1 : ¬ n < 26) (h2 : ¬ n < 52) (h : n < 62) : letA url n = UInt8.ofNat (48 + n - 52) := by unfold letA; rw [if_neg h1, if_neg h2, if_pos h]
theorem byte_of {k : Nat} (h : k < 256) : Value.int .u8 ((k : Nat) : Int) = byte (UInt8.ofNat k) := by
  unfold byte
  congr 2
  rw [UInt8.toNat_ofNat']
  omega
theorem letter_c (w : World) (n : Nat) (url : Bool) (hn : n < 64) : Pu Tryz.prog n_ostiaryref03_letter #[.int .i64 (n : Int), .bool url] w (byte (letA url n)) := by
  have g := good_ostiaryref03_letter w (Un [])
  refine con_of_sx (cx := cx_ostiaryref03_letter w (Un [])) g b_ostiaryref03_letter rfl rfl (β := Va.z) [.c (.v (.int .i64 (n : Int))), .c (.v (.bool url))] 0 [] [] rfl rfl (Sat.start rfl) ?_
  refine BIf.dec (fun h1 => ?_) (fun h1 => ?_)
  · have h10 : (n : Int) < 26 := h1
    rw [letA_1 (by omega)]
    refine ⟨(((65 + n) : Nat) : Int), by rw [wrap_i64 (by omega) (by omega)]; rfl, ?_⟩
    refine ⟨((65 + n : Nat) : Int), by rw [IntKind.wrap_u8]; omega, ?_⟩
    intro β w' hs
    exact hs.fin [] ⟨byte_of (by omega), rfl⟩
  have h10 : ¬ (n : Int) < 26 := h1
  refine BIf.dec (fun h2 => ?_) (fun h2 => ?_)
  · have h20 : (n : Int) < 52 := h2
    rw [letA_2 (by omega) (by omega)]
    refine ⟨(((97 + n) : Nat) : Int), by rw [wrap_i64 (by omega) (by omega)]; rfl, ?_⟩
    refine ⟨(((97 + n - 26) : Nat) : Int), by rw [wrap_i64 (by omega) (by omega)]; omega, ?_⟩
    refine ⟨((97 + n - 26 : Nat) : Int), by rw [IntKind.wrap_u8]; omega, ?_⟩
    intro β w' hs
    exact hs.fin [] ⟨byte_of (by omega), rfl⟩
  have h20 : ¬ (n : Int) < 52 := h2
  refine BIf.dec (fun h3 => ?_) (fun h3 => ?_)
  · have h30 : (n : Int) < 62 := h3
    rw [letA_3 (by omega) (by omega) (by omega)]
    refine ⟨(((48 + n) : Nat) : Int), by rw [wrap_i64 (by omega) (by omega)]; rfl, ?_⟩
    refine ⟨(((48 + n - 52) : Nat) : Int), by rw [wrap_i64 (by omega) (by omega)]; omega, ?_⟩
    refine ⟨((48 + n - 52 : Nat) : Int), by rw [IntKind.wrap_u8]; omega, ?_⟩
    intro β w' hs
    exact hs.fin [] ⟨byte_of (by omega), rfl⟩
  have h30 : ¬ (n : Int) < 62 := h3
  refine BIf.dec (fun h4 => ?_) (fun h4 => ?_)
  · have h40 : (n : Int) = 62 := h4
    obtain rfl : n = 62 := by omega
    cases url with
    | true =>
      intro β w' hs
      exact hs.fin [] ⟨by rfl, rfl⟩
    | false =>
      intro β w' hs
      exact hs.fin [] ⟨by rfl, rfl⟩
  · have h40 : ¬ (n : Int) = 62 := h4
    obtain rfl : n = 63 := by omega
    cases url with
    | true =>
      intro β w' hs
      exact hs.fin [] ⟨by rfl, rfl⟩
    | false =>
      intro β w' hs
      exact hs.fin [] ⟨by rfl, rfl⟩
theorem find_at {url : Bool} {c : UInt8} {i : Nat} (h : i < 64) (hno : ∀ k, k < i → letA url k ≠ c) (hi : letA url i = c) : valA url c = some i := by
  rw [val_let, List.find?_range_eq_some]
  exact ⟨by simpa using hi, List.mem_range.2 h, fun j hj => by simpa using hno j hj⟩
theorem find_no {url : Bool} {c : UInt8} (hno : ∀ k, k < 64 → letA url k ≠ c) : valA url c = none := by
  rw [val_let, List.find?_eq_none]
  intro k hk
  simpa using hno k (List.mem_range.1 hk)
theorem number3_c (w : World) (c : UInt8) (url : Bool) : Pu Tryz.prog n_ostiaryref03_number #[byte c, .bool url] w (.int .i64 (valV url c)) := by
  have g := good_ostiaryref03_number w (Un [])
  refine con_of_sx (cx := cx_ostiaryref03_number w (Un [])) g b_ostiaryref03_number rfl rfl (β := Va.z) [.c (.v (byte c)), .c (.v (.bool url))] 0 [] [] rfl rfl (Sat.start rfl) ?_
  refine loop_rule (ι := Nat) 0 (fun j => [(0, .c (.v (byte c))), (1, .c (.v (.bool url))), (5, .c (.v (.int .i64 (j : Int))))]) (fun _ => []) (fun _ => [])
    (fun j => j ≤ 64 ∧ ∀ k, k < j → letA url k ≠ c) (fun j => 64 - j) (0 : Nat) ⟨Nat.zero_le _, fun k hk => absurd hk (Nat.not_lt_zero _)⟩ (Ent.mk' ⟨rfl, rfl, rfl, trivial⟩ rfl (fun β w' hs => hs)) g ?_
  rintro j ⟨hj, hno⟩
  refine BIf.dec (fun hlt => ?_) (fun hge => ?_)
  · have hlt0 : (j : Int) < 64 := hlt
    refine call_pu (fun β w' hs => letter_c w' j url (by omega)) ?_
    refine BIf.dec (fun he => ?_) (fun hne => ?_)
    · have he0 : letA url j = c := UInt8.toNat_inj.1 (Int.ofNat_inj.1 he)
      intro β w' hs
      refine hs.fin [] ⟨?_, rfl⟩
      unfold valV
      rw [find_at (by omega) hno he0]
      rfl
    · have hne0 : letA url j ≠ c := fun q => hne (by rw [q])
      refine ⟨((j + 1 : Nat) : Int), by rw [wrap_i64 (by omega) (by omega)]; rfl, ?_⟩
      exact ⟨j + 1, ⟨by omega, fun k hk => by
        rcases Nat.lt_or_ge k j with q | q
        · exact hno k q
        · obtain rfl : k = j := by omega
          exact hne0⟩, by omega, Ent.mk' ⟨rfl, rfl, rfl, trivial⟩ rfl (fun β w' hs => hs)⟩
  · have hge0 : ¬ (j : Int) < 64 := hge
    obtain rfl : j = 64 := by omega
    intro β w' hs
    refine hs.fin [] ⟨?_, rfl⟩
    unfold valV
    rw [find_no hno]
    rfl
end Go.Proofs.YtoifclfanabalaaGreatDoor.Sx
