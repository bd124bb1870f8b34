/- Texts joined: Hsh3, SxTri, Mac, Pie, Pie2, Str, Trn, Turn, Ak5, Ak6, BxP, Rf5, Rt1, Rt2, Rt3, Rt4, Rt5, Tl2, Tl3, TlG, BxL, Mk2, LenX, BxT, Pck, Kn1, Kn2, Cli, Kn3, Pck2, Ha, Aw1, Aw2, Aw3, Aln, SxArg, Laid, Laid2. -/
import Derived.Test.YtkommfddfgiobaaGreatDoorMProofAlone3
import Derived.Test.YtkommfddfgiobaaGreatDoorMProofAlone2
import Derived.Below
import Derived.OpenShut
import Derived.ChangeArms
import Derived.LaidMore
set_option linter.unusedVariables false
set_option linter.unusedSimpArgs false
/- A sum that grows: its value. -/
namespace Go.Proofs.YtkommfddfgiobaaGreatDoor.Sx
open Go Sha
attribute [local irreducible] Calls

set_option maxHeartbeats 1000000 in
theorem hval_c (w : World) (b : Nat) (T : List UInt8) (A : Option Addr) (c : Nat) (hn : T.length ≤ 1000000000) (h : (hshF b T A c).p w) (hD0 : ∀ k, (hshF b T A c).D k → k < w.heap.size) (h1 : (oddF 3).p w) :
    Con Tryz.prog n_sha_Hash_Sum #[ptrB b] w [] fun v Fs => ∃ A' c', v = .slice A' 32 c' ∧ 32 ≤ c' ∧ c' ≤ maxLen ∧ Fs = [browF ty_uint8 A' (Sha.sum T) c'] := by
  have g := good_sha_Hash_Sum w (Un [])
  have hrl := restT_len T
  have hml := maxLen_eq
  have hs0 : Sat (cx_sha_Hash_Sum w (Un [])) Va.z 0 [] [oldF w] w := old_sat rfl
  have hs1 := hs0.sub 0 rfl rfl (oddF 3) rfl h1 (rd_lt h1)
  refine con_of_sx (cx := cx_sha_Hash_Sum w (Un [])) g b_sha_Hash_Sum rfl rfl (β := Va.z) [.c (.v (ptrB b))] 0 [] [oddF 3, oldF w] rfl rfl hs1 ?_
  have hcell : ∀ {w'} (ho : (oldF w).p w') {o : Nat} {v : Value}, (hshC T A c)[o]? = some v → w'.cell? ⟨b, o, none⟩ = some v := fun {w'} ho {o} {v} hv => bkcell (hsh_bk (factOld h hD0 ho)) hv
  refine ⟨(stT T).l.map u32, rfl, fun β w' hs j u hu => ?_, ?_⟩
  · have hj : j < 8 := (List.getElem?_eq_some_iff.1 hu).1
    have hu' : (hshC T A c)[j]? = some u := by
      unfold hshC
      rw [List.getElem?_append_left (by exact hj)]
      exact hu
    have e : (((⟨b, 0, none⟩ : Addr).add 0).add j) = ⟨b, j, none⟩ := by rw [add_none, add_none]; simp
    have := hcell (hs.get 1 rfl) hu'
    rw [← e] at this
    exact this
  obtain ⟨s0, hs0e⟩ : ∃ s0, stT T = s0 := ⟨_, rfl⟩
  rw [hs0e]
  refine draw_rule g p_sha_Hash_Sum_4 (by kernel_rfl) [] [oldF w] (Sub.of (List.nil_sublist _) (List.sublist_cons_self _ _)) ?_
  refine ⟨.slice A (restT T).length c, fun β w' hs => hcell (hs.get 0 rfl) rfl, ?_⟩
  refine ⟨.int .u64 (T.length : Int), fun β w' hs => hcell (hs.get 0 rfl) rfl, ?_⟩
  refine call_con [] (fun β w' hs => clone_c w' A (restT T) c (hsh_row (factOld h hD0 (hs.get 1 rfl))) (by omega)) ?_
  rintro v Fs ⟨A1, c1, rfl, hc1, hm1, rfl⟩
  refine ⟨fun β w' hs => (hs.perm [2]).keepB (List.nil_sublist _), ?_⟩
  refine call_con [] (fun β w' hs => ends_c w' T.length (by omega)) ?_
  rintro v Fs ⟨A2, c2, rfl, hc2, hm2, rfl⟩
  refine ⟨fun β w' hs => (hs.perm [3]).keepB (List.nil_sublist _), ?_⟩
  obtain ⟨q, hq⟩ : ∃ q, restT T ++ ends T.length = q := ⟨_, rfl⟩
  have hel := ends_len T.length
  have hz : zeros T.length < 64 := by unfold zeros; omega
  have hql : q.length = T.length % 64 + (ends T.length).length := by rw [← hq, List.length_append, hrl]
  refine ⟨1, (restT T).length, q.length, (restT T).map byte, (ends T.length).map byte, q.map byte, rfl, fun β w' hs => row_rd (hs.get 0 rfl), bytes_one _, by rw [← hq, List.length_append], by rw [← hq, List.map_append], by omega, by show q.length * 1 ≤ _; omega, ?_⟩
  intro A3 c3 hc3 hm3 _
  refine ⟨fun β w' hs => (hs.perm [3]).keepB (List.nil_sublist _), ?_⟩
  have hmod : q.length % 64 = 0 := by
    have := pad_mod T
    rw [List.length_append] at this
    omega
  refine reify_rule g 0 (fun _ => s0.l.map u32) rfl rfl (fun _ => rfl) (fun sb => ?_)
  refine loop_rule (ι := Nat × Option Addr × Nat) 1 (fun i => [(3, .c (.v (ptrB sb))), (4, .c (.v (.slice i.2.1 (q.length - 64 * i.1) i.2.2)))]) (fun _ => []) (fun i => [stF sb 187 ((blks q i.1).foldl Sha.step s0), bsF A3 q, oddF 3])
    (fun i => 64 * i.1 ≤ q.length ∧ q.length - 64 * i.1 ≤ i.2.2 ∧ i.2.2 ≤ 9223372036854775807 ∧ (∀ w, Bs w A3 q → Bs w i.2.1 (q.drop (64 * i.1))) ∧ ∀ ad, i.2.1 = some ad → ∃ ad', A3 = some ad' ∧ ad'.block = ad.block) (fun i => q.length - 64 * i.1) (0, A3, c3)
    ⟨Nat.zero_le _, hc3, by rw [← hml]; exact hm3, fun w h => h, fun ad h => ⟨ad, h, rfl⟩⟩ (Ent.mk' ⟨rfl, rfl, trivial⟩ rfl (fun β w' hs => (hs.ro 2 rfl).perm [0, 2, 3])) g ?_
  rintro ⟨i, B, cap⟩ ⟨hi, hcap, hcm, hB, hD⟩
  simp only at hi hcap hcm hB hD
  obtain ⟨m, hm2⟩ : ∃ m, q.length - 64 * i = m := ⟨_, rfl⟩
  have hmc : m ≤ cap := by omega
  rw [hm2]
  have hdl : (q.drop (64 * i)).length = m := by rw [List.length_drop]; omega
  obtain ⟨st, hst⟩ : ∃ st, (blks q i).foldl Sha.step s0 = st := ⟨_, rfl⟩
  rw [hst]
  refine BIf.dec (fun h0 => ?_) (fun h0 => ?_)
  · have h00 : (0 : Int) < (m : Int) := h0
    have hm64 : 64 ≤ m := by omega
    have hbl : (blk q i).length = 64 := by unfold blk; rw [List.length_take, hdl]; omega
    refine ⟨cap, 64, 0, 64, cap, _, rfl, rfl, rfl, Nat.le_refl _, by show 64 ≤ cap; omega, by omega, rfl, rfl, cutA_z B, ?_⟩
    refine call_con [0] (R := fun v Fs => v = .tuple #[] ∧ Fs = [stF sb 187 (Sha.step st (blk q i))]) (fun β w' hs => by
      have h7 := Bs.cut (hB w' (hs.get 1 rfl)) (c := cap) (m := cap) (i := 0) (j := 64) (by omega) (.inl rfl) (by omega) (by omega) (by omega)
      rw [cutA_z] at h7
      have h8 : Bs w' B (blk q i) := by show Rd 1 B (blk q i).length ((blk q i).map byte) w'; rw [hbl]; exact h7
      have hs2 := hs.sub 1 rfl rfl (bsF B (blk q i)) rfl h8 (bsD_sub hD (by omega))
      have q1 := step_c w' sb 187 st B (blk q i) cap (hs2.mem.take (js := [1, 0, 3]) rfl) (by omega) (by omega) (by omega)
      rw [hbl] at q1
      exact q1) ?_
    rintro v Fs ⟨rfl, rfl⟩
    refine ⟨cap, m, 64, m - 64, cap - 64, _, rfl, rfl, rfl, Nat.le_refl _, hmc, hm64, rfl, rfl, rfl, ?_⟩
    refine ⟨(i + 1, cutA B cap 64 1, cap - 64), ⟨by show 64 * (i + 1) ≤ _; omega, by show q.length - 64 * (i + 1) ≤ cap - 64; omega, by show cap - 64 ≤ _; omega, fun w' h => ?_, cut_blk hD⟩, by show q.length - 64 * (i + 1) < m; omega, Ent.mk' ⟨rfl, ?_, trivial⟩ rfl (fun β w' hs => ?_)⟩
    · exact Bs.cutB (hB w' h) (c := cap) (i := 64) (j := m) (m := q.drop (64 * (i + 1))) (by omega) hm64 (by omega) (by
        rw [List.drop_drop, show 64 * i + 64 = 64 * (i + 1) by omega, List.take_of_length_le]
        rw [List.length_drop]; omega)
    · show _ = some (SV.c (.v (.slice (cutA B cap 64 1) (q.length - 64 * (i + 1)) (cap - 64))))
      rw [show q.length - 64 * (i + 1) = m - 64 by omega]
      rfl
    · show Sat _ _ _ _ [stF sb 187 ((blks q (i + 1)).foldl Sha.step s0), bsF A3 q, oddF 3] w'
      rw [blks_succ, List.foldl_append, hst]
      exact hs
  · have h00 : ¬ (0 : Int) < (m : Int) := h0
    have hi2 : i = q.length / 64 := by omega
    have hsum : Sha.sum T = out st := by rw [sum_T, hq, hs0e, ← hi2, hst]
    refine call_con [0] (fun β w' hs => stbytes_c w' sb 187 st (hs.mem.take (js := [0]) rfl)) ?_
    rintro v Fs ⟨A4, c4, rfl, h5, h6, rfl⟩
    intro β w' hs
    exact hs.fin [1] ⟨A4, c4, rfl, h5, h6, by rw [hsum]; rfl⟩
end Go.Proofs.YtkommfddfgiobaaGreatDoor.Sx

/- Statements one by one: so that a rule stands at each. -/
namespace Go.Proofs.YtkommfddfgiobaaGreatDoor.Sx
open Go

section
variable {cx : Cx} {n : Nat} {H : List Bk} {F : List Fact} {w : World}
theorem calls_of_tri {f : FuncId} {fn : Func} {c : Code} {R : Value → World → Prop} (g : Good cx) (hf : cx.P.funcs[f]? = some fn) (hb : fn.body = some c) (hN : fn.ntmps = cx.N)
    {β : Va} (svs : List SV) (n : Nat) (H : List Bk) (F : List Fact) (hlen : Nat.ble svs.length cx.N = true) (hltB : allLt n svs = true) (hs : Sat cx β n H F w)
    (hw : Tri cx c (fnPost cx fn.results.toList R) n (pairs 0 svs) H F) (hr : cx.rnd = none := by rfl) (hm : β.marks = [] := by rfl) (hp0 : cx.pn = [] := by rfl) :
    Calls cx.P f (svs.map (SV.val β)).toArray w fun e w' => ∃ v, e = .returned v ∧ R v w' := by
  have hfe : cx.fence = Fence.wide := by unfold Cx.fence; rw [hr]
  refine (callsIn_wide (n := 0)).1 (callsIn_of_wp_marks hf hb trivial ?_)
  have hlt := allLt_mem hltB
  have hlen' : svs.length ≤ cx.N := Nat.le_of_ble_eq_true hlen
  have hi : Inv cx β n (pairs 0 svs) H F { tmps := (svs.map (SV.val β)).toArray ++ Array.replicate (fn.ntmps - (svs.map (SV.val β)).toArray.size) undef, defers := [] } w := by
    refine ⟨fun t s ht => ?_, ?_, by rw [hm]; rfl, fun t s ht => ?_, hs⟩
    · obtain ⟨j, rfl, hj⟩ := pairs_get svs 0 t s ht
      have hjl : j < svs.length := (List.getElem?_eq_some_iff.1 hj).1
      rw [Array.getElem?_append_left (by simp; omega)]
      simp [hj]
    · simp [hN]; omega
    · obtain ⟨j, rfl, hj⟩ := pairs_get svs 0 t s ht
      exact hlt s (List.mem_of_getElem? hj)
  have h0 := hw.run β _ w hi
  rw [hfe] at h0
  refine wpIn_mono h0 fun e a' w' hq => ?_
  have key : After cx (RetWP cx fn.results.toList R) a' w' → LeavesInM Fence.wide 0 cx.P fn a'.tmps (fun e w' => ∃ v, e = .returned v ∧ R v w') a'.defers .returning w' := by
    rintro ⟨β', n', env', H', F', h', hp⟩
    rw [← hfe]
    have hd := h'.df
    obtain ⟨tmps, defers⟩ := a'
    simp only at hd
    subst hd
    exact leaves_sx g hr hp0 _ β' w' rfl h' hp
  cases e with
  | normal => exact key hq
  | ret => exact key hq
  | exit id => obtain ⟨_, _, _, _, _, _, hq⟩ := hq; exact hq.elim
  | goto l => obtain ⟨_, _, _, _, _, _, hq⟩ := hq; exact hq.elim
  | panic ch => exact hq.elim
  | outgrown => exact hq.elim
theorem con_of_tri {f : FuncId} {fn : Func} {c : Code} {Gs : List Fact} {R : Value → List Fact → Prop} (g : Good cx) (hf : cx.P.funcs[f]? = some fn) (hb : fn.body = some c) (hN : fn.ntmps = cx.N)
    {β : Va} (svs : List SV) (n : Nat) (H : List Bk) (F : List Fact) (hlen : Nat.ble svs.length cx.N = true) (hltB : allLt n svs = true) (hs : Sat cx β n H F w)
    (hw : Tri cx c (fnPost cx fn.results.toList (Fin w Gs R)) n (pairs 0 svs) H F) (hr : cx.rnd = none := by rfl) (hm : β.marks = [] := by rfl) (hp0 : cx.pn = [] := by rfl) :
    Con cx.P f (svs.map (SV.val β)).toArray w Gs R := calls_of_tri g hf hb hN svs n H F hlen hltB hs hw hr hm hp0
theorem tri_seq (g : Good cx) {c1 c2 : Code} {Q : Exit → KT} {env : Env} (h : cwp cx c1 (andThen (fun n env H F => Tri cx c2 Q n env H F) Q) n env H F) : Tri cx (.seq c1 c2) Q n env H F := by
  refine ⟨fun β a w hi => wpIn_seq (wpIn_mono ((cwp_sound g c1 _ n env H F h).run β a w hi) fun e a w hq => ?_)⟩
  cases e with
  | normal =>
    obtain ⟨β', n', env', H', F', h', hq'⟩ := hq
    exact hq'.run β' a w h'
  | exit i => exact hq
  | goto l => exact hq
  | ret => exact hq
  | panic c => exact hq
  | outgrown => exact hq
theorem tri_of (g : Good cx) {c : Code} {Q : Exit → KT} {env : Env} (h : cwp cx c Q n env H F) : Tri cx c Q n env H F := cwp_sound g c Q n env H F h
end
theorem tri_seqJ {cx : Cx} {n : Nat} {H : List Bk} {F : List Fact} {ι : Type} (g : Good cx) {c1 c2 : Code} {Q : Exit → KT} {env : Env} (T : ι → Prop) (n' : Nat) (E : ι → Env) (HH : ι → List Bk) (FF : ι → List Fact) (hkey : ∀ i, T i → Tri cx c2 Q n' (E i) (HH i) (FF i))
    (h : cwp cx c1 (andThen (fun n env H F => EntX cx n env H F T n' E HH FF) Q) n env H F) : Tri cx (.seq c1 c2) Q n env H F := by
  refine ⟨fun β a w hi => wpIn_seq (wpIn_mono ((cwp_sound g c1 _ n env H F h).run β a w hi) fun e a w hq => ?_)⟩
  cases e with
  | normal =>
    obtain ⟨β', n', env', H', F', h', hq'⟩ := hq
    exact (tri_join T _ E HH FF hkey hq').run β' a w h'
  | exit i => exact hq
  | goto l => exact hq
  | ret => exact hq
  | panic c => exact hq
  | outgrown => exact hq
end Go.Proofs.YtkommfddfgiobaaGreatDoor.Sx

/- A sum with a key that grows. -/
namespace Go.Proofs.YtkommfddfgiobaaGreatDoor.Sx
open Go
attribute [local irreducible] Calls

structure MacY where
  m : Nat
  bi : Nat
  Ai : Option Addr
  ci : Nat
  bo : Nat
  Ao : Option Addr
  co : Nat
  bn : Nat
  An : Option Addr
  cn : Nat
def macFs (y : MacY) (key T : List UInt8) : List Fact := [bkF y.m ty_hmac_Mac [ptrB y.bi, ptrB y.bo, ptrB y.bn], hshF y.bi (padL key 0x36) y.Ai y.ci, hshF y.bo (padL key 0x5c) y.Ao y.co, hshF y.bn (padL key 0x36 ++ T) y.An y.cn]
def macF (y : MacY) (key T : List UInt8) : Fact := sepF (macFs y key T)
theorem Con.ofSep {P : Program} {k : FuncId} {args : Array Value} {w : World} {L Gs : List Fact} {R : Value → List Fact → Prop} (hsub : ∀ k, Un Gs k → Un [sepF L] k) (h : Con P k args w Gs R) : Con P k args w [sepF L] R :=
  Calls.mono h fun _ _ ⟨v, he, Fs, hR, hc, hm, ho, hD⟩ => ⟨v, he, Fs, hR, hc.mono (fun i _ => hsub i), hm, ho, fun f hf k hk => (hD f hf k hk).imp_left (hsub k)⟩
/-- A Mac that has its two sides. -/
def mac0 (m bi : Nat) (Ai : Option Addr) (ci bo : Nat) (Ao : Option Addr) (co : Nat) (x : Value) (key : List UInt8) : List Fact := [bkF m ty_hmac_Mac [ptrB bi, ptrB bo, x], hshF bi (padL key 0x36) Ai ci, hshF bo (padL key 0x5c) Ao co]
theorem reset0_c (w : World) (m bi : Nat) (Ai : Option Addr) (ci bo : Nat) (Ao : Option Addr) (co : Nat) (x : Value) (key : List UInt8) (hm : Mem w (mac0 m bi Ai ci bo Ao co x key)) :
    Con Tryz.prog n_hmac_Mac_Reset #[ptrB m] w (mac0 m bi Ai ci bo Ao co x key) fun v Fs => ∃ y', y'.m = m ∧ v = .tuple #[] ∧ Fs = [macF y' key []] := by
  have g := good_hmac_Mac_Reset w (Un (mac0 m bi Ai ci bo Ao co x key))
  refine con_of_sx (cx := cx_hmac_Mac_Reset w (Un (mac0 m bi Ai ci bo Ao co x key))) g b_hmac_Mac_Reset rfl rfl (β := Va.z) [.c (.v (ptrB m))] 0 [] (mac0 m bi Ai ci bo Ao co x key) rfl rfl (hm.sat0 rfl (fun f hf ho k hk => ⟨f, hf, hk⟩)) ?_
  refine ⟨ptrB bi, fun β w' hs => bkcell (hs.get 0 rfl) rfl, ?_⟩
  refine call_con [] (fun β w' hs => hcopy_c w' bi (padL key 0x36) Ai ci (hs.get 1 rfl) (hs.getLt 1 rfl)) ?_
  rintro v Fs ⟨b', A', c', rfl, q1, q2, rfl⟩
  refine ⟨[hshF b' (padL key 0x36) A' c', bkF m ty_hmac_Mac [ptrB bi, ptrB bo, ptrB b'], hshF bi (padL key 0x36) Ai ci, hshF bo (padL key 0x5c) Ao co], fun β w' hs => ?_, ?_⟩
  · exact hs.bkSet 1 (o := 2) (us := [ptrB b']) rfl (show 2 + 1 ≤ 3 by decide) (fun u hu => by obtain rfl := List.mem_singleton.1 hu; rfl)
  intro β w' hs
  have k := hs.sep [1, 2, 3, 0] rfl ⟨rfl, rfl, rfl, rfl, trivial⟩
  refine k.fin [0] ⟨⟨m, bi, Ai, ci, bo, Ao, co, b', A', c'⟩, rfl, rfl, ?_⟩
  unfold macF macFs
  rw [List.append_nil]
  rfl
theorem reset_c (w : World) (y : MacY) (key T : List UInt8) (hm : Mem w [macF y key T]) :
    Con Tryz.prog n_hmac_Mac_Reset #[ptrB y.m] w [macF y key T] fun v Fs => ∃ y', y'.m = y.m ∧ v = .tuple #[] ∧ Fs = [macF y' key []] := by
  have hs0 : Sat (cx_hmac_Mac_Reset w (Un [macF y key T])) Va.z 0 [] [macF y key T] w := hm.sat0 rfl (fun f hf ho k hk => ⟨f, hf, hk⟩)
  have h1 := (hs0.unsep 0 rfl).mem.take (js := [0, 1, 2]) rfl
  refine Con.ofSep (fun k hk => ?_) (reset0_c w y.m y.bi y.Ai y.ci y.bo y.Ao y.co (ptrB y.bn) key h1)
  obtain ⟨f, hf, hk⟩ := hk
  refine ⟨_, List.mem_singleton.2 rfl, f, ?_, hk⟩
  simp only [mac0, List.mem_cons, List.not_mem_nil, or_false] at hf
  unfold macFs
  rcases hf with rfl | rfl | rfl
  · exact List.mem_cons_self
  · exact List.mem_cons_of_mem _ List.mem_cons_self
  · exact List.mem_cons_of_mem _ (List.mem_cons_of_mem _ List.mem_cons_self)
theorem mwrite_c (w : World) (y : MacY) (key T : List UInt8) (P : Option Addr) (p : List UInt8) (d : Nat) (hn : T.length + p.length ≤ 100000000) (hm : Mem w [macF y key T, bsF P p, oddF 3]) :
    Con Tryz.prog n_hmac_Mac_Write #[ptrB y.m, .slice P p.length d] w [macF y key T] fun v Fs => ∃ y', y'.m = y.m ∧ v = .int .i64 p.length ∧ Fs = [macF y' key (T ++ p)] := by
  have g := good_hmac_Mac_Write w (Un [macF y key T])
  have hs0 : Sat (cx_hmac_Mac_Write w (Un [macF y key T])) Va.z 0 [] [macF y key T, bsF P p, oddF 3] w := hm.sat0 rfl (ownIn (Gs := [macF y key T]) (fun f hf => by
    simp only [List.mem_cons, List.not_mem_nil, or_false] at hf
    rcases hf with rfl | rfl <;> rfl))
  refine con_of_sx (cx := cx_hmac_Mac_Write w (Un [macF y key T])) g b_hmac_Mac_Write rfl rfl (β := Va.z) [.c (.v (ptrB y.m)), .c (.v (.slice P p.length d))] 0 [] (macFs y key T ++ [bsF P p, oddF 3]) rfl rfl (hs0.unsep 0 rfl) ?_
  refine ⟨ptrB y.bn, fun β w' hs => bkcell (hs.get 0 rfl) rfl, ?_⟩
  refine call_con [3] (fun β w' hs => hwrite_c w' y.bn (padL key 0x36 ++ T) y.An y.cn P p d (by rw [List.length_append, padL_len]; omega) (hs.mem.take (js := [3, 4, 5]) rfl)) ?_
  rintro v Fs ⟨A', c', rfl, rfl⟩
  intro β w' hs
  have k := hs.sep [1, 2, 3, 0] rfl ⟨rfl, rfl, rfl, rfl, trivial⟩
  refine k.fin [0] ⟨⟨y.m, y.bi, y.Ai, y.ci, y.bo, y.Ao, y.co, y.bn, A', c'⟩, rfl, rfl, ?_⟩
  unfold macF macFs
  rw [← List.append_assoc]
  rfl
theorem msum_c (w : World) (y : MacY) (key T : List UInt8) (hn : T.length ≤ 100000000) (h : (macF y key T).p w) (hD : ∀ k, (macF y key T).D k → k < w.heap.size) (h1 : (oddF 3).p w) :
    Con Tryz.prog n_hmac_Mac_Sum #[ptrB y.m] w [] fun v Fs => ∃ A' c', v = .slice A' 32 c' ∧ 32 ≤ c' ∧ c' ≤ maxLen ∧ Fs = [browF ty_uint8 A' (hmL key T) c'] := by
  have g := good_hmac_Mac_Sum w (Un [])
  refine con_of_sx (cx := cx_hmac_Mac_Sum w (Un [])) g b_hmac_Mac_Sum rfl rfl (β := Va.z) [.c (.v (ptrB y.m))] 0 [] [oldF w] rfl rfl (old_sat rfl) ?_
  have hb : ∀ {w'}, (oldF w).p w' → (bkF y.m ty_hmac_Mac [ptrB y.bi, ptrB y.bo, ptrB y.bn]).p w' := fun ho => (factOld h hD ho).1 _ (by simp [macFs])
  have ho_ : ∀ {w'}, (oldF w).p w' → (hshF y.bo (padL key 0x5c) y.Ao y.co).p w' := fun ho => (factOld h hD ho).1 _ (by simp [macFs])
  have hn_ : ∀ {w'}, (oldF w).p w' → (hshF y.bn (padL key 0x36 ++ T) y.An y.cn).p w' := fun ho => (factOld h hD ho).1 _ (by simp [macFs])
  have hDo : ∀ k, (hshF y.bo (padL key 0x5c) y.Ao y.co).D k → k < w.heap.size := fun k hk => hD k ⟨_, by simp [macFs], hk⟩
  have hDn : ∀ k, (hshF y.bn (padL key 0x36 ++ T) y.An y.cn).D k → k < w.heap.size := fun k hk => hD k ⟨hshF y.bn (padL key 0x36 ++ T) y.An y.cn, by simp [macFs], hk⟩
  refine ⟨ptrB y.bo, fun β w' hs => bkcell (hb (hs.get 0 rfl)) rfl, ?_⟩
  refine call_con [] (fun β w' hs => hcopy_c w' y.bo (padL key 0x5c) y.Ao y.co (ho_ (hs.get 0 rfl)) (fun k hk => Nat.lt_of_lt_of_le (hDo k hk) hs.chg.size)) ?_
  rintro v Fs ⟨b', A', c', rfl, _, _, rfl⟩
  refine ⟨ptrB y.bn, fun β w' hs => bkcell (hb (hs.get 1 rfl)) rfl, ?_⟩
  refine call_con [] (fun β w' hs => hval_c w' y.bn (padL key 0x36 ++ T) y.An y.cn (by rw [List.length_append, padL_len]; omega) (hn_ (hs.get 1 rfl)) (fun k hk => Nat.lt_of_lt_of_le (hDn k hk) hs.chg.size) (Rd.old h1 (hs.get 1 rfl))) ?_
  rintro v Fs ⟨A2, c2, rfl, _, _, rfl⟩
  obtain ⟨s, hse⟩ : ∃ s, Sha.sum (padL key 0x36 ++ T) = s := ⟨_, rfl⟩
  have hsl : s.length = 32 := by rw [← hse]; exact sum_len _
  refine call_con [1] (R := fun v Fs => ∃ A'' c'', v = .int .i64 32 ∧ Fs = [hshF b' (padL key 0x5c ++ s) A'' c'']) (fun β w' hs => by
    have k1 := hs.ro 0 rfl
    have k2 := k1.sub 2 rfl rfl (oddF 3) rfl (Rd.old h1 (hs.get 2 rfl)) (rd_lt h1)
    rw [hse] at k2
    have q := hwrite_c w' b' (padL key 0x5c) A' c' A2 s c2 (by rw [padL_len, hsl]; decide) (k2.mem.take (js := [2, 1, 0]) rfl)
    rw [hsl] at q
    exact q) ?_
  rintro v Fs ⟨A3, c3, rfl, rfl⟩
  refine call_con [] (fun β w' hs => hval_c w' b' (padL key 0x5c ++ s) A3 c3 (by rw [List.length_append, padL_len, hsl]; decide) (hs.get 0 rfl) (hs.getLt 0 rfl) (Rd.old h1 (hs.get 2 rfl))) ?_
  rintro v Fs ⟨A4, c4, rfl, h5, h6, rfl⟩
  intro β w' hs
  exact hs.fin [0] ⟨A4, c4, rfl, h5, h6, by unfold hmL; rw [hse]; rfl⟩

/-! ### begun -/
theorem begun_c (w : World) (B : Option Addr) (l : List UInt8) (c : Nat) (hr : Bs w B l) (hn : l.length ≤ 1000000) (h1 : (oddF 3).p w) (h0 : (firstF 0).p w) :
    Con Tryz.prog n_hmac_begun #[.slice B l.length c] w [] fun v Fs => ∃ b A' c', v = ptrB b ∧ Fs = [hshF b l A' c'] := by
  have g := good_hmac_begun w (Un [])
  have hs0 : Sat (cx_hmac_begun w (Un [])) Va.z 0 [] [oldF w] w := old_sat rfl
  have hs1 := (hs0.sub 0 rfl rfl (oddF 3) rfl h1 (rd_lt h1)).sub 1 rfl rfl (bsF B l) rfl hr (rd_lt hr)
  refine con_of_sx (cx := cx_hmac_begun w (Un [])) g b_hmac_begun rfl rfl (β := Va.z) [.c (.v (.slice B l.length c))] 0 [] [bsF B l, oddF 3, oldF w] rfl rfl hs1 ?_
  refine call_con [] (fun β w' hs => hnew_c w' (Rd.old h0 (hs.get 2 rfl))) ?_
  rintro v Fs ⟨b, rfl, rfl⟩
  refine call_con [0] (fun β w' hs => hwrite_c w' b [] none 0 B l c (by show 0 + l.length ≤ _; omega) (hs.mem.take (js := [0, 1, 2]) rfl)) ?_
  rintro v Fs ⟨A', c', rfl, rfl⟩
  intro β w' hs
  exact hs.fin [0] ⟨b, A', c', rfl, rfl⟩
set_option maxHeartbeats 1000000 in
theorem mnew_c (w : World) (A : Option Addr) (key : List UInt8) (c : Nat) (hr : Bs w A key) (hn : key.length ≤ 1000000) (h1 : (oddF 3).p w) (h0 : (firstF 0).p w) :
    Con Tryz.prog n_hmac_New #[.slice A key.length c] w [] fun v Fs => ∃ y, v = ptrB y.m ∧ Fs = [macF y key []] := by
  have g := good_hmac_New w (Un [])
  have l64 : ∀ x, (padL key x).length = 64 := padL_len key
  refine con_of_tri (cx := cx_hmac_New w (Un [])) g b_hmac_New rfl rfl (β := Va.z) [.c (.v (.slice A key.length c))] 0 [] [oldF w] rfl rfl (old_sat rfl) ?_
  refine tri_seq g ?_
  refine tri_seq g ?_
  refine call_con [] (fun β w' hs => pad_c w' A key c 0x36 (Rd.old hr (hs.get 0 rfl)) hn (Rd.old h1 (hs.get 0 rfl)) (Rd.old h0 (hs.get 0 rfl))) ?_
  rintro v Fs ⟨p1, j1, rfl, rfl⟩
  refine call_con [] (fun β w' hs => by
    have q := begun_c w' (some ⟨p1, 0, none⟩) (padL key 0x36) 64 (bk_bs (hs.get 0 rfl)) (by rw [l64]; decide) (Rd.old h1 (hs.get 1 rfl)) (Rd.old h0 (hs.get 1 rfl))
    rw [l64] at q
    exact q) ?_
  rintro v Fs ⟨bi, Ai, ci, rfl, rfl⟩
  refine call_con [] (fun β w' hs => pad_c w' A key c 0x5c (Rd.old hr (hs.get 2 rfl)) hn (Rd.old h1 (hs.get 2 rfl)) (Rd.old h0 (hs.get 2 rfl))) ?_
  rintro v Fs ⟨p2, j2, rfl, rfl⟩
  refine call_con [] (fun β w' hs => by
    have q := begun_c w' (some ⟨p2, 0, none⟩) (padL key 0x5c) 64 (bk_bs (hs.get 0 rfl)) (by rw [l64]; decide) (Rd.old h1 (hs.get 3 rfl)) (Rd.old h0 (hs.get 3 rfl))
    rw [l64] at q
    exact q) ?_
  rintro v Fs ⟨bo, Ao, co, rfl, rfl⟩
  refine reify_rule g 0 (fun _ => [ptrB bi, ptrB bo, .pointer none]) rfl rfl (fun _ => rfl) (fun mb => ?_)
  refine call_con [0, 3, 1] (fun β w' hs => reset0_c w' mb bi Ai ci bo Ao co (.pointer none) key (hs.mem.take (js := [0, 3, 1]) rfl)) ?_ ⟨rfl, rfl, rfl, trivial⟩
  rintro v Fs ⟨y, hy, rfl, rfl⟩
  intro β w' hs
  refine hs.fin [0] ⟨y, ?_, rfl⟩
  rw [hy]
  rfl
end Go.Proofs.YtkommfddfgiobaaGreatDoor.Sx

/- One sum of parts, by a Mac that is kept. -/
namespace Go.Proofs.YtkommfddfgiobaaGreatDoor.Sx
open Go
attribute [local irreducible] Calls

abbrev Part := Option Addr × List UInt8 × Nat
def partV (p : Part) : Value := .slice p.1 p.2.1.length p.2.2
def partsT (ps : List Part) : List UInt8 := ps.flatMap (·.2.1)
/-- Parts, to be read. -/
def partF (P : Option Addr) (ps : List Part) : Fact where
  own := false
  D := fun k => (rdF 1 P ps.length (ps.map partV)).D k ∨ ∃ p ∈ ps, (bsF p.1 p.2.1).D k
  p := fun w => Rd 1 P ps.length (ps.map partV) w ∧ ∀ p ∈ ps, Bs w p.1 p.2.1
  st := fun w w' hs h => ⟨(rdF 1 P ps.length (ps.map partV)).st w w' (fun k hk => hs k (.inl hk)) h.1, fun p hp => (bsF p.1 p.2.1).st w w' (fun k hk => hs k (.inr ⟨p, hp, hk⟩)) (h.2 p hp)⟩
/-- A cell to be read. -/
def cellR (b : Nat) (v : Value) : Fact where
  own := false
  D := fun k => k = b
  p := fun w => w.cell? ⟨b, 0, none⟩ = some v
  st := fun w w' hs h => by rw [← h]; exact World.cell?_of_block (hs b rfl)
theorem Mem.weakHead {w : World} {f g : Fact} {L : List Fact} (h : Mem w (f :: L)) (ho : g.own = true → f.own = true) (hp : f.p w → g.p w) (hD : ∀ k, g.D k → f.D k) : Mem w (g :: L) := by
  refine ⟨fun x hx => ?_, fun x hx k hk => ?_, List.pairwise_cons.2 ⟨fun x hx q k hk => ?_, (List.pairwise_cons.1 h.sepf).2⟩⟩
  · rcases List.mem_cons.1 hx with rfl | hx
    · exact hp (h.fact f List.mem_cons_self)
    · exact h.fact x (List.mem_cons_of_mem _ hx)
  · rcases List.mem_cons.1 hx with rfl | hx
    · exact h.flt f List.mem_cons_self k (hD k hk)
    · exact h.flt x (List.mem_cons_of_mem _ hx) k hk
  · exact (List.pairwise_cons.1 h.sepf).1 x hx (q.imp_left ho) k (hD k hk)
/-- What is known, with a local block of one cell that is only read. -/
theorem Sat.withCell {cx : Cx} {β : Va} {n : Nat} {H : List Bk} {F : List Fact} {w : World} (h : Sat cx β n H F w) {b : Bk} (hb : b ∈ H) {x : SL} (hx : b.cells = [x]) {js : List Nat} (hn : nodupB js = true) : Mem w (cellR (β b.id) (x.val β) :: takeIx F js) := by
  have h1 := h.weaken (H' := [b]) (F' := F) (List.singleton_sublist.2 hb) (List.Sublist.refl F)
  obtain ⟨id, ty, cells⟩ := b
  simp only at hx
  subst hx
  have h2 := h1.ofBk
  have hm := h2.mem
  have h3 : Mem w (bkF (β id) ty ([x].map (SL.val β)) :: takeIx F js) := by
    have hmt := (⟨fun f hf => hm.fact f (List.mem_cons_of_mem _ hf), fun f hf => hm.flt f (List.mem_cons_of_mem _ hf), (List.pairwise_cons.1 hm.sepf).2⟩ : Mem w F).take (js := js) hn
    refine ⟨fun f hf => ?_, fun f hf k hk => ?_, List.pairwise_cons.2 ⟨fun f hf ho k hk => ?_, hmt.sepf⟩⟩
    · rcases List.mem_cons.1 hf with rfl | hf
      · exact hm.fact _ List.mem_cons_self
      · exact hmt.fact f hf
    · rcases List.mem_cons.1 hf with rfl | hf
      · exact hm.flt _ List.mem_cons_self k hk
      · exact hmt.flt f hf k hk
    · obtain ⟨j, _, hj⟩ := takeIx_mem hf
      exact (List.pairwise_cons.1 hm.sepf).1 f (List.mem_of_getElem? hj) ho k hk
  refine h3.weakHead (fun q => by cases q) (fun q => ?_) (fun k hk => hk)
  exact bkcell q rfl
set_option maxHeartbeats 1000000 in
theorem once_c (w : World) (bx : Nat) (y : MacY) (key T0 : List UInt8) (P : Option Addr) (ps : List Part) (cP : Nat) (hn : (partsT ps).length ≤ 1000000) (hl : ps.length ≤ 1000) (hm : Mem w [macF y key T0, cellR bx (ptrB y.m), partF P ps, oddF 3]) :
    Con Tryz.prog n_hmac_pieces_1_1 #[.slice P ps.length cP, ptrB bx] w [macF y key T0] fun v Fs => ∃ A' c' y' T', y'.m = y.m ∧ v = .slice A' 32 c' ∧ 32 ≤ c' ∧ c' ≤ maxLen ∧ Fs = [browF ty_uint8 A' (hmL key (partsT ps)) c', macF y' key T'] := by
  have g := good_hmac_pieces_1_1 w (Un [macF y key T0])
  have hs0 : Sat (cx_hmac_pieces_1_1 w (Un [macF y key T0])) Va.z 0 [] [macF y key T0, cellR bx (ptrB y.m), partF P ps, oddF 3] w := hm.sat0 rfl (ownIn (Gs := [macF y key T0]) (fun f hf => by
    simp only [List.mem_cons, List.not_mem_nil, or_false] at hf
    rcases hf with rfl | rfl | rfl <;> rfl))
  refine con_of_sx (cx := cx_hmac_pieces_1_1 w (Un [macF y key T0])) g b_hmac_pieces_1_1 rfl rfl (β := Va.z) [.c (.v (.slice P ps.length cP)), .c (.v (ptrB bx))] 0 [] [macF y key T0, cellR bx (ptrB y.m), partF P ps, oddF 3] rfl rfl hs0 ?_
  refine ⟨ptrB y.m, fun β w' hs => hs.get 1 rfl, ?_⟩
  refine call_con [0] (fun β w' hs => reset_c w' y key T0 (hs.mem.take (js := [0]) rfl)) ?_
  rintro v Fs ⟨y1, hy1, rfl, rfl⟩
  refine loop_rule (ι := Nat × MacY) 0 (fun i => [(1, .c (.v (ptrB bx))), (8, .c (.v (.slice P ps.length cP))), (9, .c (.v (.int .i64 (ps.length : Int)))), (10, .c (.v (.int .i64 (i.1 : Int))))]) (fun _ => []) (fun i => [macF i.2 key (partsT (ps.take i.1)), cellR bx (ptrB y.m), partF P ps, oddF 3])
    (fun i => i.1 ≤ ps.length ∧ i.2.m = y.m) (fun i => ps.length - i.1) (0, y1) ⟨Nat.zero_le _, hy1⟩ (Ent.same ⟨rfl, rfl, rfl, rfl, trivial⟩ rfl) g ?_
  rintro ⟨i, yi⟩ ⟨hi, hyi⟩
  simp only at hi hyi
  have hpre : ∀ k, (partsT (ps.take k)).length ≤ (partsT ps).length := fun k => by
    conv => rhs; rw [← List.take_append_drop k ps]
    unfold partsT
    rw [List.flatMap_append, List.length_append]
    omega
  refine BIf.dec (fun hlt => ?_) (fun hge => ?_)
  · have hlt0 : (i : Int) < (ps.length : Int) := hlt
    have hil : i < ps.length := by omega
    obtain ⟨p, hp, hpm⟩ := at_lt hil
    have hPa : ∃ ad, P = some ad := by
      obtain ⟨ad, q, _⟩ := (hm.fact (partF P ps) (by simp)).1.2 (by omega)
      exact ⟨ad, q⟩
    obtain ⟨ad, hPa⟩ := hPa
    refine ⟨ad, i, hPa, rfl, hil, partV p, fun β w' hs => by
      have h : Rd 1 P ps.length (ps.map partV) w' := (hs.get 2 rfl : (partF P ps).p w').1
      rw [hPa] at h
      exact Rd.cell1 h (by rw [List.getElem?_map, hp]; rfl), ?_⟩
    refine ⟨ptrB y.m, fun β w' hs => hs.get 1 rfl, ?_⟩
    have hlen : (partsT (ps.take (i + 1))) = partsT (ps.take i) ++ p.2.1 := by
      unfold partsT
      rw [List.take_add_one, hp, List.flatMap_append]
      simp
    have hb1 := hpre (i + 1)
    rw [hlen, List.length_append] at hb1
    refine call_con [0] (R := fun v Fs => ∃ y', y'.m = y.m ∧ v = .int .i64 p.2.1.length ∧ Fs = [macF y' key (partsT (ps.take (i + 1)))]) (fun β w' hs => by
      have k1 := hs.sub 2 rfl rfl (bsF p.1 p.2.1) rfl ((hs.get 2 rfl : (partF P ps).p w').2 p hpm) (fun k hk => .inr ⟨p, hpm, hk⟩)
      have q := mwrite_c w' yi key (partsT (ps.take i)) p.1 p.2.1 p.2.2 (by omega) (k1.mem.take (js := [1, 0, 4]) rfl)
      rw [hyi, ← hlen] at q
      exact q) ?_
    rintro v Fs ⟨y2, hy2, rfl, rfl⟩
    refine ⟨((i + 1 : Nat) : Int), by rw [wrap_i64 (by omega) (by omega)]; rfl, ?_⟩
    exact ⟨(i + 1, y2), ⟨hil, hy2⟩, by show ps.length - (i + 1) < ps.length - i; omega, Ent.same ⟨rfl, rfl, rfl, rfl, trivial⟩ rfl⟩
  · have hge0 : ¬ (i : Int) < (ps.length : Int) := hge
    obtain rfl : i = ps.length := by omega
    rw [List.take_length]
    refine ⟨ptrB y.m, fun β w' hs => hs.get 1 rfl, ?_⟩
    refine call_con [] (fun β w' hs => by
      have q := msum_c w' yi key (partsT ps) (by omega) (hs.get 0 rfl) (hs.getLt 0 rfl) (hs.get 3 rfl)
      rw [hyi] at q
      exact q) ?_
    rintro v Fs ⟨A', c', rfl, h5, h6, rfl⟩
    intro β w' hs
    exact hs.fin [0, 1] ⟨A', c', yi, partsT ps, hyi, rfl, h5, h6, rfl⟩
end Go.Proofs.YtkommfddfgiobaaGreatDoor.Sx

/- The pieces of a password that is stretched: the first. -/
namespace Go.Proofs.YtkommfddfgiobaaGreatDoor.Sx
open Go
attribute [local irreducible] Calls

section
variable {cx : Cx} {β : Va} {n : Nat} {H : List Bk} {F : List Fact} {w : World}
theorem Sat.subN (h : Sat cx β n H F w) (js : List Nat) (hno : ∀ f ∈ takeIx F js, f.own = false) (g : Fact) (hgo : g.own = false) (hp : g.p w) (hD : ∀ k, g.D k → Un (takeIx F js) k) : Sat cx β n H (g :: F) w := by
  have hin : ∀ k, g.D k → ∃ (i : Nat) (f : Fact), F[i]? = some f ∧ f.own = false ∧ f.D k := fun k hk => by
    obtain ⟨f, hf, hfk⟩ := hD k hk
    obtain ⟨i, _, hi⟩ := takeIx_mem hf
    exact ⟨i, f, hi, hno f hf, hfk⟩
  refine h.old g hp (fun k hk => ?_) (fun b hb q => ?_) (fun q => by rw [hgo] at q; cases q) (fun g' hg' ho k hk hk' => ?_) (fun p hpp q => ?_)
  · obtain ⟨i, f, hi, _, hfk⟩ := hin k hk
    exact h.flt f (List.mem_of_getElem? hi) k hfk
  · obtain ⟨i, f, hi, _, hfk⟩ := hin _ q
    exact h.sepb f (List.mem_of_getElem? hi) b hb hfk
  · have ho' : g'.own = true := ho.resolve_left (by rw [hgo]; decide)
    obtain ⟨i, f, hi, hfo, hfk⟩ := hin k hk
    obtain ⟨j, hj⟩ := List.getElem?_of_mem hg'
    have hne : j ≠ i := fun q => by subst q; rw [hj] at hi; obtain rfl := Option.some.inj hi; rw [hfo] at ho'; cases ho'
    exact h.apart hj hi hne (.inl ho') k hk' hfk
  · obtain ⟨i, f, hi, _, hfk⟩ := hin _ q
    exact (h.pin p hpp).2.2 f (List.mem_of_getElem? hi) hfk
theorem rowD {e size : Nat} {A : Option Addr} {k c : Nat} {xs : List Value} {w : World} (h : (rowF e size (.slice A k c) k xs).p w) : ∀ b, (rdF size A k xs).D b → (rowF e size (.slice A k c) k xs).D b := by
  rintro b ⟨h0, ad, q, rfl⟩
  have hk : 0 < k := Nat.pos_of_ne_zero (fun q => by rw [q, Nat.zero_mul] at h0; exact Nat.lt_irrefl _ h0)
  rcases h.2 with ⟨he, h0⟩ | ⟨g, cap, cur, he, _⟩
  · omega
  · have hA : A = some ⟨g, 0, none⟩ := by injection he
    rw [q] at hA
    obtain rfl := Option.some.inj hA
    show Value.ownBlock (.slice A k c) = _
    rw [q]
    rfl
/-- A row, from now on to be read. -/
theorem Sat.rowRd (h : Sat cx β n H F w) (j : Nat) {e size : Nat} {A : Option Addr} {k c : Nat} {xs : List Value} (hj : nth F j = some (rowF e size (.slice A k c) k xs)) : Sat cx β n H (putAt F j (rdF size A k xs)) w := by
  have hp := h.get j hj
  exact h.upd hj rfl (Chg.refl _ _) (row_rd hp) (fun b hb => .inl (rowD hp b hb))
/-- Parts that lie about, as one. -/
theorem Sat.part1 {P A : Option Addr} {l : List UInt8} {c : Nat} (h : Sat cx β n H F w) (js : List Nat) (hj : takeIx F js = [rdF 1 P 1 [.slice A l.length c], bsF A l]) : Sat cx β n H (partF P [(A, l, c)] :: F) w := by
  have hP : Rd 1 P 1 [.slice A l.length c] w := h.fact _ (by
    have : rdF 1 P 1 [.slice A l.length c] ∈ takeIx F js := by rw [hj]; simp
    obtain ⟨i, _, hi⟩ := takeIx_mem this
    exact List.mem_of_getElem? hi)
  have hA : Bs w A l := h.fact (bsF A l) (by
    have : bsF A l ∈ takeIx F js := by rw [hj]; simp
    obtain ⟨i, _, hi⟩ := takeIx_mem this
    exact List.mem_of_getElem? hi)
  refine h.subN js (fun f hf => ?_) _ rfl ⟨hP, fun p hp => ?_⟩ (fun k hk => ?_)
  · rw [hj] at hf
    simp only [List.mem_cons, List.not_mem_nil, or_false] at hf
    rcases hf with rfl | rfl <;> rfl
  · obtain rfl := List.mem_singleton.1 hp; exact hA
  · rw [hj]
    rcases hk with hk | ⟨p, hp, hk⟩
    · exact ⟨_, List.mem_cons_self, hk⟩
    · obtain rfl := List.mem_singleton.1 hp
      exact ⟨_, List.mem_cons_of_mem _ List.mem_cons_self, hk⟩
theorem Sat.part2 {P A B : Option Addr} {l m : List UInt8} {c d : Nat} (h : Sat cx β n H F w) (js : List Nat) (hj : takeIx F js = [rdF 1 P 2 [.slice A l.length c, .slice B m.length d], bsF A l, bsF B m]) : Sat cx β n H (partF P [(A, l, c), (B, m, d)] :: F) w := by
  have get : ∀ f ∈ takeIx F js, f.p w := fun f hf => by obtain ⟨i, _, hi⟩ := takeIx_mem hf; exact h.fact f (List.mem_of_getElem? hi)
  have hP : Rd 1 P 2 [.slice A l.length c, .slice B m.length d] w := get (rdF 1 P 2 [.slice A l.length c, .slice B m.length d]) (by rw [hj]; simp)
  have hA : Bs w A l := get (bsF A l) (by rw [hj]; simp)
  have hB : Bs w B m := get (bsF B m) (by rw [hj]; simp)
  refine h.subN js (fun f hf => ?_) _ rfl ⟨hP, fun p hp => ?_⟩ (fun k hk => ?_)
  · rw [hj] at hf
    simp only [List.mem_cons, List.not_mem_nil, or_false] at hf
    rcases hf with rfl | rfl | rfl <;> rfl
  · simp only [List.mem_cons, List.not_mem_nil, or_false] at hp
    rcases hp with rfl | rfl
    · exact hA
    · exact hB
  · rw [hj]
    rcases hk with hk | ⟨p, hp, hk⟩
    · exact ⟨_, List.mem_cons_self, hk⟩
    · simp only [List.mem_cons, List.not_mem_nil, or_false] at hp
      rcases hp with rfl | rfl
      · exact ⟨bsF A l, by simp, hk⟩
      · exact ⟨bsF B m, by simp, hk⟩
end
theorem four_c (w : World) : Con Tryz.prog n_hmac_four #[.int .i64 1] w [] fun v Fs => ∃ b, v = .slice (some ⟨b, 0, none⟩) 4 4 ∧ Fs = [browF ty_uint8 (some ⟨b, 0, none⟩) (Bx.be4 1) 4] := by
  have g := good_hmac_four w (Un [])
  refine con_of_sx (cx := cx_hmac_four w (Un [])) g b_hmac_four rfl rfl (β := Va.z) [.c (.v (.int .i64 1))] 0 [] [] rfl rfl (Sat.start rfl) ?_
  refine ⟨by decide, 0, by decide, 0, by decide, by decide, 0, by decide, 0, by decide, by decide, 0, by decide, 0, by decide, 1, by decide, ?_⟩
  intro b
  intro β w' hs
  exact hs.fin [0] ⟨b, rfl, rfl⟩
def insP (x : List UInt8) (args : Array Value) (X : Fact) : Prop := x.length = 32 ∧ ∃ A c, args = #[.slice A 32 c] ∧ X = bsF A x
set_option maxHeartbeats 2000000 in
theorem pieces_it (l : Nat) (w : World) (bx1 bx2 bx3 : Nat) (A B : Option Addr) (pass salt : List UInt8) (c d rounds : Nat) (f0 R : Fact) (J Jx : List (List UInt8) → Fact → Prop) (hJ0 : J [] f0) (hJo : ∀ pre f, J pre f → f.own = true) (hRo : R.own = false) (hY : Yc Tryz.prog l J Jx R (fun _ => insP)) (hJS : ∀ x f, ¬ J [x] f)
    (hk : pass.length ≤ 1000000) (hn : salt.length ≤ 100000) (hr1 : 1 ≤ rounds) (hr2 : rounds ≤ 64)
    (hm : Mem w (f0 :: R :: [bkF bx1 ty_sl_uint8 [.slice A pass.length c], bkF bx2 ty_sl_uint8 [.slice B salt.length d], bkF bx3 ty_int [.int .i64 rounds], bsF A pass, bsF B salt, oddF 3, firstF 0])) :
    Con Tryz.prog n_hmac_pieces_1 #[.func (.yield l) #[] #[], ptrB bx1, ptrB bx2, ptrB bx3] w [f0, bkF bx1 ty_sl_uint8 [.slice A pass.length c], bkF bx2 ty_sl_uint8 [.slice B salt.length d], bkF bx3 ty_int [.int .i64 rounds]]
      (fun _ Fs => ∃ f Fs', Fs = f :: Fs' ∧ ((∃ xs, J xs f ∧ False) ∨ (∃ pre, Jx pre f ∧ pre = [stretchL pass salt rounds] ∧ Fs' = []))) := by
  obtain ⟨Gs, hGs⟩ : ∃ Gs, Gs = [f0, bkF bx1 ty_sl_uint8 [.slice A pass.length c], bkF bx2 ty_sl_uint8 [.slice B salt.length d], bkF bx3 ty_int [.int .i64 rounds]] := ⟨_, rfl⟩
  rw [← hGs]
  have g := good_hmac_pieces_1 w (Un Gs) [bx1, bx2, bx3]
  have hf0 := hJo _ _ hJ0
  have hs0 : Sat (cx_hmac_pieces_1 w (Un Gs) [bx1, bx2, bx3]) (Va.of fun i => [bx1, bx2, bx3].getD i 0) 3 [] (f0 :: R :: [bkF bx1 ty_sl_uint8 [.slice A pass.length c], bkF bx2 ty_sl_uint8 [.slice B salt.length d], bkF bx3 ty_int [.int .i64 rounds], bsF A pass, bsF B salt, oddF 3, firstF 0]) w := by
    refine hm.sat rfl (fun f hf ho k hk => ?_) ⟨Nat.le_refl 3, fun i hi => rfl⟩
    simp only [List.mem_cons, List.not_mem_nil, or_false] at hf
    rcases hf with rfl | rfl | rfl | rfl | rfl | rfl | rfl | rfl | rfl
    · exact ⟨_, by rw [hGs]; simp, hk⟩
    · rw [hRo] at ho; cases ho
    · exact ⟨_, by rw [hGs]; simp, hk⟩
    · exact ⟨bkF bx2 ty_sl_uint8 [.slice B salt.length d], by rw [hGs]; simp, hk⟩
    · exact ⟨bkF bx3 ty_int [.int .i64 rounds], by rw [hGs]; simp, hk⟩
    · cases ho
    · cases ho
    · cases ho
    · cases ho
  have hs1 := ((hs0.toBk 2 rfl 0 (by decide) rfl).toBk 2 rfl 1 (by decide) rfl).toBk 2 rfl 2 (by decide) rfl
  have hml := maxLen_eq
  refine con_of_sx (cx := cx_hmac_pieces_1 w (Un Gs) [bx1, bx2, bx3]) g b_hmac_pieces_1 rfl rfl (β := Va.of fun i => [bx1, bx2, bx3].getD i 0) [.c (.v (.func (.yield l) #[] #[])), .c (.p 0 0), .c (.p 1 0), .c (.p 2 0)] 3 [⟨2, ty_int, [.v (.int .i64 rounds)]⟩, ⟨1, ty_sl_uint8, [.v (.slice B salt.length d)]⟩, ⟨0, ty_sl_uint8, [.v (.slice A pass.length c)]⟩] [f0, R, bsF A pass, bsF B salt, oddF 3, firstF 0] rfl rfl hs1 ?_
  refine call_con [] (fun β w' hs => mnew_c w' A pass c (hs.get 2 rfl) hk (hs.get 4 rfl) (hs.get 5 rfl)) ?_
  rintro v Fs ⟨y, rfl, rfl⟩
  refine loop_rule (ι := Unit) 4 (fun _ => [(0, .c (.v (.func (.yield l) #[] #[]))), (2, .c (.p 1 0)), (3, .c (.p 2 0)), (6, .fn (.func n_hmac_pieces_1_1) [] [.p 3 0]), (7, .c (.v (.int .i64 1)))])
    (fun _ => [⟨3, 212, [.v (ptrB y.m)]⟩, ⟨2, ty_int, [.v (.int .i64 rounds)]⟩, ⟨1, ty_sl_uint8, [.v (.slice B salt.length d)]⟩]) (fun _ => [macF y pass [], f0, R, bsF B salt, oddF 3]) (fun _ => True) (fun _ => 0) () trivial (Ent.mk' ⟨rfl, rfl, rfl, rfl, rfl, trivial⟩ rfl (fun β w' hs => (hs.keepB (by
      refine List.Sublist.cons_cons _ (List.Sublist.cons_cons _ (List.Sublist.cons_cons _ (List.nil_sublist _))))).perm [0, 1, 2, 4, 5])) g ?_
  intro _ _
  obtain ⟨S, hSe⟩ : ∃ S : Nat → List UInt8, S = strU pass salt := ⟨_, rfl⟩
  obtain ⟨X, hXe⟩ : ∃ X : Nat → List UInt8, X = strX pass salt := ⟨_, rfl⟩
  have hS0 : hmL pass (salt ++ Bx.be4 1) = S 0 := by rw [hSe]; rfl
  have hX0 : S 0 = X 0 := by rw [hSe, hXe]; rfl
  have hSl : ∀ n, (S n).length = 32 := fun n => by rw [hSe]; exact strU_len _ _ n
  have hXl : ∀ n, (X n).length = 32 := fun n => by rw [hXe]; exact strX_len _ _ n
  have hSs : ∀ n, hmL pass (S n) = S (n + 1) := fun n => by rw [hSe]; rfl
  have hXs : ∀ n, Bx.xorB (X n) (S (n + 1)) = X (n + 1) := fun n => by rw [hSe, hXe]; rfl
  have hTX : stretchL pass salt rounds = X (rounds - 1) := by rw [hXe]; rfl
  obtain ⟨bk3, hbk3⟩ : ∃ bk3 : Bk, bk3 = ⟨3, 212, [.v (ptrB y.m)]⟩ := ⟨_, rfl⟩
  have hsub : ∀ {n : Nat} {F : List Fact}, Sub (cx_hmac_pieces_1 w (Un Gs) [bx1, bx2, bx3]) n [⟨3, 212, [.v (ptrB y.m)]⟩, ⟨2, ty_int, [.v (.int .i64 rounds)]⟩, ⟨1, ty_sl_uint8, [.v (.slice B salt.length d)]⟩] F [⟨1, ty_sl_uint8, [.v (.slice B salt.length d)]⟩] [] := fun {n F} => Sub.of ((List.sublist_cons_self _ _).trans (List.sublist_cons_self _ _)) (List.nil_sublist _)
  refine draw_rule g p_hmac_pieces_1_4 (by kernel_rfl) [⟨1, ty_sl_uint8, [.v (.slice B salt.length d)]⟩] [] hsub ?_
  refine call_con [] (fun β w' hs => four_c w') ?_
  rintro v Fs ⟨b4, rfl, rfl⟩
  refine ⟨hsub, ?_⟩
  intro b2
  refine ⟨hsub, ?_⟩
  refine call_con [2] (A := fun β => #[.slice (some ⟨b2, 0, none⟩) 2 2, ptrB (β 3)]) (R := fun v Fs => ∃ A' c' y' T', y'.m = y.m ∧ v = .slice A' 32 c' ∧ Fs = [browF ty_uint8 A' (S 0) c', macF y' pass T']) (fun β w' hs => by
    have k1 := (hs.rowRd 0 rfl).ro 1 rfl
    have k2 := k1.part2 (P := some ⟨b2, 0, none⟩) (A := B) (l := salt) (c := d) (B := some ⟨b4, 0, none⟩) (m := Bx.be4 1) (d := 4) [0, 5, 1] rfl
    have k3 := k2.withCell (b := ⟨3, 212, [.v (ptrB y.m)]⟩) (by simp) rfl (js := [3, 0, 7]) rfl
    have q := once_c w' (β 3) y pass [] (some ⟨b2, 0, none⟩) [(B, salt, d), (some ⟨b4, 0, none⟩, Bx.be4 1, 4)] 2 (by show (salt ++ (Bx.be4 1 ++ [])).length ≤ _; simp only [List.length_append, List.length_nil]; show salt.length + (4 + 0) ≤ _; omega) (by show 2 ≤ 1000; decide) (k3.take (js := [1, 0, 2, 3]) rfl)
    have e : partsT [(B, salt, d), (some ⟨b4, 0, none⟩, Bx.be4 1, 4)] = salt ++ Bx.be4 1 := by simp [partsT]
    rw [e, hS0] at q
    exact q.mono (by rintro v Fs ⟨A', c', y', T', h1, rfl, _, _, rfl⟩; exact ⟨A', c', y', T', h1, rfl, rfl⟩)) ?_
  rintro v Fs ⟨A5, c5, y5, T5, hy5, rfl, rfl⟩
  refine ⟨hsub, ?_⟩
  refine ⟨((rounds - 1 : Nat) : Int), by rw [wrap_i64 (by omega) (by omega)]; omega, ?_⟩
  refine loop_rule (ι := Nat × (Option Addr × Nat) × (Option Addr × Nat) × MacY × List UInt8) 4 (fun i => [(0, .c (.v (.func (.yield l) #[] #[]))), (6, .fn (.func n_hmac_pieces_1_1) [] [.p 3 0]), (8, .c (.v (.slice i.2.1.1 32 i.2.1.2))), (9, .c (.v (.slice i.2.2.1.1 32 i.2.2.1.2))), (23, .c (.v (.int .i64 ((rounds - 1 : Nat) : Int)))), (24, .c (.v (.int .i64 (i.1 : Int))))])
    (fun _ => [⟨3, 212, [.v (ptrB y.m)]⟩]) (fun i => [bsF i.2.1.1 (S i.1), bsF i.2.2.1.1 (X i.1), macF i.2.2.2.1 pass i.2.2.2.2, f0, R, oddF 3]) (fun i => i.1 ≤ rounds - 1 ∧ i.2.2.2.1.m = y.m) (fun i => rounds - 1 - i.1) (0, (A5, c5), (A5, c5), y5, T5) ⟨Nat.zero_le _, hy5⟩
    (Ent.mk' ⟨rfl, rfl, rfl, rfl, rfl, rfl, trivial⟩ rfl (fun β w' hs => by
      have k1 := (hs.ro 0 rfl).dupRo 0 rfl
      have k2 := k1.perm [0, 1, 2, 5, 6, 8]
      show Sat _ _ _ _ [bsF A5 (S 0), bsF A5 (X 0), macF y5 pass T5, f0, R, oddF 3] w'
      rw [← hX0]
      exact k2.keepB (List.Sublist.cons_cons _ (List.nil_sublist _)))) g ?_
  rintro ⟨i, ⟨Au, cu⟩, ⟨Ax, cx'⟩, yi, Ti⟩ ⟨hi, hyi⟩
  simp only at hi hyi
  refine BIf.dec (fun hlt => ?_) (fun hge => ?_)
  · have hlt0 : (i : Int) < ((rounds - 1 : Nat) : Int) := hlt
    intro b3
    refine call_con [3] (A := fun β => #[.slice (some ⟨b3, 0, none⟩) 1 1, ptrB (β 3)]) (R := fun v Fs => ∃ A' c' y' T', y'.m = y.m ∧ v = .slice A' 32 c' ∧ Fs = [browF ty_uint8 A' (S (i + 1)) c', macF y' pass T']) (fun β w' hs => by
      have hrow : Sat (cx_hmac_pieces_1 w (Un Gs) [bx1, bx2, bx3]) β 4 [⟨3, 212, [.v (ptrB y.m)]⟩] [rdF 1 (some ⟨b3, 0, none⟩) 1 [.slice Au (S i).length cu], bsF Au (S i), bsF Ax (X i), macF yi pass Ti, f0, R, oddF 3] w' := by rw [hSl]; exact hs.rowRd 0 rfl
      have k2 := hrow.part1 (P := some ⟨b3, 0, none⟩) (A := Au) (l := S i) (c := cu) [0, 1] rfl
      have k3 := k2.withCell (b := ⟨3, 212, [.v (ptrB y.m)]⟩) (by simp) rfl (js := [4, 0, 7]) rfl
      have k4 := k3.take (js := [1, 0, 2, 3]) rfl
      have k5 : Mem w' [macF yi pass Ti, cellR (β 3) (ptrB yi.m), partF (some ⟨b3, 0, none⟩) [(Au, S i, cu)], oddF 3] := by rw [hyi]; exact k4
      have e : partsT [(Au, S i, cu)] = S i := by simp [partsT]
      have q := once_c w' (β 3) yi pass Ti (some ⟨b3, 0, none⟩) [(Au, S i, cu)] 1 (by rw [e, hSl]; decide) (by show 1 ≤ 1000; decide) k5
      rw [e, hSs] at q
      exact q.mono (by rintro v Fs ⟨A', c', y', T', h1, rfl, _, _, rfl⟩; exact ⟨A', c', y', T', h1.trans hyi, rfl, rfl⟩)) ?_
    rintro v Fs ⟨A6, c6, y6, T6, hy6, rfl, rfl⟩
    refine call_con [] (R := fun v Fs => ∃ A' c', v = .slice A' 32 c' ∧ Fs = [browF ty_uint8 A' (X (i + 1)) c']) (fun β w' hs => by
      have q := xor_c w' Ax A6 (X i) (S (i + 1)) cx' c6 (hs.get 4 rfl) (row_rd (hs.get 0 rfl)) (by rw [hXl]; decide)
      rw [hXl, hSl, hXs] at q
      exact q.mono (by rintro v Fs ⟨A', c', rfl, _, _, rfl⟩; exact ⟨A', c', by rw [hXl], rfl⟩)) ?_
    rintro v Fs ⟨A7, c7, rfl, rfl⟩
    refine ⟨((i + 1 : Nat) : Int), by rw [wrap_i64 (by omega) (by omega)]; rfl, ?_⟩
    refine ⟨(i + 1, (A6, c6), (A7, c7), y6, T6), ⟨by show i + 1 ≤ rounds - 1; omega, hy6⟩, by show rounds - 1 - (i + 1) < rounds - 1 - i; omega, Ent.mk' ⟨rfl, rfl, rfl, rfl, rfl, rfl, trivial⟩ rfl (fun β w' hs => ?_)⟩
    exact ((hs.ro 0 rfl).ro 1 rfl).perm [1, 0, 2, 6, 7, 8]
  · have hge0 : ¬ (i : Int) < ((rounds - 1 : Nat) : Int) := hge
    have hir : i = rounds - 1 := by omega
    rw [hTX, ← hir]
    refine yield_ro hY (A := fun β => #[.slice Ax 32 cx']) (pre := []) (x := X i) (f := f0) (X := bsF Ax (X i)) 3 4 rfl hJ0 hf0 rfl hRo (by decide) (fun β => ⟨hXl i, Ax, cx', rfl, rfl⟩) rfl (fun β w' hs => ⟨hs.get 1 rfl, hs.getLt 1 rfl, hs.apart (i := 3) (j := 1) rfl rfl (by decide) (.inl hf0)⟩) ?_ ?_
    · intro f' _ hJ
      exact absurd hJ (hJS _ _)
    · intro f' hfo hJx
      intro β w' hs
      exact (hs.keepB (List.nil_sublist _)).fin [0] ⟨f', [], rfl, .inr ⟨_, hJx, rfl, rfl⟩⟩
end Go.Proofs.YtkommfddfgiobaaGreatDoor.Sx

/- A password's key, of 32 bytes. -/
namespace Go.Proofs.YtkommfddfgiobaaGreatDoor.Sx
open Go
attribute [local irreducible] Calls

theorem pieces_c (w : World) (A B : Option Addr) (n c m d : Nat) (r : Int) : Con Tryz.prog n_hmac_pieces #[.slice A n c, .slice B m d, .int .i64 r] w [] fun v Fs => ∃ b1 b2 b3, v = .func (.func n_hmac_pieces_1) #[] #[ptrB b1, ptrB b2, ptrB b3] ∧ Fs = [bkF b1 ty_sl_uint8 [.slice A n c], bkF b2 ty_sl_uint8 [.slice B m d], bkF b3 ty_int [.int .i64 r]] := by
  refine con_of_sx (cx := cx_hmac_pieces w (Un [])) (good_hmac_pieces w (Un [])) b_hmac_pieces rfl rfl (β := Va.z) [.c (.v (.slice A n c)), .c (.v (.slice B m d)), .c (.v (.int .i64 r))] 0 [] [] rfl rfl (Sat.start rfl) ?_
  intro β w' hs
  exact hs.ofBk.ofBk.ofBk.fin [0, 1, 2] ⟨β 0, β 1, β 2, rfl, rfl⟩ rfl rfl rfl ⟨rfl, rfl, rfl, trivial⟩
theorem hsized_c (w : World) : Pu Tryz.prog n_hmac_sized #[.int .i64 32] w (.bool true) := by
  refine con_of_sx (cx := cx_hmac_sized w (Un [])) (good_hmac_sized w (Un [])) b_hmac_sized rfl rfl (β := Va.z) [.c (.v (.int .i64 32))] 0 [] [] rfl rfl (Sat.start rfl) ?_
  intro β w' hs
  exact hs.fin [] ⟨rfl, rfl⟩
set_option maxHeartbeats 1000000 in
theorem first32_c (w : World) (bx1 bx2 bx3 : Nat) (A B : Option Addr) (pass salt : List UInt8) (c d rounds : Nat) (hk : pass.length ≤ 1000000) (hn : salt.length ≤ 100000) (hr1 : 1 ≤ rounds) (hr2 : rounds ≤ 64)
    (hm : Mem w [bkF bx1 ty_sl_uint8 [.slice A pass.length c], bkF bx2 ty_sl_uint8 [.slice B salt.length d], bkF bx3 ty_int [.int .i64 rounds], bsF A pass, bsF B salt, oddF 3, firstF 0]) :
    Con Tryz.prog n_hmac_first #[.int .i64 32, .func (.func n_hmac_pieces_1) #[] #[ptrB bx1, ptrB bx2, ptrB bx3]] w [bkF bx1 ty_sl_uint8 [.slice A pass.length c], bkF bx2 ty_sl_uint8 [.slice B salt.length d], bkF bx3 ty_int [.int .i64 rounds]]
      fun v Fs => ∃ A' c', v = .slice A' 32 c' ∧ 32 ≤ c' ∧ c' ≤ maxLen ∧ Fs = [browF ty_uint8 A' (stretchL pass salt rounds) c'] := by
  obtain ⟨Gs, hGs⟩ : ∃ Gs, Gs = [bkF bx1 ty_sl_uint8 [.slice A pass.length c], bkF bx2 ty_sl_uint8 [.slice B salt.length d], bkF bx3 ty_int [.int .i64 rounds]] := ⟨_, rfl⟩
  rw [← hGs]
  have g := good_hmac_first w (Un Gs)
  have hml := maxLen_eq
  obtain ⟨T, hT⟩ : ∃ T, stretchL pass salt rounds = T := ⟨_, rfl⟩
  have hTl : T.length = 32 := by rw [← hT]; exact strX_len _ _ _
  have hs0 : Sat (cx_hmac_first w (Un Gs)) Va.z 0 [] [bkF bx1 ty_sl_uint8 [.slice A pass.length c], bkF bx2 ty_sl_uint8 [.slice B salt.length d], bkF bx3 ty_int [.int .i64 rounds], bsF A pass, bsF B salt, oddF 3, firstF 0] w := hm.sat0 rfl (fun f hf ho k hk => by
    simp only [List.mem_cons, List.not_mem_nil, or_false] at hf
    rcases hf with rfl | rfl | rfl | rfl | rfl | rfl | rfl
    · exact ⟨_, by rw [hGs]; simp, hk⟩
    · exact ⟨bkF bx2 ty_sl_uint8 [.slice B salt.length d], by rw [hGs]; simp, hk⟩
    · exact ⟨bkF bx3 ty_int [.int .i64 rounds], by rw [hGs]; simp, hk⟩
    · cases ho
    · cases ho
    · cases ho
    · cases ho)
  refine con_of_sx (cx := cx_hmac_first w (Un Gs)) g b_hmac_first rfl rfl (β := Va.z) [.c (.v (.int .i64 32)), .c (.v (.func (.func n_hmac_pieces_1) #[] #[ptrB bx1, ptrB bx2, ptrB bx3]))] 0 [] [bkF bx1 ty_sl_uint8 [.slice A pass.length c], bkF bx2 ty_sl_uint8 [.slice B salt.length d], bkF bx3 ty_int [.int .i64 rounds], bsF A pass, bsF B salt, oddF 3, firstF 0] rfl rfl hs0 ?_
  refine range_ruleP (α := List UInt8) (ι := Unit) (κ := List UInt8 × Option Addr × Nat) g rfl (cv := [ptrB bx1, ptrB bx2, ptrB bx3]) rfl (by kernel_rfl) 2 (Nat.le_refl 2)
    (fun pre _ => pre = []) (fun _ => [⟨1, ty_sl_uint8, [.v (.slice none 0 0)]⟩, ⟨0, ty_int, [.v (.int .i64 32)]⟩]) (fun _ => [browF ty_uint8 none [] 0]) (fun _ => ⟨rfl, trivial⟩)
    (fun e pre i => e = .exit 0 ∧ pre = [i.1] ∧ i.1.length = 32 ∧ 32 ≤ i.2.2 ∧ i.2.2 ≤ maxLen) (fun i => [⟨1, ty_sl_uint8, [.v (.slice i.2.1 32 i.2.2)]⟩, ⟨0, ty_int, [.v (.int .i64 32)]⟩]) (fun i => [rowF ty_uint8 1 (.slice i.2.1 32 i.2.2) 32 (i.1.map byte)]) (fun _ => ⟨rfl, trivial⟩)
    [bkF bx1 ty_sl_uint8 [.slice A pass.length c], bkF bx2 ty_sl_uint8 [.slice B salt.length d], bkF bx3 ty_int [.int .i64 rounds]] [bsF A pass, bsF B salt, oddF 3, firstF 0] [] ⟨rfl, rfl, rfl, trivial⟩ (fun g h => by cases h) () rfl (fun β w hs => ⟨β, Agr.refl _ _, (hs.nilRow ty_uint8 1).perm [1, 2, 3, 4, 5, 6, 7, 0]⟩) (fun _ => insP)
    (fun _ _ => False) (fun pre Fs' => pre = [T] ∧ Fs' = [])
    (fun l w f0 R J Jx hJ0 hJo hRo hY hP hm => by
      rw [← hT]
      exact pieces_it l w bx1 bx2 bx3 A B pass salt c d rounds f0 R J Jx hJ0 hJo hRo hY (fun x f hJ => by obtain ⟨_, hi⟩ := hP _ _ hJ; cases hi) hk hn hr1 hr2 hm) ?_ ?_ ?_
  · rintro _ pre x args X W S l bs pn pn' hbs rfl ⟨hx, Ax, cx', rfl, rfl⟩
    refine ⟨_, rfl, ?_⟩
    refine ⟨1, 0, 32, [], x.map byte, x.map byte, rfl, fun β w hs => ?_, bytes_one x, rfl, rfl, by omega, by decide, ?_⟩
    · have h : Rd 1 Ax x.length (x.map byte) w := hs.get 0 rfl
      rw [hx] at h
      exact h
    intro A' c' q1 q2 _
    exact ⟨(x, A', c'), ⟨rfl, rfl, hx, q1, q2⟩, Ent.mk' trivial rfl (fun β w hs => hs.perm [1])⟩
  · rintro xs _ Fs _ h
    exact h.elim
  · rintro e pre ⟨x, A1, c1⟩ Fs ⟨rfl, rfl, hx, h1, h2⟩ ⟨hpre, rfl⟩
    simp only at hx h1 h2
    obtain rfl : x = T := by simpa using hpre
    refine ⟨c1, 32, 0, 32, c1, A1, rfl, rfl, rfl, Nat.le_refl _, h1, Nat.zero_le _, rfl, rfl, cutA_z A1, ?_⟩
    refine call_con [] (R := fun v Fs => ∃ A' c', v = .slice A' 32 c' ∧ 32 ≤ c' ∧ c' ≤ maxLen ∧ Fs = [browF ty_uint8 A' x c']) (fun β w' hs => by
      have q := clone_c w' A1 x c1 (by show Rd 1 A1 x.length _ w'; rw [hx]; exact row_rd (hs.get 0 rfl)) (by omega)
      rw [hx] at q
      exact q) ?_
    rintro v Fs ⟨A2, c2, rfl, h5, h6, rfl⟩
    intro β w' hs
    exact (hs.keepB (List.nil_sublist _)).fin [0] ⟨A2, c2, rfl, h5, h6, by rw [hT]; rfl⟩
theorem stretch_c (w : World) (A B : Option Addr) (pass salt : List UInt8) (c d rounds : Nat) (hr : Bs w A pass) (ht : Bs w B salt) (hk : pass.length ≤ 1000000) (hn : salt.length ≤ 100000) (hr1 : 1 ≤ rounds) (hr2 : rounds ≤ 64) (h1 : (oddF 3).p w) (h0 : (firstF 0).p w) :
    Con Tryz.prog n_hmac_Stretch #[.slice A pass.length c, .slice B salt.length d, .int .i64 rounds, .int .i64 32] w [] fun v Fs => ∃ A' c', v = .tuple #[.slice A' 32 c', .int .i64 0] ∧ 32 ≤ c' ∧ c' ≤ maxLen ∧ Fs = [browF ty_uint8 A' (stretchL pass salt rounds) c'] := by
  have g := good_hmac_Stretch w (Un [])
  have hs0 : Sat (cx_hmac_Stretch w (Un [])) Va.z 0 [] [oldF w] w := old_sat rfl
  have hs1 := (((hs0.sub 0 rfl rfl (firstF 0) rfl h0 (rd_lt h0)).sub 1 rfl rfl (oddF 3) rfl h1 (rd_lt h1)).sub 2 rfl rfl (bsF B salt) rfl ht (rd_lt ht)).sub 3 rfl rfl (bsF A pass) rfl hr (rd_lt hr)
  refine con_of_sx (cx := cx_hmac_Stretch w (Un [])) g b_hmac_Stretch rfl rfl (β := Va.z) [.c (.v (.slice A pass.length c)), .c (.v (.slice B salt.length d)), .c (.v (.int .i64 rounds)), .c (.v (.int .i64 32))] 0 [] [bsF A pass, bsF B salt, oddF 3, firstF 0, oldF w] rfl rfl hs1 ?_
  refine BIf.dec (fun q => absurd (show (rounds : Int) < 1 from q) (by omega)) (fun _ => ?_)
  refine BIf.dec (fun q => absurd (show (64 : Int) < (rounds : Int) from q) (by omega)) (fun _ => ?_)
  refine call_pu (fun β w' hs => hsized_c w') ?_
  refine call_con [] (fun β w' hs => pieces_c w' A B pass.length c salt.length d rounds) ?_
  rintro v Fs ⟨b1, b2, b3, rfl, rfl⟩
  refine call_con [0, 1, 2] (fun β w' hs => first32_c w' b1 b2 b3 A B pass salt c d rounds hk hn hr1 hr2 (hs.mem.take (js := [0, 1, 2, 3, 4, 5, 6]) rfl)) ?_ ⟨rfl, rfl, rfl, trivial⟩
  rintro v Fs ⟨A', c', rfl, h5, h6, rfl⟩
  intro β w' hs
  exact hs.fin [0] ⟨A', c', rfl, h5, h6, rfl⟩
end Go.Proofs.YtkommfddfgiobaaGreatDoor.Sx

/- Two sums, turned. -/
namespace Go.Proofs.YtkommfddfgiobaaGreatDoor.Sx
open Go
attribute [local irreducible] Calls

/-- What stands in one list and not in the other. -/
def notIn (l m : List Nat) : List Nat := l.filter fun x => !decide (x ∈ m)
theorem notIn_len (l m : List Nat) : (notIn l m).length ≤ l.length := List.length_filter_le _ _
theorem notIn_snoc {l : List Nat} {k x : Nat} (m : List Nat) (h : l[k]? = some x) : notIn (l.take (k + 1)) m = notIn (l.take k) m ++ (if x ∈ m then [] else [x]) := by
  unfold notIn
  rw [List.take_add_one, h, List.filter_append]
  congr 1
  by_cases hx : x ∈ m <;> simp [hx]
structure TuS where
  k : Nat
  A : Option Addr
  c : Nat
def sumS (A1 : Option Addr) (l : List Nat) (c1 : Nat) (A2 : Option Addr) (m : List UInt8) (c2 : Nat) : List SL := [.v (.slice A1 l.length c1), .v (.slice A2 m.length c2)]
theorem turned_c (w : World) (A1 A2 B1 B2 : Option Addr) (l1 l2 : List Nat) (m1 m2 : List UInt8) (c1 c2 d1 d2 : Nat) (hl1 : Rd 1 A1 l1.length (ints l1) w) (hl2 : Rd 1 B1 l2.length (ints l2) w) (hm1 : Bs w A2 m1) (hm2 : Bs w B2 m2)
    (hn1 : l1.length ≤ 1000000) (hn2 : l2.length ≤ 1000000) (hk1 : m1.length ≤ 1000000) :
    Con Tryz.prog n_box_turned #[sumV A1 l1 c1 A2 m1 c2, sumV B1 l2 d1 B2 m2 d2] w [] fun v Fs => ∃ A c B d, v = sumV A (sortN (notIn l1 l2 ++ notIn l2 l1)) c B (Bx.xorB m1 m2) d ∧ (Bx.xorB m1 m2).length ≤ d ∧ d ≤ maxLen ∧ (∀ x ∈ sortN (notIn l1 l2 ++ notIn l2 l1), ∃ ad, A = some ad) ∧ Fs = [irowF A (sortN (notIn l1 l2 ++ notIn l2 l1)) c, browF ty_uint8 B (Bx.xorB m1 m2) d] := by
  have g := good_box_turned w (Un [])
  refine con_of_sx (cx := cx_box_turned w (Un [])) g b_box_turned rfl rfl (β := Va.z) [.agg (sumS A1 l1 c1 A2 m1 c2), .agg (sumS B1 l2 d1 B2 m2 d2)] 0 [] [oldF w] rfl rfl (old_sat rfl) ?_
  refine call_con [] (fun β w' hs => xor_c w' A2 B2 m1 m2 c2 d2 (Rd.old hm1 (hs.get 0 rfl)) (Rd.old hm2 (hs.get 0 rfl)) (by omega)) ?_
  rintro v Fs ⟨B, d, rfl, hd, hdm, rfl⟩
  refine loop_rule (ι := TuS) 4 (fun i => [(17, .c (.v (.slice A1 l1.length c1))), (18, .c (.v (.int .i64 l1.length))), (19, .c (.v (.int .i64 i.k))), (2, .c (.p 0 0)), (3, .c (.p 1 0)), (4, .c (.p 2 0)), (5, .c (.p 3 0))])
    (fun i => [⟨3, ty_box_sum, sumS i.A (notIn (l1.take i.k) l2) i.c B (Bx.xorB m1 m2) d⟩, ⟨2, ty_box_sum, ti127.zero.map SL.v⟩, ⟨1, ty_box_sum, sumS B1 l2 d1 B2 m2 d2⟩, ⟨0, ty_box_sum, sumS A1 l1 c1 A2 m1 c2⟩])
    (fun i => [irowF i.A (notIn (l1.take i.k) l2) i.c, browF ty_uint8 B (Bx.xorB m1 m2) d, oldF w]) (fun i => i.k ≤ l1.length) (fun i => l1.length - i.k) ⟨0, none, 0⟩ (Nat.zero_le _) (Ent.mk' ⟨rfl, rfl, rfl, rfl, rfl, rfl, rfl, trivial⟩ rfl (fun β w hs => hs.nilRow ty_int 1)) g ?_
  rintro ⟨k, A, c⟩ hk
  simp only at hk
  have ha := notIn_len (l1.take k) l2
  have hat : (l1.take k).length ≤ l1.length := by simp; omega
  refine BIf.dec (fun hlt => ?_) (fun hge => ?_)
  · have hlt0 : (k : Int) < l1.length := hlt
    have hkl : k < l1.length := by omega
    obtain ⟨x, hx, hxm⟩ := at_lt hkl
    obtain ⟨ad, hA, _⟩ := hl1.2 (by omega)
    refine ⟨ad, k, hA, rfl, hkl, _, fun β w' hs => Rd.cell1 (by have h := Rd.old hl1 (hs.get 2 rfl); rw [hA] at h; exact h) (ints_at hx), ?_⟩
    refine call_pu (fun β w' hs => containsI_c w' B1 l2 d1 x (Rd.old hl2 (hs.get 2 rfl)) (by omega)) ?_
    have hsn := notIn_snoc l2 hx
    refine BIf.not (BIf.dec (fun hin => ?_) (fun hin => ?_))
    · refine ⟨((k + 1 : Nat) : Int), by rw [wrap_i64 (by omega) (by omega)]; rfl, ?_⟩
      rw [if_pos hin, List.append_nil] at hsn
      refine ⟨⟨k + 1, A, c⟩, hkl, by show l1.length - (k + 1) < l1.length - k; omega, ?_⟩
      simp only [hsn]
      exact Ent.same ⟨rfl, rfl, rfl, rfl, rfl, rfl, rfl, trivial⟩ rfl
    · rw [if_neg hin] at hsn
      intro b2
      refine ⟨1, (notIn (l1.take k) l2).length, (notIn (l1.take k) l2).length + 1, ints (notIn (l1.take k) l2), ints [x], ints (notIn (l1.take k) l2 ++ [x]), rfl, fun β w hs => row_rd (hs.get 0 rfl), ints_one _, rfl, by simp [ints], by rw [maxLen_eq]; omega, by show ((notIn (l1.take k) l2).length + 1) * 8 ≤ _; omega, ?_⟩
      intro A' c' q1 q2 _
      refine ⟨((k + 1 : Nat) : Int), by rw [wrap_i64 (by omega) (by omega)]; rfl, ?_⟩
      refine ⟨⟨k + 1, A', c'⟩, hkl, by show l1.length - (k + 1) < l1.length - k; omega, ?_⟩
      simp only [hsn]
      refine Ent.mk' ⟨rfl, rfl, rfl, rfl, rfl, rfl, rfl, trivial⟩ rfl (fun β w' hs => ?_)
      simp only [irowF, sumS, List.length_append, List.length_cons, List.length_nil]
      exact hs.weaken (List.Sublist.refl _) (List.sublist_cons_self _ _)
  · have hge0 : ¬ (k : Int) < l1.length := hge
    obtain rfl : k = l1.length := by omega
    rw [List.take_length]
    refine loop_rule (ι := TuS) 4 (fun i => [(36, .c (.v (.slice B1 l2.length d1))), (37, .c (.v (.int .i64 l2.length))), (38, .c (.v (.int .i64 i.k))), (2, .c (.p 0 0)), (3, .c (.p 1 0)), (4, .c (.p 2 0)), (5, .c (.p 3 0))])
      (fun i => [⟨3, ty_box_sum, sumS i.A (notIn l1 l2 ++ notIn (l2.take i.k) l1) i.c B (Bx.xorB m1 m2) d⟩, ⟨2, ty_box_sum, ti127.zero.map SL.v⟩, ⟨1, ty_box_sum, sumS B1 l2 d1 B2 m2 d2⟩, ⟨0, ty_box_sum, sumS A1 l1 c1 A2 m1 c2⟩])
      (fun i => [irowF i.A (notIn l1 l2 ++ notIn (l2.take i.k) l1) i.c, browF ty_uint8 B (Bx.xorB m1 m2) d, oldF w]) (fun i => i.k ≤ l2.length) (fun i => l2.length - i.k) ⟨0, A, c⟩ (Nat.zero_le _) (by
        simp only [List.take_zero, notIn, List.filter_nil, List.append_nil]
        exact Ent.same ⟨rfl, rfl, rfl, rfl, rfl, rfl, rfl, trivial⟩ rfl) g ?_
    clear hk ha hat hge hge0
    rintro ⟨k, A, c⟩ hk
    simp only at hk
    have ha := notIn_len l1 l2
    have ha2 := notIn_len (l2.take k) l1
    have hat : (l2.take k).length ≤ l2.length := by simp; omega
    refine BIf.dec (fun hlt => ?_) (fun hge => ?_)
    · have hlt0 : (k : Int) < l2.length := hlt
      have hkl : k < l2.length := by omega
      obtain ⟨x, hx, hxm⟩ := at_lt hkl
      obtain ⟨ad, hA, _⟩ := hl2.2 (by omega)
      refine ⟨ad, k, hA, rfl, hkl, _, fun β w' hs => Rd.cell1 (by have h := Rd.old hl2 (hs.get 2 rfl); rw [hA] at h; exact h) (ints_at hx), ?_⟩
      refine call_pu (fun β w' hs => containsI_c w' A1 l1 c1 x (Rd.old hl1 (hs.get 2 rfl)) (by omega)) ?_
      have hsn := notIn_snoc l1 hx
      refine BIf.not (BIf.dec (fun hin => ?_) (fun hin => ?_))
      · refine ⟨((k + 1 : Nat) : Int), by rw [wrap_i64 (by omega) (by omega)]; rfl, ?_⟩
        rw [if_pos hin, List.append_nil] at hsn
        refine ⟨⟨k + 1, A, c⟩, hkl, by show l2.length - (k + 1) < l2.length - k; omega, ?_⟩
        simp only [hsn]
        exact Ent.same ⟨rfl, rfl, rfl, rfl, rfl, rfl, rfl, trivial⟩ rfl
      · rw [if_neg hin] at hsn
        intro b2
        have hal : (notIn l1 l2 ++ notIn (l2.take k) l1).length ≤ 2000000 := by rw [List.length_append]; omega
        refine ⟨1, (notIn l1 l2 ++ notIn (l2.take k) l1).length, (notIn l1 l2 ++ notIn (l2.take k) l1).length + 1, ints (notIn l1 l2 ++ notIn (l2.take k) l1), ints [x], ints (notIn l1 l2 ++ notIn (l2.take k) l1 ++ [x]), rfl, fun β w hs => row_rd (hs.get 0 rfl), ints_one _, rfl, by simp [ints], by rw [maxLen_eq]; omega, by show ((notIn l1 l2 ++ notIn (l2.take k) l1).length + 1) * 8 ≤ _; omega, ?_⟩
        intro A' c' q1 q2 _
        refine ⟨((k + 1 : Nat) : Int), by rw [wrap_i64 (by omega) (by omega)]; rfl, ?_⟩
        refine ⟨⟨k + 1, A', c'⟩, hkl, by show l2.length - (k + 1) < l2.length - k; omega, ?_⟩
        simp only [hsn]
        refine Ent.mk' ⟨rfl, rfl, rfl, rfl, rfl, rfl, rfl, trivial⟩ rfl (fun β w' hs => ?_)
        have e : (notIn l1 l2 ++ (notIn (l2.take k) l1 ++ [x])) = notIn l1 l2 ++ notIn (l2.take k) l1 ++ [x] := (List.append_assoc _ _ _).symm
        have e2 : (notIn l1 l2 ++ notIn (l2.take k) l1 ++ [x]).length = (notIn l1 l2 ++ notIn (l2.take k) l1).length + 1 := by rw [List.length_append (bs := [x])]; rfl
        rw [e]
        simp only [irowF, sumS, e2]
        exact hs.weaken (List.Sublist.refl _) (List.sublist_cons_self _ _)
    · have hge0 : ¬ (k : Int) < l2.length := hge
      obtain rfl : k = l2.length := by omega
      rw [List.take_length]
      have ha3 := notIn_len l2 l1
      refine call_con [0] (fun β w' hs => sort_c w' A (notIn l1 l2 ++ notIn l2 l1) c (hs.mem.take (js := [0]) rfl) (by rw [List.length_append]; omega)) ?_
      rintro v Fs ⟨rfl, rfl⟩
      intro β w' hs
      refine (hs.keepB (List.nil_sublist _)).fin [0, 1] ⟨A, c, B, d, ?_, hd, hdm, fun x hx => ?_, rfl⟩
      · unfold sumV
        rw [sortN_len]
        rfl
      · obtain ⟨ad, h, _⟩ := (row_rd (hs.get 0 rfl)).2 (by have := List.length_pos_of_mem hx; omega)
        exact ⟨ad, h⟩
end Go.Proofs.YtkommfddfgiobaaGreatDoor.Sx

/- Two tags, turned. -/
namespace Go.Proofs.YtkommfddfgiobaaGreatDoor.Sx
open Go
attribute [local irreducible] Calls

/-- What a sum of the box's must be. -/
structure OkS (l : List Nat) (m : List UInt8) : Prop where
  len : l.length ≤ 4096
  nums : ∀ n ∈ l, n ≤ 4096
  mask : m.length = 32
def mixL (l1 l2 : List Nat) : List Nat := sortN (notIn l1 l2 ++ notIn l2 l1)
def turnT (L : List Nat) (M : List UInt8) : Bx.Term := ⟨4, [], [], 0, L, M⟩
open Classical in
/-- Two tags' turning; none: the box doesn't know them. -/
noncomputable def turnB (B : Bx.Box) (s t : List UInt8) : Option (List UInt8) × Bx.Box := match B.opens s, B.opens t with
  | some (l1, m1), some (l2, m2) =>
    if mixL l1 l2 = [] ∧ ¬ (B.sym = true ∧ (Bx.xorB m1 m2).take 28 = Bx.front) then (some (Bx.xorB m1 m2), B)
    else match mixL l1 l2, decide (Bx.xorB m1 m2 = Bx.noughts) with
      | [n], true => (some (Bx.handle n), B)
      | L, _ => (some (B.tag (turnT L (Bx.xorB m1 m2))).1, (B.tag (turnT L (Bx.xorB m1 m2))).2)
  | _, _ => (none, B)
theorem turnB_none1 {B : Bx.Box} {s t : List UInt8} (h : B.opens s = none) : turnB B s t = (none, B) := by unfold turnB; rw [h]
theorem turnB_none2 {B : Bx.Box} {s t : List UInt8} (h : B.opens t = none) : turnB B s t = (none, B) := by unfold turnB; rw [h]; cases B.opens s <;> rfl
theorem turnB_raw {B : Bx.Box} {s t : List UInt8} {l1 l2 : List Nat} {m1 m2 : List UInt8} (h1 : B.opens s = some (l1, m1)) (h2 : B.opens t = some (l2, m2)) (hL : mixL l1 l2 = []) (hs : ¬ (B.sym = true ∧ (Bx.xorB m1 m2).take 28 = Bx.front)) : turnB B s t = (some (Bx.xorB m1 m2), B) := by
  unfold turnB; rw [h1, h2]; simp only; rw [if_pos ⟨hL, hs⟩]
theorem turnB_one {B : Bx.Box} {s t : List UInt8} {l1 l2 : List Nat} {m1 m2 : List UInt8} {n : Nat} (h1 : B.opens s = some (l1, m1)) (h2 : B.opens t = some (l2, m2)) (hL : mixL l1 l2 = [n]) (hM : Bx.xorB m1 m2 = Bx.noughts) : turnB B s t = (some (Bx.handle n), B) := by
  unfold turnB; rw [h1, h2]; simp only; rw [if_neg (fun q => by rw [hL] at q; cases q.1), hL, decide_eq_true hM]
theorem turnB_tag {B : Bx.Box} {s t : List UInt8} {l1 l2 : List Nat} {m1 m2 : List UInt8} (h1 : B.opens s = some (l1, m1)) (h2 : B.opens t = some (l2, m2)) (hs : ¬ (mixL l1 l2 = [] ∧ ¬ (B.sym = true ∧ (Bx.xorB m1 m2).take 28 = Bx.front))) (hn : ¬ ((mixL l1 l2).length = 1 ∧ Bx.xorB m1 m2 = Bx.noughts)) :
    turnB B s t = (some (B.tag (turnT (mixL l1 l2) (Bx.xorB m1 m2))).1, (B.tag (turnT (mixL l1 l2) (Bx.xorB m1 m2))).2) := by
  unfold turnB; rw [h1, h2]; simp only; rw [if_neg hs]
  split
  · rename_i n h3 h4
    exact absurd ⟨by rw [h3]; rfl, of_decide_eq_true h4⟩ hn
  · rfl
def turnOut (b : Nat) (B : Bx.Box) (y : Lay) (s t : List UInt8) (v : Value) (Fs : List Fact) : Prop := match turnB B s t with
  | (none, _) => v = .tuple #[.slice none 0 0, .int .i64 4] ∧ Fs = [bxF b B y]
  | (some h, B') => ∃ A c y', v = .tuple #[.slice A 32 c, .int .i64 0] ∧ 32 ≤ c ∧ c ≤ maxLen ∧ y'.ts.map (·.1) = B'.L ∧ Fs = [browF ty_uint8 A h c, bxF b B' y']
theorem turnOut_none {b : Nat} {B : Bx.Box} {y : Lay} {s t : List UInt8} (h : turnB B s t = (none, B)) : turnOut b B y s t = fun v Fs => v = .tuple #[.slice none 0 0, .int .i64 4] ∧ Fs = [bxF b B y] := by funext v Fs; unfold turnOut; rw [h]
theorem turnOut_some {b : Nat} {B B' : Bx.Box} {y : Lay} {s t h : List UInt8} (e : turnB B s t = (some h, B')) : turnOut b B y s t = fun v Fs => ∃ A c y', v = .tuple #[.slice A 32 c, .int .i64 0] ∧ 32 ≤ c ∧ c ≤ maxLen ∧ y'.ts.map (·.1) = B'.L ∧ Fs = [browF ty_uint8 A h c, bxF b B' y'] := by funext v Fs; unfold turnOut; rw [e]
theorem turnB_c (w : World) (b : Nat) (B : Bx.Box) (y : Lay) (A1 A2 : Option Addr) (s t : List UInt8) (c1 c2 : Nat) (hts : y.ts.map (·.1) = B.L) (hL : B.L.length ≤ 4096) (hsz : ∀ t ∈ B.L, TSz t) (hok : ∀ tag l m, B.opens tag = some (l, m) → OkS l m)
    (hm : Mem w [bxF b B y, bsF A1 s, bsF A2 t]) (hc1 : s.length ≤ c1) (hc2 : t.length ≤ c2) (hl1 : s.length ≤ 1000000) (hl2 : t.length ≤ 1000000) :
    Con Tryz.prog n_box_Box_Turn #[.pointer (some ⟨b, 0, none⟩), .slice A1 s.length c1, .slice A2 t.length c2] w [bxF b B y] (turnOut b B y s t) := by
  have g := good_box_Box_Turn w (Un [bxF b B y])
  have hs0 : Sat (cx_box_Box_Turn w (Un [bxF b B y])) Va.z 0 [] [bxF b B y, bsF A1 s, bsF A2 t] w := hm.sat0 rfl (fun f hf ho k hk => by
    simp only [List.mem_cons, List.not_mem_nil, or_false] at hf
    rcases hf with rfl | rfl | rfl
    · exact ⟨_, List.mem_singleton.2 rfl, hk⟩
    · cases ho
    · cases ho)
  refine con_of_sx (cx := cx_box_Box_Turn w (Un [bxF b B y])) g b_box_Box_Turn rfl rfl (β := Va.z) [.c (.v (.pointer (some ⟨b, 0, none⟩))), .c (.v (.slice A1 s.length c1)), .c (.v (.slice A2 t.length c2))] 0 [] _ rfl rfl hs0 ?_
  have bad : turnB B s t = (none, B) → ∀ {n : Nat} {H : List Bk} {F : List Fact} (j : Nat) (_ : nth F j = some (bxF b B y)) (β : Va) (w' : World), Sat (cx_box_Box_Turn w (Un [bxF b B y])) β n H F w' → Fin w [bxF b B y] (turnOut b B y s t) (.tuple #[.slice none 0 0, .int .i64 4]) w' := by
    intro hno n H F j hj β w' hs
    rw [turnOut_none hno]
    have hs2 := (hs.keepB (List.nil_sublist _)).perm [j]
    have e : takeIx F [j] = [bxF b B y] := by simp only [takeIx, hj]
    rw [e] at hs2
    exact hs2.fin [0] ⟨rfl, rfl⟩
  refine call_con [] (R := openOut B s) (fun β w' hs => open_c w' b B y A1 s c1 hts hL hsz (hs.get 0 rfl) (fun k hk => hs.flt _ (List.mem_of_getElem? (i := 0) rfl) k hk) (hs.get 1 rfl) hc1 hl1) ?_
  cases h1 : B.opens s with
  | none =>
    rw [openOut_none h1]
    rintro v Fs ⟨rfl, rfl⟩
    refine call_con [] (R := openOut B t) (fun β w' hs => open_c w' b B y A2 t c2 hts hL hsz (hs.get 0 rfl) (fun k hk => hs.flt _ (List.mem_of_getElem? (i := 0) rfl) k hk) (hs.get 2 rfl) hc2 hl2) ?_
    cases h2 : B.opens t with
    | none =>
      rw [openOut_none h2]
      rintro v Fs ⟨rfl, rfl⟩
      exact fun β w' hs => bad (turnB_none1 h1) 0 rfl β w' hs
    | some q =>
      obtain ⟨l2, m2⟩ := q
      rw [openOut_some h2]
      rintro v Fs ⟨B1, d1, B2, d2, rfl, _, rfl⟩
      exact fun β w' hs => bad (turnB_none1 h1) 2 rfl β w' hs
  | some p =>
    obtain ⟨l1, m1⟩ := p
    have ok1 := hok s l1 m1 h1
    rw [openOut_some h1]
    rintro v Fs ⟨a1, e1, a2, e2, rfl, he2, rfl⟩
    refine call_con [] (R := openOut B t) (fun β w' hs => open_c w' b B y A2 t c2 hts hL hsz (hs.get 2 rfl) (fun k hk => hs.flt _ (List.mem_of_getElem? (i := 2) rfl) k hk) (hs.get 4 rfl) hc2 hl2) ?_
    cases h2 : B.opens t with
    | none =>
      rw [openOut_none h2]
      rintro v Fs ⟨rfl, rfl⟩
      exact fun β w' hs => bad (turnB_none2 h2) 2 rfl β w' hs
    | some q =>
      obtain ⟨l2, m2⟩ := q
      have ok2 := hok t l2 m2 h2
      rw [openOut_some h2]
      rintro v Fs ⟨d1, f1, d2, f2, rfl, hf2, rfl⟩
      have hk1 := ok1.len
      have hk2 := ok2.len
      have hk3 := ok1.mask
      have hk4 := ok2.mask
      have hx : (Bx.xorB m1 m2).length = 32 := by rw [xorB_len]; omega
      have hmem : ∀ n ∈ mixL l1 l2, n ≤ 4096 := fun n hn => by
        have h3 : n ∈ notIn l1 l2 ++ notIn l2 l1 := by simpa [mixL, sortN] using hn
        rcases List.mem_append.1 h3 with q | q
        · exact ok1.nums n (List.mem_filter.1 q).1
        · exact ok2.nums n (List.mem_filter.1 q).1
      have hlen : (mixL l1 l2).length ≤ 8192 := by
        have h3 := notIn_len l1 l2
        have h4 := notIn_len l2 l1
        rw [mixL, sortN_len, List.length_append]
        omega
      have hR := turnB_raw (B := B) h1 h2
      have hO := fun n => turnB_one (B := B) (n := n) h1 h2
      have hT := turnB_tag (B := B) h1 h2
      have htc := fun (w' : World) (q1 : Rd 1 a1 l1.length (ints l1) w') (q2 : Rd 1 d1 l2.length (ints l2) w') (q3 : Bs w' a2 m1) (q4 : Bs w' d2 m2) => turned_c w' a1 a2 d1 d2 l1 l2 m1 m2 e1 e2 f1 f2 q1 q2 q3 q4 (by omega) (by omega) (by omega)
      rw [show sortN (notIn l1 l2 ++ notIn l2 l1) = mixL l1 l2 from rfl] at htc
      generalize mixL l1 l2 = L at *
      generalize Bx.xorB m1 m2 = M at *
      refine call_con [] (fun β w' hs => htc w' (row_rd (hs.get 2 rfl)) (row_rd (hs.get 0 rfl)) (row_rd (hs.get 3 rfl)) (row_rd (hs.get 1 rfl))) ?_
      rintro v Fs ⟨u1, g1, u2, g2, rfl, hg2, hgm, hsm, rfl⟩
      have hg2' : 32 ≤ g2 := by omega
      have hTs : TSz (turnT L M) := ⟨by show 4 < 1000; decide, by show 0 < 1000; decide, Nat.zero_le _, Nat.zero_le _, by show L.length ≤ 10000; omega, fun n hn => by have := hmem n hn; omega, by show M.length ≤ 1000000; omega⟩
      have trdD : ∀ k, (trdF (turnT L M) ⟨none, none, u1, u2, 0, 0, g1, g2⟩).D k → ∃ f ∈ [irowF u1 L g1, browF ty_uint8 u2 M g2], f.D k := by
        intro k hk
        rcases hk with ⟨q, _⟩ | ⟨q, _⟩ | ⟨_, ad, hA, rfl⟩ | ⟨_, ad, hA, rfl⟩
        · exact absurd q (Nat.lt_irrefl 0)
        · exact absurd q (Nat.lt_irrefl 0)
        · have hA' : u1 = some ad := hA
          subst hA'
          exact ⟨_, List.mem_cons_self, rfl⟩
        · have hA' : u2 = some ad := hA
          subst hA'
          exact ⟨_, List.mem_cons_of_mem _ List.mem_cons_self, rfl⟩
      have hSS : ∀ {n : Nat} {F : List Fact} {bb aa : Bk}, Sub (cx_box_Box_Turn w (Un [bxF b B y])) n [⟨2, ty_box_sum, sumS u1 L g1 u2 M g2⟩, bb, aa] F [⟨2, ty_box_sum, sumS u1 L g1 u2 M g2⟩] [] := fun {n F bb aa} => Sub.of ((List.nil_sublist _).cons_cons _) (List.nil_sublist _)
      refine draw_rule g p_box_Box_Turn_8 (by kernel_rfl) [⟨2, ty_box_sum, sumS u1 L g1 u2 M g2⟩] [] hSS ?_
      refine ⟨32, 32, rfl, rfl, Nat.le_refl _, by decide, by decide, ?_⟩
      intro b1
      refine ⟨hSS, ?_⟩
      refine call_pu (v := .bool (decide (M = Bx.noughts))) (fun β w' hs => beq_c w' u2 (some ⟨b1, 0, none⟩) M Bx.noughts g2 32 (row_rd (hs.get 2 rfl)) (row_rd (hs.get 0 rfl))) ?_
      refine ⟨hSS, ?_⟩
      have hSB : ∀ {n : Nat} {F : List Fact} {bb aa : Bk} (js : List Nat), takeIx F js = [bxF b B y] → nodupB js = true → Sub (cx_box_Box_Turn w (Un [bxF b B y])) n [⟨2, ty_box_sum, sumS u1 L g1 u2 M g2⟩, bb, aa] F [⟨2, ty_box_sum, sumS u1 L g1 u2 M g2⟩] [bxF b B y] := fun js h hn β w' hs => h ▸ (hs.weaken ((List.nil_sublist _).cons_cons _) (List.Sublist.refl _)).perm js hn
      cases L with
      | nil =>
        cases hsym : B.sym with
        | false =>
          refine draw_rule g p_box_Box_Turn_9 (by kernel_rfl) [⟨2, ty_box_sum, sumS u1 [] g1 u2 M g2⟩] [bxF b B y] (hSB [7] rfl rfl) ?_
          refine ⟨.bool false, fun β w' hs => box_cell (bx_bk (hs.get 0 rfl)) (o := 0) (by simp [boxCells, hsym]), ?_⟩
          refine ⟨hSB [7] rfl rfl, hSB [7] rfl rfl, ?_⟩
          intro β w' hs
          rw [turnOut_some (hR rfl (fun q => by rw [hsym] at q; cases q.1))]
          exact (hs.keepB (List.nil_sublist _)).fin [2, 7] ⟨u2, g2, y, congrArg (fun n => Value.tuple #[.slice u2 n g2, .int .i64 0]) hx, hg2', hgm, hts, rfl⟩
        | true =>
          refine draw_rule g p_box_Box_Turn_9 (by kernel_rfl) [⟨2, ty_box_sum, sumS u1 [] g1 u2 M g2⟩] [bxF b B y] (hSB [7] rfl rfl) ?_
          refine ⟨.bool true, fun β w' hs => box_cell (bx_bk (hs.get 0 rfl)) (o := 0) (by simp [boxCells, hsym]), ?_⟩
          refine ⟨g2, 28, 0, 28, g2, _, rfl, rfl, rfl, by omega, by omega, Nat.zero_le _, rfl, rfl, rfl, ?_⟩
          refine call_con [] (fun β w' hs => mark_c w') ?_
          rintro v Fs ⟨b2, rfl, rfl⟩
          refine ⟨hSB [8] rfl rfl, ?_⟩
          have e28 : (M.take 28).length = 28 := by simp; omega
          refine call_pu (v := .bool (decide (M.take 28 = Bx.front))) (fun β w' hs => by
            have h := beq_c w' (cutA u2 g2 0 1) (some ⟨b2, 0, none⟩) (M.take 28) Bx.front g2 28 (Bs.cutB (row_rd (hs.get 3 rfl)) (by omega) (Nat.zero_le 28) (by omega) (by simp)) (row_rd (hs.get 0 rfl))
            rw [e28] at h
            exact h) ?_
          refine ⟨hSB [8] rfl rfl, ?_⟩
          refine BIf.not (BIf.dec (fun hf => ?_) (fun hf => ?_))
          · skip
            refine call_con [8] (R := tagOut b B (turnT [] M)) (fun β w' hs => by
              have h2 := hs.fuse [2, 3] (trdF (turnT [] M) ⟨none, none, u1, u2, 0, 0, g1, g2⟩) (fun w hm => ⟨Bs.nil w none, Bs.nil w none, row_rd (hm.fact _ List.mem_cons_self), row_rd (hm.fact _ (List.mem_cons_of_mem _ List.mem_cons_self))⟩) trdD rfl ⟨rfl, rfl, trivial⟩
              exact tag_c w' b B y (turnT [] M) ⟨none, none, u1, u2, 0, 0, g1, g2⟩ hts hL hTs (h2.mem.take (js := [7, 0]) rfl)) ?_
            rintro v Fs ⟨A3, c3, y3, rfl, r1, r2, r3, rfl⟩
            intro β w' hs
            rw [turnOut_some (hT (fun q => q.2 ⟨hsym, hf⟩) (fun q => by cases q.1))]
            exact (hs.keepB (List.nil_sublist _)).fin [0, 1] ⟨A3, c3, y3, rfl, r1, r2, r3, rfl⟩
          · skip
            intro β w' hs
            rw [turnOut_some (hR rfl (fun q => hf q.2))]
            exact (hs.keepB (List.nil_sublist _)).fin [3, 8] ⟨u2, g2, y, congrArg (fun n => Value.tuple #[.slice u2 n g2, .int .i64 0]) hx, hg2', hgm, hts, rfl⟩
      | cons n r =>
        refine draw_rule g p_box_Box_Turn_9 (by kernel_rfl) [⟨2, ty_box_sum, sumS u1 (n :: r) g1 u2 M g2⟩] [bxF b B y] (hSB [7] rfl rfl) ?_
        refine ⟨hSB [7] rfl rfl, hSB [7] rfl rfl, ?_⟩
        cases r with
        | nil =>
          refine BIf.dec (fun hz => ?_) (fun hz => ?_)
          · obtain ⟨ad, rfl⟩ : ∃ ad, u1 = some ad := hsm n List.mem_cons_self
            refine ⟨ad, 0, rfl, rfl, Nat.lt_succ_self 0, _, fun β w' hs => Rd.cell1 (row_rd (hs.get 1 rfl)) rfl, ?_⟩
            refine call_con [] (fun β w' hs => handle_c w' n) ?_
            rintro v Fs ⟨A3, c3, rfl, q1, q2, rfl⟩
            intro β w' hs
            rw [turnOut_some (hO n rfl hz)]
            exact (hs.keepB (List.nil_sublist _)).fin [0, 8] ⟨A3, c3, y, rfl, q1, q2, hts, rfl⟩
          · skip
            refine call_con [7] (R := tagOut b B (turnT [n] M)) (fun β w' hs => by
              have h2 := hs.fuse [1, 2] (trdF (turnT [n] M) ⟨none, none, u1, u2, 0, 0, g1, g2⟩) (fun w hm => ⟨Bs.nil w none, Bs.nil w none, row_rd (hm.fact _ List.mem_cons_self), row_rd (hm.fact _ (List.mem_cons_of_mem _ List.mem_cons_self))⟩) trdD rfl ⟨rfl, rfl, trivial⟩
              exact tag_c w' b B y (turnT [n] M) ⟨none, none, u1, u2, 0, 0, g1, g2⟩ hts hL hTs (h2.mem.take (js := [6, 0]) rfl)) ?_
            rintro v Fs ⟨A3, c3, y3, rfl, r1, r2, r3, rfl⟩
            intro β w' hs
            rw [turnOut_some (hT (fun q => by cases q.1) (fun q => hz q.2))]
            exact (hs.keepB (List.nil_sublist _)).fin [0, 1] ⟨A3, c3, y3, rfl, r1, r2, r3, rfl⟩
        | cons n2 r2 =>
          refine call_con [7] (R := tagOut b B (turnT (n :: n2 :: r2) M)) (fun β w' hs => by
            have h2 := hs.fuse [1, 2] (trdF (turnT (n :: n2 :: r2) M) ⟨none, none, u1, u2, 0, 0, g1, g2⟩) (fun w hm => ⟨Bs.nil w none, Bs.nil w none, row_rd (hm.fact _ List.mem_cons_self), row_rd (hm.fact _ (List.mem_cons_of_mem _ List.mem_cons_self))⟩) trdD rfl ⟨rfl, rfl, trivial⟩
            exact tag_c w' b B y (turnT (n :: n2 :: r2) M) ⟨none, none, u1, u2, 0, 0, g1, g2⟩ hts hL hTs (h2.mem.take (js := [6, 0]) rfl)) ?_
          rintro v Fs ⟨A3, c3, y3, rfl, r1, r2, r3, rfl⟩
          intro β w' hs
          rw [turnOut_some (hT (fun q => by cases q.1) (fun q => by cases q.1))]
          exact (hs.keepB (List.nil_sublist _)).fin [0, 1] ⟨A3, c3, y3, rfl, r1, r2, r3, rfl⟩
end Go.Proofs.YtkommfddfgiobaaGreatDoor.Sx

/- The symbolic box's example of BoxHandles: plainly. -/
namespace Go.Proofs.YtkommfddfgiobaaGreatDoor.Sx
open Go

def tA : Bx.Term := hashT [97]
def tB : Bx.Term := hashT [98]
def tC : Bx.Term := turnT [1, 2] Bx.noughts
def B1 : Bx.Box := ⟨true, false, [tA]⟩
def B2 : Bx.Box := ⟨true, false, [tA, tB]⟩
def B3 : Bx.Box := ⟨true, false, [tA, tB, tC]⟩
theorem opens_h {B : Bx.Box} {n : Nat} {t : Bx.Term} (hs : B.sym = true) (hn : n < 4294967296) (h0 : 1 ≤ n) (hl : n ≤ B.L.length) (ht : B.L[n - 1]? = some t) : B.opens (Bx.handle n) = if t.kind = 4 then some (t.list, t.mask) else some ([n], Bx.noughts) :=
  Bx.opens_in (Bx.handle_len n) hs (List.take_left' Bx.front_len) (by rw [show (Bx.handle n).drop 28 = Bx.be4 n from List.drop_left' Bx.front_len, Bx.num_be4 hn]) (by omega) ht
end Go.Proofs.YtkommfddfgiobaaGreatDoor.Sx

/- The symbolic box's example of BoxHandles. -/
namespace Go.Proofs.YtkommfddfgiobaaGreatDoor.Sx
open Go
attribute [local irreducible] Calls

theorem newX_c (w : World) (sym : Bool) : Con Tryz.prog n_box_New #[.bool sym] w [] fun v Fs => ∃ b y, v = .pointer (some ⟨b, 0, none⟩) ∧ y.ts = [] ∧ Fs = [bxF b ⟨sym, false, []⟩ y] := by
  refine con_of_sx (cx := cx_box_New w (Un [])) (good_box_New w (Un [])) b_box_New rfl rfl (β := Va.z) [.c (.v (.bool sym))] 0 [] [] rfl rfl (Sat.start rfl) ?_
  intro m
  intro β w' hs
  have h2 := (hs.ofBk.nilRow ty_box_Term 6).noMem (partsF []) (fun _ h => (by cases h)) (fun k hk => by obtain ⟨p, hp, _⟩ := hk; cases hp)
  exact (h2.sep [2, 1, 3, 0] rfl ⟨rfl, rfl, rfl, rfl, trivial⟩).fin [0] ⟨_, ⟨none, 0, m, []⟩, rfl, rfl, rfl⟩
end Go.Proofs.YtkommfddfgiobaaGreatDoor.Sx

/- The program's box: hashes, sums with a key, stretched passwords; plain and symbolic. -/
namespace Go.Proofs.YtkommfddfgiobaaGreatDoor.Sx
open Go
attribute [local irreducible] Calls

def macT (k t : List UInt8) : Bx.Term := ⟨2, k, t, 0, [], []⟩
def strT (p s : List UInt8) (r : Nat) : Bx.Term := ⟨3, p, s, r, [], []⟩
noncomputable def hashB (B : Bx.Box) (t : List UInt8) : List UInt8 × Bx.Box := if B.sym then B.tag (hashT t) else (Sha.sum t, B)
noncomputable def macB (B : Bx.Box) (k t : List UInt8) : List UInt8 × Bx.Box := if B.sym then B.tag (macT k t) else (hmL k t, B)
noncomputable def strB (B : Bx.Box) (p s : List UInt8) (r : Nat) : List UInt8 × Bx.Box := if B.sym then B.tag (strT p s r) else (stretchL p s r, B)
/-- What a box tells, in memory; the box behind it. -/
def boxOut (b : Nat) (r : List UInt8 × Bx.Box) (v : Value) (Fs : List Fact) : Prop :=
  ∃ A c y', v = .slice A 32 c ∧ 32 ≤ c ∧ c ≤ maxLen ∧ y'.ts.map (·.1) = r.2.L ∧ Fs = [browF ty_uint8 A r.1 c, bxF b r.2 y']
theorem Sat.unown {cx : Cx} {β : Va} {n : Nat} {H : List Bk} {F : List Fact} {w : World} (h : Sat cx β n H F w) (j : Nat) {size : Nat} {A : Option Addr} {k : Nat} {xs : List Value} (hj : nth F j = some (rdoF size A k xs)) : Sat cx β n H (putAt F j (rdF size A k xs)) w :=
  h.upd hj rfl (Chg.refl _ _) (show (rdF size A k xs).p w from rdo_rd (h.get j hj)) (fun _ hk => .inl hk)
theorem Sat.trd {cx : Cx} {β : Va} {n : Nat} {H : List Bk} {F : List Fact} {w : World} (h : Sat cx β n H F w) (js : List Nat) (t : Bx.Term) (a : TA) (hl : t.list = []) (hm : t.mask = []) (hj : takeIx F js = [bsF a.k t.key, bsF a.t t.text]) : Sat cx β n H (trdF t a :: F) w := by
  have get : ∀ f ∈ takeIx F js, f.p w := fun f hf => by obtain ⟨i, _, hi⟩ := takeIx_mem hf; exact h.fact f (List.mem_of_getElem? hi)
  refine h.subN js (fun f hf => ?_) _ rfl ⟨get (bsF a.k t.key) (by rw [hj]; simp), get (bsF a.t t.text) (by rw [hj]; simp), by rw [hl]; exact rd_nil w a.l, by rw [hm]; exact Bs.nil w a.m⟩ (fun k hk => ?_)
  · rw [hj] at hf
    simp only [List.mem_cons, List.not_mem_nil, or_false] at hf
    rcases hf with rfl | rfl <;> rfl
  · rw [hj]
    rcases hk with hk | hk | hk | hk
    · exact ⟨_, List.mem_cons_self, hk⟩
    · exact ⟨bsF a.t t.text, by simp, hk⟩
    · rw [hl] at hk
      exact absurd hk.1 (by simp)
    · rw [hm] at hk
      exact absurd hk.1 (by simp)
theorem parts_len {ps : List Part} : (ps.map (·.2.1)).flatten = partsT ps := by
  unfold partsT
  rw [List.flatMap_def]
/-- Parts, joined. -/
theorem joinP_c (w : World) (b0 : Nat) (ps : List Part) (cP : Nat) (h : (partF (some ⟨b0, 0, none⟩) ps).p w) (h0 : ps ≠ []) (hc : ps.length ≤ cP) (hl : ps.length ≤ 1000) (hn : (partsT ps).length ≤ 1000000) :
    Con Tryz.prog n_bytes_Join #[.slice (some ⟨b0, 0, none⟩) ps.length cP, .slice none 0 0] w [] (readOut (partsT ps)) := by
  match ps with
  | [] => exact absurd rfl h0
  | [p] =>
    have e : partsT [p] = p.2.1 := by simp [partsT]
    rw [e] at hn ⊢
    exact join1R_c w (some ⟨b0, 0, none⟩) p.1 cP p.2.2 p.2.1 h.1 (h.2 p List.mem_cons_self) (by omega)
  | p :: q :: r =>
    have k := joinN_c w b0 cP ((p :: q :: r).map partV) ((p :: q :: r).map (·.2.1)) (by rw [List.length_map]; exact h.1) (fun i v l hv hl => by
      rw [List.getElem?_map] at hv hl
      obtain ⟨x, hx, rfl⟩ := Option.map_eq_some_iff.1 hv
      obtain ⟨x', hx', rfl⟩ := Option.map_eq_some_iff.1 hl
      rw [hx] at hx'
      obtain rfl := Option.some.inj hx'
      exact Bs.holds (h.2 x (List.mem_of_getElem? hx)) x.2.2) (by simp) (by rw [List.length_map]; exact hc) (by rw [List.length_map]; exact hl) (by rw [parts_len]; omega)
    rw [List.length_map, parts_len] at k
    exact k
theorem partOld {P : Option Addr} {ps : List Part} {W w : World} (h : (partF P ps).p W) (ho : (oldF W).p w) : (partF P ps).p w := ⟨Rd.old h.1 ho, fun p hp => Rd.old (h.2 p hp) ho⟩
theorem hashP_c (w : World) (b : Nat) (B : Bx.Box) (y : Lay) (b0 : Nat) (ps : List Part) (cP : Nat) (hts : y.ts.map (·.1) = B.L) (hL : B.L.length ≤ 4096) (h0 : ps ≠ []) (hc : ps.length ≤ cP) (hl : ps.length ≤ 1000) (hn : (partsT ps).length ≤ 1000000) (hm : Mem w [bxF b B y, partF (some ⟨b0, 0, none⟩) ps, oddF 3, firstF 0]) :
    Con Tryz.prog n_box_Box_Hash #[ptrB b, .slice (some ⟨b0, 0, none⟩) ps.length cP] w [bxF b B y] (boxOut b (hashB B (partsT ps))) := by
  have g := good_box_Box_Hash w (Un [bxF b B y])
  have hs0 : Sat (cx_box_Box_Hash w (Un [bxF b B y])) Va.z 0 [] [bxF b B y, partF (some ⟨b0, 0, none⟩) ps, oddF 3, firstF 0] w := hm.sat0 rfl (ownIn (Gs := [bxF b B y]) (fun f hf => by
    simp only [List.mem_cons, List.not_mem_nil, or_false] at hf
    rcases hf with rfl | rfl | rfl <;> rfl))
  refine con_of_sx (cx := cx_box_Box_Hash w (Un [bxF b B y])) g b_box_Box_Hash rfl rfl (β := Va.z) [.c (.v (ptrB b)), .c (.v (.slice (some ⟨b0, 0, none⟩) ps.length cP))] 0 [] [bxF b B y, partF (some ⟨b0, 0, none⟩) ps, oddF 3, firstF 0] rfl rfl hs0 ?_
  cases hsym : B.sym with
  | true =>
    refine ⟨.bool true, fun β w' hs => box_cell (bx_bk (hs.get 0 rfl)) (o := 0) (by simp [boxCells, hsym]), ?_⟩
    refine call_con [] (fun β w' hs => joinP_c w' b0 ps cP (hs.get 1 rfl) h0 hc hl hn) ?_
    rintro v Fs ⟨A1, c1, rfl, q1, q2, rfl⟩
    refine call_con [1] (R := boxOut b (B.tag (hashT (partsT ps)))) (fun β w' hs => by
      have k2 := ((hs.unown 0 rfl).noMem (bsF none []) (Bs.nil w' none) (fun k hk => absurd hk.1 (by simp))).trd [0, 1] (hashT (partsT ps)) ⟨none, A1, none, none, 0, c1, 0, 0⟩ rfl rfl rfl
      exact tag_c w' b B y (hashT (partsT ps)) ⟨none, A1, none, none, 0, c1, 0, 0⟩ hts hL (hashT_sz hn) (k2.mem.take (js := [3, 0]) rfl)) ?_
    rintro v Fs ⟨A2, c2, y2, rfl, r1, r2, r3, rfl⟩
    intro β w' hs
    have e : hashB B (partsT ps) = B.tag (hashT (partsT ps)) := by unfold hashB; rw [hsym]; rfl
    rw [e]
    exact hs.fin [0, 1] ⟨A2, c2, y2, rfl, r1, r2, r3, rfl⟩
  | false =>
    refine ⟨.bool false, fun β w' hs => box_cell (bx_bk (hs.get 0 rfl)) (o := 0) (by simp [boxCells, hsym]), ?_⟩
    refine call_con [] (fun β w' hs => sumJ_c w' (some ⟨b0, 0, none⟩) ps.length cP (partsT ps) (fun w2 ho => joinP_c w2 b0 ps cP (partOld (hs.get 1 rfl) ho) h0 hc hl hn) (by omega) (hs.get 2 rfl) (hs.get 3 rfl)) ?_
    rintro v Fs ⟨A2, c2, rfl, r1, r2, rfl⟩
    intro β w' hs
    have e : hashB B (partsT ps) = (Sha.sum (partsT ps), B) := by unfold hashB; rw [hsym]; rfl
    rw [e]
    exact hs.fin [0, 1] ⟨A2, c2, y, rfl, r1, r2, hts, rfl⟩
theorem macT_sz {k t : List UInt8} (hk : k.length ≤ 1000000) (hl : t.length ≤ 1000000) : TSz (macT k t) := ⟨by show 2 < 1000; decide, by show 0 < 1000; decide, hk, hl, Nat.zero_le _, fun _ h => (by cases h), Nat.zero_le _⟩
theorem strT_sz {k t : List UInt8} {r : Nat} (hk : k.length ≤ 1000000) (hl : t.length ≤ 1000000) (hr : r ≤ 64) : TSz (strT k t r) := ⟨by show 3 < 1000; decide, by show r < 1000; omega, hk, hl, Nat.zero_le _, fun _ h => (by cases h), Nat.zero_le _⟩
theorem macP_c (w : World) (b : Nat) (B : Bx.Box) (y : Lay) (K : Option Addr) (key : List UInt8) (cK : Nat) (b0 : Nat) (ps : List Part) (cP : Nat) (hts : y.ts.map (·.1) = B.L) (hL : B.L.length ≤ 4096) (hk : key.length ≤ 1000000) (h0 : ps ≠ []) (hc : ps.length ≤ cP) (hl : ps.length ≤ 1000) (hn : (partsT ps).length ≤ 1000000) (hm : Mem w [bxF b B y, partF (some ⟨b0, 0, none⟩) ps, bsF K key, oddF 3, firstF 0]) :
    Con Tryz.prog n_box_Box_Mac #[ptrB b, .slice K key.length cK, .slice (some ⟨b0, 0, none⟩) ps.length cP] w [bxF b B y] (boxOut b (macB B key (partsT ps))) := by
  have g := good_box_Box_Mac w (Un [bxF b B y])
  have hs0 : Sat (cx_box_Box_Mac w (Un [bxF b B y])) Va.z 0 [] [bxF b B y, partF (some ⟨b0, 0, none⟩) ps, bsF K key, oddF 3, firstF 0] w := hm.sat0 rfl (ownIn (Gs := [bxF b B y]) (fun f hf => by
    simp only [List.mem_cons, List.not_mem_nil, or_false] at hf
    rcases hf with rfl | rfl | rfl | rfl <;> rfl))
  refine con_of_sx (cx := cx_box_Box_Mac w (Un [bxF b B y])) g b_box_Box_Mac rfl rfl (β := Va.z) [.c (.v (ptrB b)), .c (.v (.slice K key.length cK)), .c (.v (.slice (some ⟨b0, 0, none⟩) ps.length cP))] 0 [] [bxF b B y, partF (some ⟨b0, 0, none⟩) ps, bsF K key, oddF 3, firstF 0] rfl rfl hs0 ?_
  cases hsym : B.sym with
  | true =>
    refine ⟨.bool true, fun β w' hs => box_cell (bx_bk (hs.get 0 rfl)) (o := 0) (by simp [boxCells, hsym]), ?_⟩
    refine call_con [] (fun β w' hs => joinP_c w' b0 ps cP (hs.get 1 rfl) h0 hc hl hn) ?_
    rintro v Fs ⟨A1, c1, rfl, q1, q2, rfl⟩
    refine call_con [1] (R := boxOut b (B.tag (macT key (partsT ps)))) (fun β w' hs => by
      have k2 := (hs.unown 0 rfl).trd [3, 0] (macT key (partsT ps)) ⟨K, A1, none, none, cK, c1, 0, 0⟩ rfl rfl rfl
      exact tag_c w' b B y (macT key (partsT ps)) ⟨K, A1, none, none, cK, c1, 0, 0⟩ hts hL (macT_sz hk hn) (k2.mem.take (js := [2, 0]) rfl)) ?_
    rintro v Fs ⟨A2, c2, y2, rfl, r1, r2, r3, rfl⟩
    intro β w' hs
    have e : macB B key (partsT ps) = B.tag (macT key (partsT ps)) := by unfold macB; rw [hsym]; rfl
    rw [e]
    exact hs.fin [0, 1] ⟨A2, c2, y2, rfl, r1, r2, r3, rfl⟩
  | false =>
    refine ⟨.bool false, fun β w' hs => box_cell (bx_bk (hs.get 0 rfl)) (o := 0) (by simp [boxCells, hsym]), ?_⟩
    refine call_con [] (fun β w' hs => hsum_c w' K (some ⟨b0, 0, none⟩) key (partsT ps) cK ps.length cP (hs.get 2 rfl) hk hn (fun w2 ho => joinP_c w2 b0 ps cP (partOld (hs.get 1 rfl) ho) h0 hc hl hn) (hs.get 3 rfl) (hs.get 4 rfl)) ?_
    rintro v Fs ⟨A2, c2, rfl, r1, r2, rfl⟩
    intro β w' hs
    have e : macB B key (partsT ps) = (hmL key (partsT ps), B) := by unfold macB; rw [hsym]; rfl
    rw [e]
    exact hs.fin [0, 1] ⟨A2, c2, y, rfl, r1, r2, hts, rfl⟩
/-- A stretched password; so many rounds may not be. -/
def strOut (b : Nat) (B : Bx.Box) (y : Lay) (p s : List UInt8) (r : Int) (v : Value) (Fs : List Fact) : Prop :=
  if 1 ≤ r ∧ r ≤ 64 then ∃ A c y', v = .tuple #[.slice A 32 c, .int .i64 0] ∧ 32 ≤ c ∧ c ≤ maxLen ∧ y'.ts.map (·.1) = (strB B p s r.toNat).2.L ∧ Fs = [browF ty_uint8 A (strB B p s r.toNat).1 c, bxF b (strB B p s r.toNat).2 y']
  else v = .tuple #[.slice none 0 0, .int .i64 1] ∧ Fs = [bxF b B y]
theorem strP_c (w : World) (b : Nat) (B : Bx.Box) (y : Lay) (K S : Option Addr) (p s : List UInt8) (cK cS : Nat) (r : Int) (hts : y.ts.map (·.1) = B.L) (hL : B.L.length ≤ 4096) (hk : p.length ≤ 1000000) (hn : s.length ≤ 100000) (hm : Mem w [bxF b B y, bsF K p, bsF S s, oddF 3, firstF 0]) :
    Con Tryz.prog n_box_Box_Stretch #[ptrB b, .slice K p.length cK, .slice S s.length cS, .int .i64 r] w [bxF b B y] (strOut b B y p s r) := by
  have g := good_box_Box_Stretch w (Un [bxF b B y])
  have hs0 : Sat (cx_box_Box_Stretch w (Un [bxF b B y])) Va.z 0 [] [bxF b B y, bsF K p, bsF S s, oddF 3, firstF 0] w := hm.sat0 rfl (ownIn (Gs := [bxF b B y]) (fun f hf => by
    simp only [List.mem_cons, List.not_mem_nil, or_false] at hf
    rcases hf with rfl | rfl | rfl | rfl <;> rfl))
  refine con_of_sx (cx := cx_box_Box_Stretch w (Un [bxF b B y])) g b_box_Box_Stretch rfl rfl (β := Va.z) [.c (.v (ptrB b)), .c (.v (.slice K p.length cK)), .c (.v (.slice S s.length cS)), .c (.v (.int .i64 r))] 0 [] [bxF b B y, bsF K p, bsF S s, oddF 3, firstF 0] rfl rfl hs0 ?_
  refine BIf.dec (fun q => ?_) (fun q => ?_)
  · have q0 : r < 1 := q
    intro β w' hs
    refine hs.fin [0] ?_
    unfold strOut
    rw [if_neg (by omega)]
    exact ⟨rfl, rfl⟩
  have q0 : ¬ r < 1 := q
  refine BIf.dec (fun q2 => ?_) (fun q2 => ?_)
  · have q20 : 64 < r := q2
    intro β w' hs
    refine hs.fin [0] ?_
    unfold strOut
    rw [if_neg (by omega)]
    exact ⟨rfl, rfl⟩
  have q20 : ¬ 64 < r := q2
  obtain ⟨m, rfl⟩ : ∃ m : Nat, r = (m : Int) := ⟨r.toNat, by omega⟩
  have hso : strOut b B y p s (m : Int) = fun v Fs => ∃ A c y', v = .tuple #[.slice A 32 c, .int .i64 0] ∧ 32 ≤ c ∧ c ≤ maxLen ∧ y'.ts.map (·.1) = (strB B p s m).2.L ∧ Fs = [browF ty_uint8 A (strB B p s m).1 c, bxF b (strB B p s m).2 y'] := by
    funext v Fs
    unfold strOut
    rw [if_pos (by omega)]
    rfl
  rw [hso]
  cases hsym : B.sym with
  | true =>
    refine ⟨.bool true, fun β w' hs => box_cell (bx_bk (hs.get 0 rfl)) (o := 0) (by simp [boxCells, hsym]), ?_⟩
    refine call_con [0] (R := boxOut b (B.tag (strT p s m))) (fun β w' hs => by
      have k2 := hs.trd [1, 2] (strT p s m) ⟨K, S, none, none, cK, cS, 0, 0⟩ rfl rfl rfl
      exact tag_c w' b B y (strT p s m) ⟨K, S, none, none, cK, cS, 0, 0⟩ hts hL (strT_sz hk (by omega) (by omega)) (k2.mem.take (js := [1, 0]) rfl)) ?_
    rintro v Fs ⟨A2, c2, y2, rfl, r1, r2, r3, rfl⟩
    intro β w' hs
    have e : strB B p s m = B.tag (strT p s m) := by unfold strB; rw [hsym]; rfl
    rw [e]
    exact hs.fin [0, 1] ⟨A2, c2, y2, rfl, r1, r2, r3, rfl⟩
  | false =>
    refine ⟨.bool false, fun β w' hs => box_cell (bx_bk (hs.get 0 rfl)) (o := 0) (by simp [boxCells, hsym]), ?_⟩
    refine call_con [] (fun β w' hs => stretch_c w' K S p s cK cS m (hs.get 1 rfl) (hs.get 2 rfl) hk hn (by omega) (by omega) (hs.get 3 rfl) (hs.get 4 rfl)) ?_
    rintro v Fs ⟨A2, c2, rfl, r1, r2, rfl⟩
    intro β w' hs
    have e : strB B p s m = (stretchL p s m, B) := by unfold strB; rw [hsym]; rfl
    rw [e]
    exact hs.fin [0, 1] ⟨A2, c2, y, rfl, r1, r2, hts, rfl⟩
end Go.Proofs.YtkommfddfgiobaaGreatDoor.Sx

/- The document's handles. -/
namespace Go.Proofs.YtkommfddfgiobaaGreatDoor.Sx
open Go
attribute [local irreducible] Calls

theorem num4 {l : List UInt8} (h : l.length = 32) : Bx.num (l.drop 28) < 4294967296 := by
  have h1 := num_lt (l.drop 28)
  have h2 : (l.drop 28).length = 4 := by rw [List.length_drop]; omega
  rw [h2] at h1
  exact h1
end Go.Proofs.YtkommfddfgiobaaGreatDoor.Sx

/- The reference's terms: lists of numbers compared, terms compared. -/
namespace Go.Proofs.YtkommfddfgiobaaGreatDoor.Sx
open Go
attribute [local irreducible] Calls

end Go.Proofs.YtkommfddfgiobaaGreatDoor.Sx

/- The reference's box in memory; a term's handle. -/
namespace Go.Proofs.YtkommfddfgiobaaGreatDoor.Sx
open Go
attribute [local irreducible] Calls

theorem place_at {t : Bx.Term} : ∀ {L : List Bx.Term} {k : Nat}, L[k]? = some t → t ∉ L.take k → Bx.place t L = some k
  | x :: r, 0, h, _ => by
    obtain rfl : x = t := by simpa using h
    simp [Bx.place]
  | x :: r, k + 1, h, hn => by
    have hx : ¬ x = t := fun q => hn (by simp [q])
    have h2 := place_at (L := r) (k := k) (by simpa using h) (fun q => hn (by simp [q]))
    simp only [Bx.place, if_neg hx, h2]
    rfl
end Go.Proofs.YtkommfddfgiobaaGreatDoor.Sx

/- The reference's box: hashes, sums with a key, stretched passwords. -/
namespace Go.Proofs.YtkommfddfgiobaaGreatDoor.Sx
open Go
attribute [local irreducible] Calls

end Go.Proofs.YtkommfddfgiobaaGreatDoor.Sx

/- The reference's box: a tag, opened. -/
namespace Go.Proofs.YtkommfddfgiobaaGreatDoor.Sx
open Go
attribute [local irreducible] Calls

end Go.Proofs.YtkommfddfgiobaaGreatDoor.Sx

/- The reference's box: two tags, turned. -/
namespace Go.Proofs.YtkommfddfgiobaaGreatDoor.Sx
open Go
attribute [local irreducible] Calls

/-- The numbers up to k that stand in just one of two lists. -/
def symL (l1 l2 : List Nat) (k : Nat) : List Nat := (List.range' 1 k).filter fun n => decide (n ∈ l1) != decide (n ∈ l2)
theorem symL_len (l1 l2 : List Nat) (k : Nat) : (symL l1 l2 k).length ≤ k := by
  have h := List.length_filter_le (fun n => decide (n ∈ l1) != decide (n ∈ l2)) (List.range' 1 k)
  rw [List.length_range'] at h
  exact h
theorem symL_mix {l1 l2 : List Nat} {N : Nat} (d1 : l1.Nodup) (d2 : l2.Nodup) (h1 : ∀ n ∈ l1, 1 ≤ n ∧ n ≤ N) (h2 : ∀ n ∈ l2, 1 ≤ n ∧ n ≤ N) : symL l1 l2 N = mixL l1 l2 := by
  have hp : (symL l1 l2 N).Perm (notIn l1 l2 ++ notIn l2 l1) := by
    refine (List.perm_ext_iff_of_nodup ?_ ?_).2 (fun n => ?_)
    · exact List.Nodup.sublist List.filter_sublist (List.nodup_range' 1)
    · refine List.nodup_append.2 ⟨List.Nodup.sublist List.filter_sublist d1, List.Nodup.sublist List.filter_sublist d2, ?_⟩
      intro x hx y hy q
      subst q
      have a := (List.mem_filter.1 hx).2
      have b := (List.mem_filter.1 hy).1
      simp [b] at a
    · simp only [symL, notIn, List.mem_filter, List.mem_append, List.mem_range'_1]
      have k1 := h1 n
      have k2 := h2 n
      by_cases a : n ∈ l1 <;> by_cases b : n ∈ l2 <;> simp [a, b]
      · have := k1 a; omega
      · have := k2 b; omega
  have hs : (mixL l1 l2).Perm (notIn l1 l2 ++ notIn l2 l1) := List.mergeSort_perm _ _
  refine List.Perm.eq_of_pairwise (le := fun a b => a ≤ b) (fun a b _ _ p q => Nat.le_antisymm p q) ?_ ?_ (hp.trans hs.symm)
  · exact ((List.pairwise_lt_range' 1).sublist List.filter_sublist).imp (fun h => Nat.le_of_lt h)
  · have h := List.pairwise_mergeSort (le := fun x y : Nat => decide (x ≤ y)) (by simp only [decide_eq_true_eq]; omega) (by simp only [Bool.or_eq_true, decide_eq_true_eq]; omega) (notIn l1 l2 ++ notIn l2 l1)
    exact h.imp (fun h => of_decide_eq_true h)
theorem Con.grow {P : Program} {k : FuncId} {args : Array Value} {w : World} {Gs Gs' : List Fact} {R : Value → List Fact → Prop} (hsub : ∀ k, Un Gs k → Un Gs' k) (h : Con P k args w Gs R) : Con P k args w Gs' R :=
  Calls.mono h fun _ _ ⟨v, he, Fs, hR, hc, hm, ho, hD⟩ => ⟨v, he, Fs, hR, hc.mono (fun i _ => hsub i), hm, ho, fun f hf k hk => (hD f hf k hk).imp_left (hsub k)⟩
/-- What a tag that is opened has. -/
def OkN (B : Bx.Box) (l : List Nat) (m : List UInt8) : Prop := OkS l m ∧ l.Nodup ∧ ∀ n ∈ l, 1 ≤ n ∧ n ≤ B.L.length
end Go.Proofs.YtkommfddfgiobaaGreatDoor.Sx

/- What a box holds, plainly: tags that are opened have one form; turned, they have it still. -/
namespace Go.Proofs.YtkommfddfgiobaaGreatDoor.Sx
open Go
attribute [local irreducible] Calls

/-- A sum that may be turned. -/
structure Nf (B : Bx.Box) (l : List Nat) (m : List UInt8) : Prop where
  mask : m.length = 32
  sorted : l.Pairwise (· < ·)
  nums : ∀ n ∈ l, 1 ≤ n ∧ n ≤ B.L.length
  base : ∀ n ∈ l, ∀ u, B.L[n - 1]? = some u → u.kind ≠ 4
structure K4 (B : Bx.Box) (t : Bx.Term) : Prop where
  nf : Nf B t.list t.mask
  form : t = turnT t.list t.mask
  one : ¬ (t.list.length = 1 ∧ t.mask = Bx.noughts)
  raw : ¬ (t.list = [] ∧ ¬ t.mask.take 28 = Bx.front)
structure BInv (B : Bx.Box) : Prop where
  sz : ∀ t ∈ B.L, TSz t
  nodup : B.L.Nodup
  k4 : ∀ t ∈ B.L, t.kind = 4 → K4 B t
  plain : B.sym = false → B.L = []
  len : B.L.length ≤ 4096
structure Ext (B B' : Bx.Box) : Prop where
  sym : B'.sym = B.sym
  full : B'.full = B.full
  len : B'.L.length ≤ B.L.length + 1
  inv : BInv B'
  mono : ∀ h r, B.opens h = some r → B'.opens h = some r
theorem Ext.refl {B : Bx.Box} (h : BInv B) : Ext B B := ⟨rfl, rfl, Nat.le_succ _, h, fun _ _ h => h⟩
theorem Nf.grow {B : Bx.Box} {l : List Nat} {m : List UInt8} (t : Bx.Term) (h : Nf B l m) : Nf { B with L := B.L ++ [t] } l m := by
  refine ⟨h.mask, h.sorted, fun n hn => ?_, fun n hn u hu => ?_⟩
  · have := h.nums n hn
    simp only [List.length_append, List.length_cons, List.length_nil]
    omega
  · have := h.nums n hn
    refine h.base n hn u ?_
    simp only at hu
    rw [List.getElem?_append_left (by omega)] at hu
    exact hu
theorem Nf.ok {B : Bx.Box} {l : List Nat} {m : List UInt8} (hi : BInv B) (h : Nf B l m) : OkN B l m := by
  have hnd : l.Nodup := h.sorted.imp (fun q => Nat.ne_of_lt q)
  refine ⟨⟨?_, fun n hn => ?_, h.mask⟩, hnd, h.nums⟩
  · have e := symL_mix (l2 := []) hnd List.nodup_nil h.nums (fun n hn => (by cases hn))
    have e2 : (mixL l []).length = l.length := by
      rw [mixL, sortN_len]
      have e3 : notIn l [] = l := List.filter_eq_self.2 (fun a _ => by simp)
      rw [e3]
      simp [notIn]
    have := symL_len l [] B.L.length
    rw [e, e2] at this
    have := hi.len
    omega
  · have := h.nums n hn
    have := hi.len
    omega
theorem opens_grow {B : Bx.Box} {t : Bx.Term} {h : List UInt8} {r : List Nat × List UInt8} (h0 : B.opens h = some r) : ({ B with L := B.L ++ [t] } : Bx.Box).opens h = some r := by
  unfold Bx.Box.opens at h0 ⊢
  split at h0
  · rename_i h32
    rw [if_pos h32]
    split at h0
    · rename_i hs
      rw [if_pos hs]
      split at h0
      · cases h0
      · rename_i hn
        have hn' : ¬ (Bx.num (h.drop 28) < 1 ∨ (B.L ++ [t]).length < Bx.num (h.drop 28)) := by
          rw [List.length_append]
          omega
        rw [if_neg hn']
        simp only
        rw [List.getElem?_append_left (by omega)]
        exact h0
    · rename_i hs
      rw [if_neg hs]
      exact h0
  · cases h0
theorem be4_of_num {l : List UInt8} (h : l.length = 4) : Bx.be4 (Bx.num l) = l := by
  have key : ∀ (x : Nat) (u : UInt8), x % 256 = u.toNat → UInt8.ofNat x = u := fun x u h => by
    apply UInt8.toNat_inj.1
    rw [UInt8.toNat_ofNat']
    exact h
  match l, h with
  | [a, b, c, d], _ =>
    have ha := a.toNat_lt
    have hb := b.toNat_lt
    have hc := c.toNat_lt
    have hd := d.toNat_lt
    simp only [Bx.num, List.foldl, Bx.be4]
    rw [key _ a (by omega), key _ b (by omega), key _ c (by omega), key _ d (by omega)]
/-- What an open tag is. -/
theorem opens_nf {B : Bx.Box} (hi : BInv B) {x : List UInt8} {l : List Nat} {m : List UInt8} (h : B.opens x = some (l, m)) :
    x.length = 32 ∧ Nf B l m ∧ ((l = [] ∧ m = x ∧ ¬ (B.sym = true ∧ m.take 28 = Bx.front)) ∨ (∃ n, l = [n] ∧ m = Bx.noughts ∧ x = Bx.handle n ∧ B.sym = true) ∨ (∃ k t, B.sym = true ∧ B.L[k]? = some t ∧ t = turnT l m ∧ K4 B t ∧ x = Bx.handle (k + 1))) := by
  unfold Bx.Box.opens at h
  split at h
  · rename_i h32
    refine ⟨h32, ?_⟩
    split at h
    · rename_i hs
      split at h
      · cases h
      · rename_i hn
        have hx : x = Bx.handle (Bx.num (x.drop 28)) := by
          have h1 := num4 h32
          have h2 : x = Bx.front ++ x.drop 28 := by rw [← hs.2, List.take_append_drop]
          rw [Bx.handle]
          rw [be4_of_num (by rw [List.length_drop, h32])]
          exact h2
        generalize hN : Bx.num (x.drop 28) = N at h hn hx
        split at h
        · rename_i t ht
          have htm : t ∈ B.L := List.mem_of_getElem? ht
          split at h
          · rename_i hk
            obtain ⟨rfl, rfl⟩ := Prod.mk.inj (Option.some.inj h)
            have h4 := hi.k4 t htm hk
            exact ⟨h4.nf, .inr (.inr ⟨N - 1, t, hs.1, ht, h4.form, h4, by rw [hx]; congr 1; omega⟩)⟩
          · rename_i hk
            obtain ⟨rfl, rfl⟩ := Prod.mk.inj (Option.some.inj h)
            refine ⟨⟨rfl, List.pairwise_singleton _ _, fun n hn' => ?_, fun n hn' u hu => ?_⟩, .inr (.inl ⟨N, rfl, rfl, hx, hs.1⟩)⟩
            · obtain rfl := List.mem_singleton.1 hn'
              omega
            · obtain rfl := List.mem_singleton.1 hn'
              rw [ht] at hu
              obtain rfl := Option.some.inj hu
              exact hk
        · cases h
    · rename_i hs
      obtain ⟨rfl, rfl⟩ := Prod.mk.inj (Option.some.inj h)
      exact ⟨⟨h32, List.Pairwise.nil, fun _ q => (by cases q), fun _ q => (by cases q)⟩, .inl ⟨rfl, rfl, hs⟩⟩
  · cases h
end Go.Proofs.YtkommfddfgiobaaGreatDoor.Sx

/- A sum's one tag. -/
namespace Go.Proofs.YtkommfddfgiobaaGreatDoor.Sx
open Go
attribute [local irreducible] Calls

open Classical in
/-- A sum's tag; the box behind it. -/
noncomputable def canon (B : Bx.Box) (l : List Nat) (m : List UInt8) : List UInt8 × Bx.Box :=
  if l = [] ∧ ¬ (B.sym = true ∧ m.take 28 = Bx.front) then (m, B)
  else match l, decide (m = Bx.noughts) with
    | [n], true => (Bx.handle n, B)
    | L, _ => B.tag (turnT L m)
theorem canon_raw {B : Bx.Box} {l : List Nat} {m : List UInt8} (h : l = [] ∧ ¬ (B.sym = true ∧ m.take 28 = Bx.front)) : canon B l m = (m, B) := by unfold canon; rw [if_pos h]
theorem canon_one {B : Bx.Box} {n : Nat} : canon B [n] Bx.noughts = (Bx.handle n, B) := by
  unfold canon
  rw [if_neg (fun q => by cases q.1), decide_eq_true rfl]
theorem canon_tag {B : Bx.Box} {l : List Nat} {m : List UInt8} (h : ¬ (l = [] ∧ ¬ (B.sym = true ∧ m.take 28 = Bx.front))) (h1 : ¬ (l.length = 1 ∧ m = Bx.noughts)) : canon B l m = B.tag (turnT l m) := by
  unfold canon
  rw [if_neg h]
  split
  · rename_i n h4
    exact absurd ⟨rfl, of_decide_eq_true h4⟩ h1
  · rfl
theorem turnB_canon {B : Bx.Box} {s t : List UInt8} {l1 l2 : List Nat} {m1 m2 : List UInt8} (h1 : B.opens s = some (l1, m1)) (h2 : B.opens t = some (l2, m2)) : turnB B s t = (some (canon B (mixL l1 l2) (Bx.xorB m1 m2)).1, (canon B (mixL l1 l2) (Bx.xorB m1 m2)).2) := by
  by_cases q1 : mixL l1 l2 = [] ∧ ¬ (B.sym = true ∧ (Bx.xorB m1 m2).take 28 = Bx.front)
  · rw [turnB_raw h1 h2 q1.1 q1.2, canon_raw q1]
  by_cases q2 : (mixL l1 l2).length = 1 ∧ Bx.xorB m1 m2 = Bx.noughts
  · obtain ⟨n, hn⟩ := List.length_eq_one_iff.1 q2.1
    rw [turnB_one h1 h2 hn q2.2, hn, q2.2, canon_one]
  · rw [turnB_tag h1 h2 q1 q2, canon_tag q1 q2]
theorem place_self {B : Bx.Box} (hi : BInv B) {k : Nat} {t : Bx.Term} (h : B.L[k]? = some t) : Bx.place t B.L = some k := by
  refine place_at h (fun q => ?_)
  obtain ⟨j, hj, he⟩ := List.mem_take_iff_getElem.1 q
  obtain ⟨hk, hke⟩ := List.getElem?_eq_some_iff.1 h
  have hjk : j < k := by omega
  have := (List.pairwise_iff_getElem.1 hi.nodup) j k (by omega) hk hjk
  exact this (he.trans hke.symm)
theorem opens_canon {B : Bx.Box} (hi : BInv B) {x : List UInt8} {l : List Nat} {m : List UInt8} (h : B.opens x = some (l, m)) : canon B l m = (x, B) := by
  obtain ⟨_, _, hc⟩ := opens_nf hi h
  rcases hc with ⟨rfl, rfl, hno⟩ | ⟨n, rfl, rfl, rfl, _⟩ | ⟨k, t, hs, hk, ht, h4, rfl⟩
  · exact canon_raw ⟨rfl, hno⟩
  · exact canon_one
  · have e1 : t.list = l := by rw [ht]; rfl
    have e2 : t.mask = m := by rw [ht]; rfl
    have h5 := h4.raw
    have h6 := h4.one
    rw [e1, e2] at h5 h6
    rw [canon_tag (fun q => h5 ⟨q.1, fun f => q.2 ⟨hs, f⟩⟩) h6]
    unfold Bx.Box.tag
    rw [← ht, place_self hi hk]
theorem K4.grow {B : Bx.Box} {t : Bx.Term} (u : Bx.Term) (h : K4 B t) : K4 { B with L := B.L ++ [u] } t := ⟨h.nf.grow u, h.form, h.one, h.raw⟩
theorem tag_ext {B : Bx.Box} (hi : BInv B) (hs : B.sym = true) (hl : B.L.length < 4096) {t : Bx.Term} (hz : TSz t) (h4 : t.kind = 4 → K4 B t) : Ext B (B.tag t).2 ∧ ∃ k, (B.tag t).1 = Bx.handle (k + 1) ∧ (B.tag t).2.L[k]? = some t := by
  unfold Bx.Box.tag
  cases hp : Bx.place t B.L with
  | some i => exact ⟨Ext.refl hi, i, rfl, Bx.place_some hp⟩
  | none =>
    simp only
    rw [if_neg (by omega)]
    refine ⟨⟨rfl, rfl, by simp, ⟨fun u hu => ?_, ?_, fun u hu hk => ?_, fun q => ?_, ?_⟩, fun h r q => opens_grow q⟩, B.L.length, rfl, by simp⟩
    · rcases List.mem_append.1 hu with hu | hu
      · exact hi.sz u hu
      · obtain rfl := List.mem_singleton.1 hu
        exact hz
    · refine List.nodup_append.2 ⟨hi.nodup, List.nodup_cons.2 ⟨fun q => (by cases q), List.nodup_nil⟩, fun a ha b hb q => ?_⟩
      obtain rfl := List.mem_singleton.1 hb
      exact Bx.place_none hp (q ▸ ha)
    · rcases List.mem_append.1 hu with hu | hu
      · exact (hi.k4 u hu hk).grow t
      · obtain rfl := List.mem_singleton.1 hu
        exact (h4 hk).grow u
    · rw [show ({ B with L := B.L ++ [t] } : Bx.Box).sym = B.sym from rfl, hs] at q
      cases q
    · simp only [List.length_append, List.length_cons, List.length_nil]
      omega
theorem turnT_sz {B : Bx.Box} (hi : BInv B) {l : List Nat} {m : List UInt8} (h : Nf B l m) : TSz (turnT l m) := by
  obtain ⟨h1, _, _⟩ := h.ok hi
  have := h1.len
  have := h1.mask
  exact ⟨by show 4 < 1000; decide, by show 0 < 1000; decide, Nat.zero_le _, Nat.zero_le _, by show l.length ≤ 10000; omega, fun n hn => by have := h1.nums n hn; omega, by show m.length ≤ 1000000; omega⟩
theorem canon_ext {B : Bx.Box} (hi : BInv B) (hl : B.L.length < 4096) {l : List Nat} {m : List UInt8} (h : Nf B l m) : Ext B (canon B l m).2 ∧ (canon B l m).1.length = 32 ∧ (canon B l m).2.opens (canon B l m).1 = some (l, m) := by
  have hsym : l ≠ [] → B.sym = true := fun hne => by
    cases hs : B.sym with
    | true => rfl
    | false =>
      obtain ⟨n, r, rfl⟩ := List.exists_cons_of_ne_nil hne
      have := h.nums n List.mem_cons_self
      rw [hi.plain hs] at this
      have h0 : n ≤ 0 := this.2
      omega
  by_cases h1 : l = [] ∧ ¬ (B.sym = true ∧ m.take 28 = Bx.front)
  · rw [canon_raw h1]
    refine ⟨Ext.refl hi, h.mask, ?_⟩
    rw [h1.1]
    exact Bx.opens_raw h.mask h1.2
  by_cases h2 : l.length = 1 ∧ m = Bx.noughts
  · obtain ⟨h2, rfl⟩ := h2
    obtain ⟨n, rfl⟩ := List.length_eq_one_iff.1 h2
    have hs := hsym (fun q => by cases q)
    rw [canon_one]
    refine ⟨Ext.refl hi, rfl, ?_⟩
    have hn := h.nums n List.mem_cons_self
    obtain ⟨u, hu, _⟩ := at_lt (l := B.L) (k := n - 1) (by omega)
    have hb := h.base n List.mem_cons_self u hu
    exact (opens_h hs (by omega) hn.1 hn.2 hu).trans (if_neg hb)
  · rw [canon_tag h1 h2]
    have hs : B.sym = true := by
      by_cases hne : l = []
      · cases hs : B.sym with
        | true => rfl
        | false => exact absurd ⟨hne, fun q => by rw [hs] at q; cases q.1⟩ h1
      · exact hsym hne
    obtain ⟨he, k, hk, hkt⟩ := tag_ext hi hs hl (turnT_sz hi h) (fun _ => ⟨h, rfl, h2, fun q => h1 ⟨q.1, fun f => q.2 f.2⟩⟩)
    refine ⟨he, by rw [hk]; rfl, ?_⟩
    rw [hk]
    have hlen := he.inv.len
    have hlt := (List.getElem?_eq_some_iff.1 hkt).1
    exact (opens_h (he.sym.trans hs) (by omega) (by omega) (by omega) hkt).trans (if_pos rfl)
theorem mem_mix {l1 l2 : List Nat} {n : Nat} (h : n ∈ mixL l1 l2) : n ∈ l1 ∨ n ∈ l2 := by
  have h3 : n ∈ notIn l1 l2 ++ notIn l2 l1 := (List.mergeSort_perm _ _).mem_iff.1 h
  rcases List.mem_append.1 h3 with q | q
  · exact .inl (List.mem_filter.1 q).1
  · exact .inr (List.mem_filter.1 q).1
theorem Nf.mix {B : Bx.Box} {l1 l2 : List Nat} {m1 m2 : List UInt8} (h1 : Nf B l1 m1) (h2 : Nf B l2 m2) : Nf B (mixL l1 l2) (Bx.xorB m1 m2) := by
  have d1 : l1.Nodup := h1.sorted.imp (fun q => Nat.ne_of_lt q)
  have d2 : l2.Nodup := h2.sorted.imp (fun q => Nat.ne_of_lt q)
  refine ⟨by rw [xorB_len, h1.mask, h2.mask]; exact Nat.min_self _, ?_, fun n hn => ?_, fun n hn => ?_⟩
  · rw [← symL_mix d1 d2 h1.nums h2.nums]
    exact (List.pairwise_lt_range' 1).sublist List.filter_sublist
  · rcases mem_mix hn with q | q
    · exact h1.nums n q
    · exact h2.nums n q
  · rcases mem_mix hn with q | q
    · exact h1.base n q
    · exact h2.base n q
theorem turn_ext {B : Bx.Box} (hi : BInv B) (hl : B.L.length < 4096) {s t : List UInt8} {l1 l2 : List Nat} {m1 m2 : List UInt8} (h1 : B.opens s = some (l1, m1)) (h2 : B.opens t = some (l2, m2)) :
    ∃ h B', turnB B s t = (some h, B') ∧ Ext B B' ∧ h.length = 32 ∧ B'.opens h = some (mixL l1 l2, Bx.xorB m1 m2) := by
  obtain ⟨_, n1, _⟩ := opens_nf hi h1
  obtain ⟨_, n2, _⟩ := opens_nf hi h2
  obtain ⟨e1, e2, e3⟩ := canon_ext hi hl (n1.mix n2)
  exact ⟨_, _, turnB_canon h1 h2, e1, e2, e3⟩
theorem sorted_ext {l m : List Nat} (hl : l.Pairwise (· < ·)) (hm : m.Pairwise (· < ·)) (h : ∀ a, a ∈ l ↔ a ∈ m) : l = m :=
  List.Perm.eq_of_pairwise (le := fun a b => a ≤ b) (fun a b _ _ p q => Nat.le_antisymm p q) (hl.imp (fun h => Nat.le_of_lt h)) (hm.imp (fun h => Nat.le_of_lt h)) ((List.perm_ext_iff_of_nodup (hl.imp (fun q => Nat.ne_of_lt q)) (hm.imp (fun q => Nat.ne_of_lt q))).2 h)
theorem mem_mix_iff {l1 l2 : List Nat} {n : Nat} : n ∈ mixL l1 l2 ↔ (n ∈ l1 ∧ n ∉ l2) ∨ (n ∈ l2 ∧ n ∉ l1) := by
  rw [mixL, sortN, (List.mergeSort_perm _ _).mem_iff, List.mem_append]
  simp [notIn, List.mem_filter]
theorem xor_back : ∀ (a b : List UInt8), a.length = b.length → Bx.xorB (Bx.xorB a b) b = a
  | [], _, _ => rfl
  | a :: r, b :: t, h => by
    have ih := xor_back r t (by simpa using h)
    unfold Bx.xorB at ih ⊢
    simp only [List.zipWith_cons_cons, ih]
    rw [UInt8.xor_assoc, UInt8.xor_self, UInt8.xor_zero]
  | _ :: _, [], h => by cases h
end Go.Proofs.YtkommfddfgiobaaGreatDoor.Sx

/- A box that has told something is a box. -/
namespace Go.Proofs.YtkommfddfgiobaaGreatDoor.Sx
open Go
attribute [local irreducible] Calls

theorem cutC (w : World) (A : Option Addr) (l : List UInt8) (c k : Nat) (hr : Bs w A l) (hc : l.length ≤ c) (hn : k ≤ lim) :
    Con Tryz.prog n_ostiaryref01_Cut #[.slice A l.length c, .int .i64 k] w [] fun v Fs => ∃ A' c', v = .slice A' (l.take k).length c' ∧ (l.take k).length ≤ c' ∧ c' ≤ maxLen ∧ Fs = [browF ty_uint8 A' (l.take k) c'] := con_row (cut_c w A l c k hr hc hn)
/-- What a call of a box is told: new, open, and nothing else is shut. -/
def GoodT (B : Bx.Box) (r : List UInt8 × Bx.Box) : Prop := Ext B r.2 ∧ r.1.length = 32 ∧ ∃ q, r.2.opens r.1 = some q
theorem tag_good {B : Bx.Box} (hi : BInv B) (hs : B.sym = true) (hl : B.L.length < 4096) {t : Bx.Term} (hz : TSz t) (h4 : t.kind ≠ 4) : GoodT B (B.tag t) := by
  obtain ⟨he, k, hk, hkt⟩ := tag_ext hi hs hl hz (fun q => absurd q h4)
  refine ⟨he, by rw [hk]; rfl, ?_⟩
  rw [hk]
  have hlen := he.inv.len
  have hlt := (List.getElem?_eq_some_iff.1 hkt).1
  exact ⟨_, (opens_h (he.sym.trans hs) (by omega) (by omega) (by omega) hkt).trans (if_neg h4)⟩
theorem raw_good {B : Bx.Box} (hi : BInv B) (hs : B.sym = false) {h : List UInt8} (hh : h.length = 32) : GoodT B (h, B) :=
  ⟨Ext.refl hi, hh, _, Bx.opens_raw hh (fun q => by rw [hs] at q; cases q.1)⟩
theorem hash_good {B : Bx.Box} (hi : BInv B) (hl : B.L.length < 4096) {t : List UInt8} (ht : t.length ≤ 1000000) : GoodT B (hashB B t) := by
  cases hs : B.sym with
  | true => rw [show hashB B t = B.tag (hashT t) by unfold hashB; rw [hs]; rfl]; exact tag_good hi hs hl (hashT_sz ht) (by show ¬ 1 = 4; decide)
  | false => rw [show hashB B t = (Sha.sum t, B) by unfold hashB; rw [hs]; rfl]; exact raw_good hi hs (sum_len t)
theorem mac_good {B : Bx.Box} (hi : BInv B) (hl : B.L.length < 4096) {k t : List UInt8} (hk : k.length ≤ 1000000) (ht : t.length ≤ 1000000) : GoodT B (macB B k t) := by
  cases hs : B.sym with
  | true => rw [show macB B k t = B.tag (macT k t) by unfold macB; rw [hs]; rfl]; exact tag_good hi hs hl (macT_sz hk ht) (by show ¬ 2 = 4; decide)
  | false => rw [show macB B k t = (hmL k t, B) by unfold macB; rw [hs]; rfl]; exact raw_good hi hs (hmL_len k t)
theorem str_good {B : Bx.Box} (hi : BInv B) (hl : B.L.length < 4096) {k t : List UInt8} {r : Nat} (hk : k.length ≤ 1000000) (ht : t.length ≤ 1000000) (hr : r ≤ 64) : GoodT B (strB B k t r) := by
  cases hs : B.sym with
  | true => rw [show strB B k t r = B.tag (strT k t r) by unfold strB; rw [hs]; rfl]; exact tag_good hi hs hl (strT_sz hk ht hr) (by show ¬ 3 = 4; decide)
  | false => rw [show strB B k t r = (stretchL k t r, B) by unfold strB; rw [hs]; rfl]; exact raw_good hi hs (strX_len _ _ _)
theorem turn_cases {B : Bx.Box} (hi : BInv B) (hl : B.L.length < 4096) (s t : List UInt8) : turnB B s t = (none, B) ∨ ∃ h B', turnB B s t = (some h, B') ∧ GoodT B (h, B') := by
  cases h1 : B.opens s with
  | none => exact .inl (turnB_none1 h1)
  | some p =>
    cases h2 : B.opens t with
    | none => exact .inl (turnB_none2 h2)
    | some q =>
      obtain ⟨h, B', e1, e2, e3, e4⟩ := turn_ext hi hl h1 h2
      exact .inr ⟨h, B', e1, e2, e3, _, e4⟩
end Go.Proofs.YtkommfddfgiobaaGreatDoor.Sx

/- A box's calls: what is told has its length. -/
namespace Go.Proofs.YtkommfddfgiobaaGreatDoor.Sx
open Go
attribute [local irreducible] Calls

/-- What a box tells, and the box behind it. -/
def outL (F : Bx.Box → Lay → Fact) (r : List UInt8 × Bx.Box) (v : Value) (Fs : List Fact) : Prop :=
  ∃ A c y', v = .slice A r.1.length c ∧ r.1.length ≤ c ∧ c ≤ maxLen ∧ y'.ts.map (·.1) = r.2.L ∧ Fs = [browF ty_uint8 A r.1 c, F r.2 y']
theorem boxOut_L {b : Nat} {r : List UInt8 × Bx.Box} {v : Value} {Fs : List Fact} (h : r.1.length = 32) (k : boxOut b r v Fs) : outL (bxF b) r v Fs := by
  obtain ⟨A, c, y', rfl, h1, h2, h3, rfl⟩ := k
  exact ⟨A, c, y', by rw [h], by rw [h]; exact h1, h2, h3, rfl⟩
theorem one_part (A : Option Addr) (l : List UInt8) (c : Nat) : partsT [(A, l, c)] = l := by simp [partsT]
theorem hashL_c (w : World) (b : Nat) (B : Bx.Box) (y : Lay) (b0 : Nat) (A : Option Addr) (l : List UInt8) (c : Nat) (hts : y.ts.map (·.1) = B.L) (hi : BInv B) (hL : B.L.length < 4096) (hn : l.length ≤ 1000000) (hm : Mem w [bxF b B y, partF (some ⟨b0, 0, none⟩) [(A, l, c)], oddF 3, firstF 0]) :
    Con Tryz.prog n_box_Box_Hash #[ptrB b, .slice (some ⟨b0, 0, none⟩) 1 1] w [bxF b B y] (outL (bxF b) (hashB B l)) := by
  have k := hashP_c w b B y b0 [(A, l, c)] 1 hts (by omega) (by simp) (Nat.le_refl 1) (by show 1 ≤ 1000; decide) (by rw [one_part]; exact hn) hm
  rw [one_part] at k
  exact k.mono fun v Fs h => boxOut_L (hash_good hi hL hn).2.1 h
theorem macL_c (w : World) (b : Nat) (B : Bx.Box) (y : Lay) (K : Option Addr) (key : List UInt8) (cK : Nat) (b0 : Nat) (A : Option Addr) (l : List UInt8) (c : Nat) (hts : y.ts.map (·.1) = B.L) (hi : BInv B) (hL : B.L.length < 4096) (hk : key.length ≤ 1000000) (hn : l.length ≤ 1000000) (hm : Mem w [bxF b B y, partF (some ⟨b0, 0, none⟩) [(A, l, c)], bsF K key, oddF 3, firstF 0]) :
    Con Tryz.prog n_box_Box_Mac #[ptrB b, .slice K key.length cK, .slice (some ⟨b0, 0, none⟩) 1 1] w [bxF b B y] (outL (bxF b) (macB B key l)) := by
  have k := macP_c w b B y K key cK b0 [(A, l, c)] 1 hts (by omega) hk (by simp) (Nat.le_refl 1) (by show 1 ≤ 1000; decide) (by rw [one_part]; exact hn) hm
  rw [one_part] at k
  exact k.mono fun v Fs h => boxOut_L (mac_good hi hL hk hn).2.1 h
/-- A stretched password. -/
def strL (F : Bx.Box → Lay → Fact) (r : List UInt8 × Bx.Box) (v : Value) (Fs : List Fact) : Prop :=
  ∃ A c y', v = .tuple #[.slice A r.1.length c, .int .i64 0] ∧ r.1.length ≤ c ∧ c ≤ maxLen ∧ y'.ts.map (·.1) = r.2.L ∧ Fs = [browF ty_uint8 A r.1 c, F r.2 y']
theorem strL_c (w : World) (b : Nat) (B : Bx.Box) (y : Lay) (K S : Option Addr) (p s : List UInt8) (cK cS : Nat) (r : Int) (hr : 1 ≤ r ∧ r ≤ 64) (hts : y.ts.map (·.1) = B.L) (hi : BInv B) (hL : B.L.length < 4096) (hk : p.length ≤ 1000000) (hn : s.length ≤ 100000) (hm : Mem w [bxF b B y, bsF K p, bsF S s, oddF 3, firstF 0]) :
    Con Tryz.prog n_box_Box_Stretch #[ptrB b, .slice K p.length cK, .slice S s.length cS, .int .i64 r] w [bxF b B y] (strL (bxF b) (strB B p s r.toNat)) := by
  refine (strP_c w b B y K S p s cK cS r hts (by omega) hk hn hm).mono fun v Fs h => ?_
  unfold strOut at h
  rw [if_pos hr] at h
  obtain ⟨A, c, y', rfl, h1, h2, h3, rfl⟩ := h
  have e := (str_good (r := r.toNat) hi hL hk (by omega : s.length ≤ 1000000) (by omega)).2.1
  exact ⟨A, c, y', by rw [e], by rw [e]; exact h1, h2, h3, rfl⟩
end Go.Proofs.YtkommfddfgiobaaGreatDoor.Sx

/- Secrets made. -/
namespace Go.Proofs.YtkommfddfgiobaaGreatDoor.Sx
open Go
attribute [local irreducible] Calls

def clientK : List UInt8 := [67, 108, 105, 101, 110, 116, 32, 75, 101, 121]
def serverK : List UInt8 := [83, 101, 114, 118, 101, 114, 32, 75, 101, 121]
/-- Why there is no secret; nought: there is one. -/
def mkErr (tenant user pass : ByteArray) (n : Nat) (it : Int) : Int :=
  if plainF tenant.data.toList = false then 5 else if ¬ (nameA user).2 = 0 then (nameA user).2 else if ¬ (passA pass).2 = 0 then (passA pass).2 else if saltedN n it = false then 1 else 0
/-- What a box makes of a password. -/
noncomputable def mk1 (B : Bx.Box) (p salt : List UInt8) (it : Nat) : List UInt8 × Bx.Box := strB B p salt it
noncomputable def mk2 (B : Bx.Box) (p salt : List UInt8) (it : Nat) : List UInt8 × Bx.Box := macB (mk1 B p salt it).2 (mk1 B p salt it).1 clientK
noncomputable def mk3 (B : Bx.Box) (p salt : List UInt8) (it : Nat) : List UInt8 × Bx.Box := hashB (mk2 B p salt it).2 (mk2 B p salt it).1
noncomputable def mk4 (B : Bx.Box) (p salt : List UInt8) (it : Nat) : List UInt8 × Bx.Box := macB (mk3 B p salt it).2 (mk1 B p salt it).1 serverK
noncomputable def mk5 (B : Bx.Box) (p salt : List UInt8) (it : Nat) (t : List UInt8) : List UInt8 × Bx.Box := hashB (mk4 B p salt it).2 t
structure MkG (B : Bx.Box) (p salt : List UInt8) (it : Nat) (t : List UInt8) : Prop where
  g1 : GoodT B (mk1 B p salt it)
  g2 : GoodT (mk1 B p salt it).2 (mk2 B p salt it)
  g3 : GoodT (mk2 B p salt it).2 (mk3 B p salt it)
  g4 : GoodT (mk3 B p salt it).2 (mk4 B p salt it)
  g5 : GoodT (mk4 B p salt it).2 (mk5 B p salt it t)
theorem mk_good {B : Bx.Box} (hi : BInv B) (hl : B.L.length < 4000) {p salt t : List UInt8} {it : Nat} (hp : p.length ≤ 1000000) (hs : salt.length ≤ 1000000) (ht : t.length ≤ 1000000) (hit : it ≤ 64) : MkG B p salt it t := by
  have g1 : GoodT B (mk1 B p salt it) := str_good hi (by omega) hp hs hit
  have l1 := g1.1.len
  have k1 := g1.2.1
  have g2 : GoodT (mk1 B p salt it).2 (mk2 B p salt it) := mac_good g1.1.inv (by omega) (by omega) (by decide)
  have l2 := g2.1.len
  have k2 := g2.2.1
  have g3 : GoodT (mk2 B p salt it).2 (mk3 B p salt it) := hash_good g2.1.inv (by omega) (by omega)
  have l3 := g3.1.len
  have g4 : GoodT (mk3 B p salt it).2 (mk4 B p salt it) := mac_good g3.1.inv (by omega) (by omega) (by decide)
  have l4 := g4.1.len
  exact ⟨g1, g2, g3, g4, hash_good g4.1.inv (by omega) ht⟩
theorem MkG.ext {B : Bx.Box} {p salt t : List UInt8} {it : Nat} (h : MkG B p salt it t) : (mk5 B p salt it t).2.L.length ≤ B.L.length + 5 ∧ BInv (mk5 B p salt it t).2 ∧ (mk5 B p salt it t).2.sym = B.sym := by
  have l1 := h.g1.1.len
  have l2 := h.g2.1.len
  have l3 := h.g3.1.len
  have l4 := h.g4.1.len
  have l5 := h.g5.1.len
  exact ⟨by omega, h.g5.1.inv, by rw [h.g5.1.sym, h.g4.1.sym, h.g3.1.sym, h.g2.1.sym, h.g1.1.sym]⟩
def colonS : ByteArray := ⟨#[58]⟩
def haT (u tenant p : ByteArray) : ByteArray := u ++ colonS ++ tenant ++ colonS ++ p
theorem haT_size (u tenant p : ByteArray) : (haT u tenant p).size = u.size + tenant.size + p.size + 2 := by
  have : colonS.size = 1 := rfl
  simp only [haT, ByteArray.size_append, this]
  omega
def noSec : Value := .agg #[.slice none 0 0, .int .i64 0, .slice none 0 0, .slice none 0 0, .slice none 0 0]
/-- A secret that was made, in memory; the box behind it. -/
def madeSec (F : Bx.Box → Lay → Fact) (B : Bx.Box) (tenant user pass : ByteArray) (salt : List UInt8) (it : Int) (v : Value) (Fs : List Fact) : Prop :=
  ∃ A0 c0 A1 c1 A2 c2 A3 c3 y',
    v = .tuple #[(SecA.mk A0 A1 A2 A3 c0 c1 c2 c3 salt (mk3 B (passA pass).1.data.toList salt it.toNat).1 (mk4 B (passA pass).1.data.toList salt it.toNat).1 (mk5 B (passA pass).1.data.toList salt it.toNat (haT (nameA user).1 tenant (passA pass).1).data.toList).1 it).val, .int .i64 0] ∧
    y'.ts.map (·.1) = (mk5 B (passA pass).1.data.toList salt it.toNat (haT (nameA user).1 tenant (passA pass).1).data.toList).2.L ∧
    Fs = [browF ty_uint8 A3 (mk5 B (passA pass).1.data.toList salt it.toNat (haT (nameA user).1 tenant (passA pass).1).data.toList).1 c3, browF ty_uint8 A2 (mk4 B (passA pass).1.data.toList salt it.toNat).1 c2, browF ty_uint8 A1 (mk3 B (passA pass).1.data.toList salt it.toNat).1 c1, browF ty_uint8 A0 salt c0, F (mk5 B (passA pass).1.data.toList salt it.toNat (haT (nameA user).1 tenant (passA pass).1).data.toList).2 y']
def makeOut (F : Bx.Box → Lay → Fact) (B : Bx.Box) (y : Lay) (tenant user pass : ByteArray) (salt : List UInt8) (it : Int) (v : Value) (Fs : List Fact) : Prop :=
  if mkErr tenant user pass salt.length it = 0 then madeSec F B tenant user pass salt it v Fs
  else v = .tuple #[noSec, .int .i64 (mkErr tenant user pass salt.length it)] ∧ Fs = [F B y]
theorem makeOut_no {F : Bx.Box → Lay → Fact} {B : Bx.Box} {y : Lay} {tenant user pass : ByteArray} {salt : List UInt8} {it e : Int} (h : mkErr tenant user pass salt.length it = e) (h0 : ¬ e = 0) : makeOut F B y tenant user pass salt it (.tuple #[noSec, .int .i64 e]) [F B y] := by
  unfold makeOut
  rw [h, if_neg h0]
  exact ⟨rfl, rfl⟩
set_option maxHeartbeats 2000000 in
theorem make_c (w : World) (b : Nat) (B : Bx.Box) (y : Lay) (tenant user pass : ByteArray) (S : Option Addr) (salt : List UInt8) (cS : Nat) (it : Int) (hts : y.ts.map (·.1) = B.L) (hi : BInv B) (hL : B.L.length < 4000) (ht : tenant.size ≤ 100000) (hu : user.size ≤ 100000) (hp : pass.size ≤ 100000) (hsl : salt.length ≤ 100000)
    (hm : Mem w [bxF b B y, bsF S salt, oddF 3, firstF 0, namF]) :
    Con Tryz.prog n_cred_Make #[ptrB b, .string tenant, .string user, .string pass, .slice S salt.length cS, .int .i64 it] w [bxF b B y] (makeOut (bxF b) B y tenant user pass salt it) := by
  have g := good_cred_Make w (Un [bxF b B y])
  have hml := maxLen_eq
  have hs0 : Sat (cx_cred_Make w (Un [bxF b B y])) Va.z 0 [] [bxF b B y, bsF S salt, oddF 3, firstF 0, namF] w := hm.sat0 rfl (ownIn (Gs := [bxF b B y]) (fun f hf => by
    simp only [List.mem_cons, List.not_mem_nil, or_false] at hf
    rcases hf with rfl | rfl | rfl | rfl <;> rfl))
  refine con_of_sx (cx := cx_cred_Make w (Un [bxF b B y])) g b_cred_Make rfl rfl (β := Va.z) [.c (.v (ptrB b)), .c (.v (.string tenant)), .c (.v (.string user)), .c (.v (.string pass)), .c (.v (.slice S salt.length cS)), .c (.v (.int .i64 it))] 0 [] _ rfl rfl hs0 ?_
  have bad : ∀ {e : Int}, mkErr tenant user pass salt.length it = e → ¬ e = 0 → ∀ {n : Nat} {H : List Bk} (β : Va) (w' : World), Sat (cx_cred_Make w (Un [bxF b B y])) β n H [bxF b B y, bsF S salt, oddF 3, firstF 0, namF] w' → Fin w [bxF b B y] (makeOut (bxF b) B y tenant user pass salt it) (.tuple #[noSec, .int .i64 e]) w' := by
    intro e h h0 n H β w' hs
    exact (hs.keepB (List.nil_sublist _)).fin [0] (makeOut_no h h0)
  obtain ⟨b1, hb1⟩ : ∃ b1, plainF tenant.data.toList = b1 := ⟨_, rfl⟩
  refine call_pu (v := .bool b1) (fun β w' hs => by rw [← hb1]; exact plain_c w' tenant ht) ?_
  cases b1 with
  | false => exact fun β w' hs => bad (by unfold mkErr; rw [if_pos hb1]) (by decide) β w' hs
  | true =>
  obtain ⟨un, ue, hun⟩ : ∃ un ue, nameA user = (un, ue) := ⟨_, _, rfl⟩
  have hul := nameA_len user
  rw [hun] at hul
  simp only at hul
  refine call_pu (v := .tuple #[.string un, .int .i64 ue]) (fun β w' hs => by
    have h := nameA_c w' user hu (namF_T (hs.get 4 rfl))
    rw [hun] at h
    exact h) ?_
  refine BIf.not (BIf.dec (fun h1 => ?_) (fun h1 => ?_))
  rotate_left
  · exact fun β w' hs => bad (by unfold mkErr; rw [if_neg (by rw [hb1]; decide), hun, if_pos h1]) h1 β w' hs
  obtain rfl : ue = 0 := h1
  obtain ⟨pn, pe, hpn⟩ : ∃ pn pe, passA pass = (pn, pe) := ⟨_, _, rfl⟩
  have hpl := passA_len pass
  rw [hpn] at hpl
  simp only at hpl
  refine call_pu (v := .tuple #[.string pn, .int .i64 pe]) (fun β w' hs => by
    have h := pass_c w' pass hp (namF_T (hs.get 4 rfl))
    rw [hpn] at h
    exact h) ?_
  refine BIf.not (BIf.dec (fun h2 => ?_) (fun h2 => ?_))
  rotate_left
  · exact fun β w' hs => bad (by unfold mkErr; rw [if_neg (by rw [hb1]; decide), hun, if_neg (by simp), hpn, if_pos h2]) h2 β w' hs
  obtain rfl : pe = 0 := h2
  obtain ⟨b2, hb2⟩ : ∃ b2, saltedN salt.length it = b2 := ⟨_, rfl⟩
  refine call_pu (v := .bool b2) (fun β w' hs => by rw [← hb2]; exact csalted_c w' S salt.length cS it) ?_
  cases b2 with
  | false => exact fun β w' hs => bad (by unfold mkErr; rw [if_neg (by rw [hb1]; decide), hun, if_neg (by simp), hpn, if_neg (by simp), if_pos hb2]) (by decide) β w' hs
  | true =>
  obtain ⟨hit1, hit2, hs32⟩ := salted_ok hb2
  have hout : makeOut (bxF b) B y tenant user pass salt it = madeSec (bxF b) B tenant user pass salt it := by
    funext v Fs
    unfold makeOut
    rw [if_pos (by unfold mkErr; rw [if_neg (by rw [hb1]; decide), hun, if_neg (by simp), hpn, if_neg (by simp), if_neg (by rw [hb2]; decide)])]
  rw [hout]
  unfold madeSec
  rw [hun, hpn]
  simp only
  clear hout bad
  have hpl2 : pn.data.toList.length ≤ 64 := hpl
  have hht := haT_size un tenant pn
  have ht32 : tenant.size ≤ 32 := by
    unfold plainF at hb1
    simp only [Bool.and_eq_true, decide_eq_true_eq] at hb1
    exact hb1.2.2
  have hG := mk_good hi hL (p := pn.data.toList) (salt := salt) (it := it.toNat) (t := (haT un tenant pn).data.toList) (by omega) (by omega) (by show (haT un tenant pn).size ≤ _; omega) (by omega)
  intro bp cp hcp _
  refine call_con [1] (R := strL (bxF b) (mk1 B pn.data.toList salt it.toNat)) (fun β w' hs => strL_c w' b B y (some ⟨bp, 0, none⟩) S pn.data.toList salt cp cS it ⟨hit1, hit2⟩ hts hi (by omega) (by omega) (by omega) ((hs.unown 0 rfl).mem.take (js := [1, 0, 2, 3, 4]) rfl)) ?_
  rintro v Fs ⟨A1, c1, y1, rfl, q1, q2, hts1, rfl⟩
  have l1 := hG.g1.1.len
  have k1 := hG.g1.2.1
  intro bc
  refine ⟨0, _, rfl, ?_⟩
  intro br
  refine call_con [3] (R := outL (bxF b) (mk2 B pn.data.toList salt it.toNat)) (fun β w' hs => by
    have h2 := ((hs.rowRd 0 rfl).ro 2 rfl).part1 (l := clientK) [0, 1] rfl
    exact macL_c w' b _ y1 A1 _ c1 br _ clientK 10 hts1 hG.g1.1.inv (by omega) (by omega) (by decide) (h2.mem.take (js := [4, 0, 3, 7, 8]) rfl)) ?_
  rintro v Fs ⟨A2, c2, y2, rfl, q3, q4, hts2, rfl⟩
  have l2 := hG.g2.1.len
  have k2 := hG.g2.2.1
  refine call_con [] (fun β w' hs => clone_c w' S salt cS (hs.get 6 rfl) (by omega)) ?_
  rintro v Fs ⟨A0, c0, rfl, q5, q6, rfl⟩
  intro br2
  refine call_con [3] (R := outL (bxF b) (mk3 B pn.data.toList salt it.toNat)) (fun β w' hs => by
    have h2 := ((hs.rowRd 0 rfl).ro 2 rfl).part1 (l := (mk2 B pn.data.toList salt it.toNat).1) [0, 2] rfl
    exact hashL_c w' b _ y2 br2 A2 _ c2 hts2 hG.g2.1.inv (by omega) (by omega) (h2.mem.take (js := [4, 0, 10, 11]) rfl)) ?_
  rintro v Fs ⟨A3, c3, y3, rfl, q7, q8, hts3, rfl⟩
  have l3 := hG.g3.1.len
  have k3 := hG.g3.2.1
  intro bs
  refine ⟨0, _, rfl, ?_⟩
  intro br3
  refine call_con [3] (R := outL (bxF b) (mk4 B pn.data.toList salt it.toNat)) (fun β w' hs => by
    have h2 := ((hs.rowRd 0 rfl).ro 9 rfl).part1 (l := serverK) [0, 1] rfl
    exact macL_c w' b _ y3 A1 _ c1 br3 _ serverK 10 hts3 hG.g3.1.inv (by omega) (by omega) (by decide) (h2.mem.take (js := [4, 0, 10, 13, 14]) rfl)) ?_
  rintro v Fs ⟨A4, c4, y4, rfl, q9, q10, hts4, rfl⟩
  have l4 := hG.g4.1.len
  have k4 := hG.g4.2.1
  have hcs : colonS.size = 1 := rfl
  refine ⟨by show un.size + 1 ≤ maxLen; omega, by show (un ++ colonS).size + tenant.size ≤ maxLen; rw [ByteArray.size_append]; omega, by show (un ++ colonS ++ tenant).size + 1 ≤ maxLen; rw [ByteArray.size_append, ByteArray.size_append]; omega, by show (un ++ colonS ++ tenant ++ colonS).size + pn.size ≤ maxLen; rw [ByteArray.size_append, ByteArray.size_append, ByteArray.size_append]; omega, ?_⟩
  intro bh ch hch _
  intro br4
  refine call_con [3] (R := outL (bxF b) (mk5 B pn.data.toList salt it.toNat (haT un tenant pn).data.toList)) (fun β w' hs => by
    have h2 := ((hs.rowRd 0 rfl).unown 1 rfl).part1 (l := (haT un tenant pn).data.toList) [0, 1] rfl
    exact hashL_c w' b _ y4 br4 (some ⟨bh, 0, none⟩) (haT un tenant pn).data.toList ch hts4 hG.g4.1.inv (by omega) (by show (haT un tenant pn).size ≤ _; omega) (h2.mem.take (js := [4, 0, 16, 17]) rfl)) ?_
  rintro v Fs ⟨A5, c5, y5, rfl, q11, q12, hts5, rfl⟩
  intro β w' hs
  exact (hs.keepB (List.nil_sublist _)).fin [0, 4, 7, 9, 1] ⟨A0, c0, A3, c3, A4, c4, A5, c5, y5, rfl, hts5, rfl⟩ rfl rfl rfl ⟨rfl, rfl, rfl, rfl, rfl, trivial⟩
end Go.Proofs.YtkommfddfgiobaaGreatDoor.Sx

/- How many terms a box has. -/
namespace Go.Proofs.YtkommfddfgiobaaGreatDoor.Sx
open Go
attribute [local irreducible] Calls

end Go.Proofs.YtkommfddfgiobaaGreatDoor.Sx

/- Secrets made: one word for both ends; a box at its beginning; facts put in another way. -/
namespace Go.Proofs.YtkommfddfgiobaaGreatDoor.Sx
open Go
attribute [local irreducible] Calls

theorem tri_sat {cx : Cx} {c : Code} {Q : Exit → KT} {n : Nat} {env : Env} {H : List Bk} {F F' : List Fact} (hS : ∀ β w, Sat cx β n H F w → Sat cx β n H F' w) (h : Tri cx c Q n env H F') : Tri cx c Q n env H F :=
  ⟨fun β a w hi => h.run β a w ⟨hi.ag, hi.size, hi.df, hi.lte, hS β w hi.sat⟩⟩
theorem cut_size' (s : ByteArray) (k : Nat) : (s.extract 0 (min s.size k)).size ≤ k := by
  rw [ByteArray.size_extract]; omega
def box0 (sym : Bool) : Bx.Box := ⟨sym, false, []⟩
theorem box0_inv (sym : Bool) : BInv (box0 sym) := ⟨fun _ q => (by cases q), List.nodup_nil, fun _ q => (by cases q), fun _ => rfl, Nat.zero_le _⟩
/-- A fact more, that is nowhere. -/
theorem Fin.addO {w w' : World} {Gs : List Fact} {R : Value → List Fact → Prop} {v : Value} (h : Fin w Gs R v w') (f : Fact) (hp : f.p w') (hD : ∀ k, ¬ f.D k) (ho : f.own = true) : Fin w Gs (fun v Fs => ∃ Fs0, R v Fs0 ∧ Fs = f :: Fs0) v w' := by
  obtain ⟨Fs, hR, hc, hm, hown, hDs⟩ := h
  refine ⟨f :: Fs, ⟨Fs, hR, rfl⟩, hc, ⟨fun g hg => ?_, fun g hg k hk => ?_, List.pairwise_cons.2 ⟨fun g _ _ k hk => absurd hk (hD k), hm.sepf⟩⟩, ⟨ho, hown⟩, fun g hg k hk => ?_⟩
  · rcases List.mem_cons.1 hg with rfl | hg
    · exact hp
    · exact hm.fact g hg
  · rcases List.mem_cons.1 hg with rfl | hg
    · exact absurd hk (hD k)
    · exact hm.flt g hg k hk
  · rcases List.mem_cons.1 hg with rfl | hg
    · exact absurd hk (hD k)
    · exact hDs g hg k hk
abbrev nilB : Fact := browF ty_uint8 none [] 0
theorem Con.addNil {P : Program} {k : FuncId} {args : Array Value} {w : World} {Gs : List Fact} {R : Value → List Fact → Prop} (h : Con P k args w Gs R) : Con P k args w Gs (fun v Fs => ∃ Fs0, R v Fs0 ∧ Fs = nilB :: Fs0) :=
  Calls.mono h fun _ _ ⟨v, he, hf⟩ => ⟨v, he, hf.addO nilB ⟨by simp, .inl ⟨rfl, rfl⟩⟩ (fun k hk => by cases hk) rfl⟩
/-- What is made, or nothing. -/
structure MkR where
  e : Int
  salt : List UInt8
  it : Int
  stored : List UInt8
  server : List UInt8
  ha1 : List UInt8
  B : Bx.Box
noncomputable def mkR (B : Bx.Box) (tenant user pass : ByteArray) (salt : List UInt8) (it : Int) : MkR :=
  if mkErr tenant user pass salt.length it = 0 then
    ⟨0, salt, it, (mk3 B (passA pass).1.data.toList salt it.toNat).1, (mk4 B (passA pass).1.data.toList salt it.toNat).1, (mk5 B (passA pass).1.data.toList salt it.toNat (haT (nameA user).1 tenant (passA pass).1).data.toList).1, (mk5 B (passA pass).1.data.toList salt it.toNat (haT (nameA user).1 tenant (passA pass).1).data.toList).2⟩
  else ⟨mkErr tenant user pass salt.length it, [], 0, [], [], [], B⟩
def SecA.is (x : SecA) (r : MkR) : Prop := x.s0 = r.salt ∧ x.it = r.it ∧ x.s1 = r.stored ∧ x.s2 = r.server ∧ x.s3 = r.ha1
def SecA.fs (x : SecA) : List Fact := [browF ty_uint8 x.A3 x.s3 x.c3, browF ty_uint8 x.A2 x.s2 x.c2, browF ty_uint8 x.A1 x.s1 x.c1, browF ty_uint8 x.A0 x.s0 x.c0]
def makeU (F : Bx.Box → Lay → Fact) (r : MkR) (v : Value) (Fs : List Fact) : Prop :=
  ∃ (x : SecA) (y' : Lay), x.is r ∧ v = .tuple #[x.val, .int .i64 r.e] ∧ y'.ts.map (·.1) = r.B.L ∧ Fs = [browF ty_uint8 x.A3 x.s3 x.c3, browF ty_uint8 x.A2 x.s2 x.c2, browF ty_uint8 x.A1 x.s1 x.c1, browF ty_uint8 x.A0 x.s0 x.c0, F r.B y']
theorem makeU_of {P : Program} {k : FuncId} {args : Array Value} {w : World} {Gs : List Fact} {F : Bx.Box → Lay → Fact} {B : Bx.Box} {y : Lay} {tenant user pass : ByteArray} {salt : List UInt8} {it : Int} (hts : y.ts.map (·.1) = B.L) (h : Con P k args w Gs (makeOut F B y tenant user pass salt it)) : Con P k args w Gs (makeU F (mkR B tenant user pass salt it)) := by
  by_cases h0 : mkErr tenant user pass salt.length it = 0
  · refine h.mono fun v Fs k => ?_
    unfold makeOut at k
    rw [if_pos h0] at k
    obtain ⟨A0, c0, A1, c1, A2, c2, A3, c3, y', rfl, h1, rfl⟩ := k
    unfold makeU mkR
    rw [if_pos h0]
    exact ⟨⟨A0, A1, A2, A3, c0, c1, c2, c3, salt, _, _, _, it⟩, y', ⟨rfl, rfl, rfl, rfl, rfl⟩, rfl, h1, rfl⟩
  · refine (((h.addNil).addNil).addNil).addNil.mono fun v Fs k => ?_
    obtain ⟨_, ⟨_, ⟨_, ⟨_, k, rfl⟩, rfl⟩, rfl⟩, rfl⟩ := k
    unfold makeOut at k
    rw [if_neg h0] at k
    obtain ⟨rfl, rfl⟩ := k
    unfold makeU mkR
    rw [if_neg h0]
    exact ⟨⟨none, none, none, none, 0, 0, 0, 0, [], [], [], [], 0⟩, y, ⟨rfl, rfl, rfl, rfl, rfl⟩, rfl, hts, rfl⟩
end Go.Proofs.YtkommfddfgiobaaGreatDoor.Sx

/- A proof, checked by the program and by the reference. -/
namespace Go.Proofs.YtkommfddfgiobaaGreatDoor.Sx
open Go
attribute [local irreducible] Calls

theorem BInv.okN {B : Bx.Box} (hi : BInv B) : ∀ tag l m, B.opens tag = some (l, m) → OkN B l m := fun _ _ _ h => (opens_nf hi h).2.1.ok hi
theorem turnL_c (w : World) (b : Nat) (B B' : Bx.Box) (y : Lay) (A1 A2 : Option Addr) (s t h : List UInt8) (c1 c2 : Nat) (e : turnB B s t = (some h, B')) (hh : h.length = 32) (hts : y.ts.map (·.1) = B.L) (hi : BInv B)
    (hm : Mem w [bxF b B y, bsF A1 s, bsF A2 t]) (hc1 : s.length ≤ c1) (hc2 : t.length ≤ c2) (hl1 : s.length ≤ 1000000) (hl2 : t.length ≤ 1000000) :
    Con Tryz.prog n_box_Box_Turn #[ptrB b, .slice A1 s.length c1, .slice A2 t.length c2] w [bxF b B y] (strL (bxF b) (h, B')) := by
  refine (turnB_c w b B y A1 A2 s t c1 c2 hts hi.len hi.sz (fun tag l m q => (hi.okN tag l m q).1) hm hc1 hc2 hl1 hl2).mono fun v Fs k => ?_
  rw [turnOut_some e] at k
  obtain ⟨A, c, y', rfl, h1, h2, h3, rfl⟩ := k
  exact ⟨A, c, y', by show _ = Value.tuple #[.slice A h.length c, .int .i64 0]; rw [hh], by show h.length ≤ c; omega, h2, h3, rfl⟩
theorem turnN_c (w : World) (b : Nat) (B : Bx.Box) (y : Lay) (A1 A2 : Option Addr) (s t : List UInt8) (c1 c2 : Nat) (e : turnB B s t = (none, B)) (hts : y.ts.map (·.1) = B.L) (hi : BInv B)
    (hm : Mem w [bxF b B y, bsF A1 s, bsF A2 t]) (hc1 : s.length ≤ c1) (hc2 : t.length ≤ c2) (hl1 : s.length ≤ 1000000) (hl2 : t.length ≤ 1000000) :
    Con Tryz.prog n_box_Box_Turn #[ptrB b, .slice A1 s.length c1, .slice A2 t.length c2] w [bxF b B y] (fun v Fs => v = .tuple #[.slice none 0 0, .int .i64 4] ∧ Fs = [bxF b B y]) := by
  refine (turnB_c w b B y A1 A2 s t c1 c2 hts hi.len hi.sz (fun tag l m q => (hi.okN tag l m q).1) hm hc1 hc2 hl1 hl2).mono fun v Fs k => ?_
  rw [turnOut_none e] at k
  exact k
/-- Is it the proof? -/
noncomputable def chk (B : Bx.Box) (stored msg pf : List UInt8) : Int × Bx.Box :=
  if pf.length = 32 then
    match turnB (macB B stored msg).2 pf (macB B stored msg).1 with
    | (none, _) => (4, (macB B stored msg).2)
    | (some h, B') => (if (hashB B' h).1 = stored then 0 else 13, (hashB B' h).2)
  else (4, B)
def chkOut (F : Bx.Box → Lay → Fact) (r : Int × Bx.Box) (v : Value) (Fs : List Fact) : Prop := ∃ y' : Lay, v = .int .i64 r.1 ∧ y'.ts.map (·.1) = r.2.L ∧ Fs = [F r.2 y']
theorem chkOut_of {F : Bx.Box → Lay → Fact} {r : Int × Bx.Box} {e : Int} {B : Bx.Box} (h : r = (e, B)) {y : Lay} (hy : y.ts.map (·.1) = B.L) : chkOut F r (.int .i64 e) [F B y] := by
  subst h
  exact ⟨y, rfl, hy, rfl⟩
theorem chk_len {B : Bx.Box} {stored msg pf : List UInt8} (hi : BInv B) (hl : B.L.length < 4000) (hs : stored.length ≤ 1000000) (hm : msg.length ≤ 1000000) : BInv (chk B stored msg pf).2 ∧ (chk B stored msg pf).2.L.length ≤ B.L.length + 3 := by
  unfold chk
  split
  · have g1 := mac_good hi (by omega) hs hm
    have l1 := g1.1.len
    rcases turn_cases g1.1.inv (by omega) pf (macB B stored msg).1 with h | ⟨h, B', e, g2⟩
    · rw [h]
      exact ⟨g1.1.inv, by simp only; omega⟩
    · rw [e]
      have l2 := g2.1.len
      have k2 := g2.2.1
      simp only at l2 k2
      have g3 := hash_good g2.1.inv (by show B'.L.length < _; omega) (t := h) (by omega)
      have l3 := g3.1.len
      exact ⟨g3.1.inv, by simp only at l3 ⊢; omega⟩
  · exact ⟨hi, by simp only; omega⟩
end Go.Proofs.YtkommfddfgiobaaGreatDoor.Sx

/- Boxes that grow: what was made once is made again. -/
namespace Go.Proofs.YtkommfddfgiobaaGreatDoor.Sx
open Go

/-- A box that has the terms of another one, and more. -/
structure Pre (B B' : Bx.Box) : Prop where
  sym : B'.sym = B.sym
  full : B'.full = B.full
  terms : ∃ l, B'.L = B.L ++ l
theorem Pre.refl (B : Bx.Box) : Pre B B := ⟨rfl, rfl, [], by simp⟩
theorem Pre.trans {A B C : Bx.Box} (h : Pre A B) (k : Pre B C) : Pre A C := by
  obtain ⟨l, hl⟩ := h.terms
  obtain ⟨m, hm⟩ := k.terms
  exact ⟨k.sym.trans h.sym, k.full.trans h.full, l ++ m, by rw [hm, hl, List.append_assoc]⟩
theorem place_app {t : Bx.Term} : ∀ {L : List Bx.Term} {i : Nat} (l : List Bx.Term), Bx.place t L = some i → Bx.place t (L ++ l) = some i
  | x :: r, i, l, h => by
    simp only [List.cons_append, Bx.place] at h ⊢
    split
    · rename_i q; rw [if_pos q] at h; exact h
    · rename_i q
      rw [if_neg q] at h
      obtain ⟨j, hj, rfl⟩ := Option.map_eq_some_iff.1 h
      rw [place_app l hj]
      rfl
theorem place_new {t : Bx.Term} : ∀ {L : List Bx.Term}, Bx.place t L = none → Bx.place t (L ++ [t]) = some L.length
  | [], _ => by simp [Bx.place]
  | x :: r, h => by
    simp only [List.cons_append, Bx.place] at h ⊢
    split
    · rename_i q; rw [if_pos q] at h; cases h
    · rename_i q
      rw [if_neg q] at h
      have h' : Bx.place t r = none := by simpa using h
      rw [place_new h']
      simp
theorem tag_pre {B : Bx.Box} (hl : B.L.length < 4096) (t : Bx.Term) : Pre B (B.tag t).2 := by
  unfold Bx.Box.tag
  cases Bx.place t B.L with
  | some i => exact Pre.refl B
  | none =>
    simp only
    rw [if_neg (by omega)]
    exact ⟨rfl, rfl, [t], rfl⟩
theorem tag_place {B : Bx.Box} (hl : B.L.length < 4096) (t : Bx.Term) : ∃ i, Bx.place t (B.tag t).2.L = some i ∧ (B.tag t).1 = Bx.handle (i + 1) := by
  unfold Bx.Box.tag
  cases h : Bx.place t B.L with
  | some i => exact ⟨i, h, rfl⟩
  | none =>
    simp only
    rw [if_neg (by omega)]
    exact ⟨B.L.length, place_new h, rfl⟩
theorem tag_again {B B' : Bx.Box} (hl : B.L.length < 4096) (t : Bx.Term) (h : Pre (B.tag t).2 B') : B'.tag t = ((B.tag t).1, B') := by
  obtain ⟨i, h1, h2⟩ := tag_place hl t
  obtain ⟨l, hl2⟩ := h.terms
  have h3 : Bx.place t B'.L = some i := by rw [hl2]; exact place_app l h1
  rw [h2]
  unfold Bx.Box.tag
  rw [h3]
/-- A term's tag, or what a plain box tells. -/
noncomputable def opB (B : Bx.Box) (t : Bx.Term) (raw : List UInt8) : List UInt8 × Bx.Box := if B.sym then B.tag t else (raw, B)
theorem op_pre {B : Bx.Box} (hl : B.L.length < 4096) (t : Bx.Term) (raw : List UInt8) : Pre B (opB B t raw).2 := by
  unfold opB
  split
  · exact tag_pre hl t
  · exact Pre.refl B
theorem op_again {B B' : Bx.Box} (hl : B.L.length < 4096) (t : Bx.Term) (raw : List UInt8) (h : Pre (opB B t raw).2 B') : opB B' t raw = ((opB B t raw).1, B') := by
  cases hs : B.sym with
  | true =>
    have e : opB B t raw = B.tag t := by unfold opB; rw [hs]; rfl
    rw [e] at h ⊢
    have hs' : B'.sym = true := by rw [h.sym, (tag_pre hl t).sym, hs]
    unfold opB
    rw [hs', if_pos rfl]
    exact tag_again hl t h
  | false =>
    have e : opB B t raw = (raw, B) := by unfold opB; rw [hs]; rfl
    rw [e] at h ⊢
    have hs' : B'.sym = false := by rw [h.sym]; exact hs
    unfold opB
    rw [hs']
    rfl
theorem hash_pre {B : Bx.Box} (hl : B.L.length < 4096) (t : List UInt8) : Pre B (hashB B t).2 := op_pre hl _ _
theorem mac_pre {B : Bx.Box} (hl : B.L.length < 4096) (k t : List UInt8) : Pre B (macB B k t).2 := op_pre hl _ _
theorem str_pre {B : Bx.Box} (hl : B.L.length < 4096) (p s : List UInt8) (r : Nat) : Pre B (strB B p s r).2 := op_pre hl _ _
theorem hash_again {B B' : Bx.Box} (hl : B.L.length < 4096) (t : List UInt8) (h : Pre (hashB B t).2 B') : hashB B' t = ((hashB B t).1, B') := op_again hl _ _ h
theorem mac_again {B B' : Bx.Box} (hl : B.L.length < 4096) (k t : List UInt8) (h : Pre (macB B k t).2 B') : macB B' k t = ((macB B k t).1, B') := op_again hl _ _ h
theorem str_again {B B' : Bx.Box} (hl : B.L.length < 4096) (p s : List UInt8) (r : Nat) (h : Pre (strB B p s r).2 B') : strB B' p s r = ((strB B p s r).1, B') := op_again hl _ _ h
theorem canon_pre {B : Bx.Box} (hl : B.L.length < 4096) (l : List Nat) (m : List UInt8) : Pre B (canon B l m).2 := by
  unfold canon
  split
  · exact Pre.refl B
  · split
    · exact Pre.refl B
    · exact tag_pre hl _
theorem turn_pre {B B' : Bx.Box} (hl : B.L.length < 4096) {s t h : List UInt8} (e : turnB B s t = (some h, B')) : Pre B B' := by
  cases h1 : B.opens s with
  | none => rw [turnB_none1 h1] at e; cases e
  | some p =>
    cases h2 : B.opens t with
    | none => rw [turnB_none2 h2] at e; cases e
    | some q =>
      obtain ⟨l1, m1⟩ := p
      obtain ⟨l2, m2⟩ := q
      rw [turnB_canon h1 h2] at e
      obtain ⟨_, rfl⟩ := Prod.mk.inj e
      exact canon_pre hl _ _
theorem opens_app {h : List UInt8} {r : List Nat × List UInt8} : ∀ (l : List Bx.Term) {B : Bx.Box}, B.opens h = some r → ({ B with L := B.L ++ l } : Bx.Box).opens h = some r
  | [], B, e => by rw [List.append_nil]; exact e
  | t :: l, B, e => by
    have h1 := opens_app l (opens_grow (t := t) e)
    simp only [List.append_assoc, List.cons_append, List.nil_append] at h1
    exact h1
theorem Pre.opens {B B' : Bx.Box} (h : Pre B B') {t : List UInt8} {r : List Nat × List UInt8} (e : B.opens t = some r) : B'.opens t = some r := by
  obtain ⟨l, hl⟩ := h.terms
  have h1 := opens_app l e
  have e2 : B' = { B with L := B.L ++ l } := by
    obtain ⟨s, f, L⟩ := B'
    have a := h.sym
    have b := h.full
    simp only at a b hl
    subst a b hl
    rfl
  rw [e2]
  exact h1
/-- What opens alike is alike. -/
theorem opens_inj {B : Bx.Box} (hi : BInv B) {x y : List UInt8} {l : List Nat} {m : List UInt8} (h1 : B.opens x = some (l, m)) (h2 : B.opens y = some (l, m)) : x = y := by
  have a := opens_canon hi h1
  rw [opens_canon hi h2] at a
  exact (Prod.mk.inj a).1.symm
end Go.Proofs.YtkommfddfgiobaaGreatDoor.Sx

/- A proof, plainly: whoever knows the password proves it, and nobody else does. -/
namespace Go.Proofs.YtkommfddfgiobaaGreatDoor.Sx
open Go

theorem turn_back {B : Bx.Box} (hi : BInv B) {c m h : List UInt8} {l1 l2 : List Nat} {m1 m2 : List UInt8} (hc : B.opens c = some (l1, m1)) (hm : B.opens m = some (l2, m2)) (hh : B.opens h = some (mixL l1 l2, Bx.xorB m1 m2)) : turnB B c m = (some h, B) ∧ turnB B h m = (some c, B) := by
  obtain ⟨_, n1, _⟩ := opens_nf hi hc
  obtain ⟨_, n2, _⟩ := opens_nf hi hm
  have hb : mixL (mixL l1 l2) l2 = l1 := sorted_ext ((n1.mix n2).mix n2).sorted n1.sorted (fun n => by
    rw [mem_mix_iff, mem_mix_iff]
    by_cases a : n ∈ l1 <;> by_cases b : n ∈ l2 <;> simp [a, b])
  constructor
  · rw [turnB_canon hc hm, opens_canon hi hh]
  · rw [turnB_canon hh hm, hb, xor_back _ _ (n1.mask.trans n2.mask.symm), opens_canon hi hc]
/-- p is the proof of msg, for who has s; c is what only he knows who has the password. -/
structure Prf (B : Bx.Box) (s msg c m p : List UInt8) : Prop where
  h : hashB B c = (s, B)
  mc : macB B s msg = (m, B)
  o : ∃ l1 m1 l2 m2, B.opens c = some (l1, m1) ∧ B.opens m = some (l2, m2) ∧ B.opens p = some (mixL l1 l2, Bx.xorB m1 m2)
  pl : p.length = 32
theorem Prf.mono {B B' : Bx.Box} {s msg c m p : List UInt8} (hl : B.L.length < 4096) (h : Prf B s msg c m p) (k : Pre B B') : Prf B' s msg c m p := by
  obtain ⟨h1, h2, ⟨l1, m1, l2, m2, o1, o2, o3⟩, h4⟩ := h
  have e1 := hash_again hl c (B' := B') (by rw [h1]; exact k)
  have e2 := mac_again hl s msg (B' := B') (by rw [h2]; exact k)
  rw [h1] at e1
  rw [h2] at e2
  exact ⟨e1, e2, ⟨l1, m1, l2, m2, k.opens o1, k.opens o2, k.opens o3⟩, h4⟩
theorem Prf.right {B : Bx.Box} {s msg c m p : List UInt8} (hi : BInv B) (h : Prf B s msg c m p) : chk B s msg p = (0, B) := by
  obtain ⟨h1, h2, ⟨l1, m1, l2, m2, o1, o2, o3⟩, h4⟩ := h
  unfold chk
  rw [if_pos h4, h2]
  simp only
  rw [(turn_back hi o1 o2 o3).2]
  simp only
  rw [h1, if_pos rfl]
theorem hashT_inj {a b : List UInt8} (h : hashT a = hashT b) : a = b := by
  unfold hashT at h
  injection h
theorem Prf.only {B : Bx.Box} {s msg c m p q : List UInt8} (hi : BInv B) (hs : B.sym = true) (hl : B.L.length < 4000) (h : Prf B s msg c m p) (hq : (chk B s msg q).1 = 0) : q = p := by
  obtain ⟨h1, h2, ⟨l1, m1, l2, m2, o1, o2, o3⟩, h4⟩ := h
  unfold chk at hq
  split at hq
  · rw [h2] at hq
    simp only at hq
    cases hoq : B.opens q with
    | none => rw [turnB_none1 hoq] at hq; simp at hq
    | some rq =>
      obtain ⟨lq, mq⟩ := rq
      obtain ⟨d, B', e1, e2, e3, e4⟩ := turn_ext hi (by omega) hoq o2
      rw [e1] at hq
      simp only at hq
      have hd : (hashB B' d).1 = s := by
        by_cases hh : (hashB B' d).1 = s
        · exact hh
        · rw [if_neg hh] at hq; cases hq
      have hlB' := e2.len
      have hpre : Pre B B' := turn_pre (by omega) e1
      have hs' : B'.sym = true := by rw [hpre.sym, hs]
      have a1 : hashB B c = B.tag (hashT c) := by unfold hashB; rw [hs]; rfl
      have a2 : hashB B' d = B'.tag (hashT d) := by unfold hashB; rw [hs']; rfl
      obtain ⟨i, p1, p2⟩ := tag_place (B := B) (by omega) (hashT c)
      obtain ⟨j, p3, p4⟩ := tag_place (B := B') (by omega) (hashT d)
      rw [← a1, h1] at p1 p2
      rw [← a2] at p3 p4
      simp only at p1 p2
      rw [hd, p2] at p4
      have hi1 := (List.getElem?_eq_some_iff.1 (Bx.place_some p1)).1
      have hj1 := (List.getElem?_eq_some_iff.1 (Bx.place_some p3)).1
      have hl3 := (hash_good e2.inv (by omega) (t := d) (by omega)).1.len
      have hij := Bx.handle_inj (by omega) (by omega) p4
      obtain rfl : i = j := by omega
      have hpre2 : Pre B (hashB B' d).2 := hpre.trans (hash_pre (by omega) d)
      obtain ⟨l, hl2⟩ := hpre2.terms
      have p5 : Bx.place (hashT c) (hashB B' d).2.L = some i := by rw [hl2]; exact place_app l p1
      have q1 := Bx.place_some p5
      have q2 := Bx.place_some p3
      rw [q1] at q2
      obtain rfl := hashT_inj (Option.some.inj q2)
      have o1' := hpre.opens o1
      rw [e4] at o1'
      obtain ⟨rfl, rfl⟩ := Prod.mk.inj (Option.some.inj o1')
      obtain ⟨_, nq, _⟩ := opens_nf hi hoq
      obtain ⟨_, n2, _⟩ := opens_nf hi o2
      have hb : mixL (mixL lq l2) l2 = lq := sorted_ext ((nq.mix n2).mix n2).sorted nq.sorted (fun n => by
        rw [mem_mix_iff, mem_mix_iff]
        by_cases a : n ∈ lq <;> by_cases b : n ∈ l2 <;> simp [a, b])
      rw [hb, xor_back _ _ (nq.mask.trans n2.mask.symm)] at o3
      exact opens_inj hi hoq o3
  · cases hq
theorem chk_pre {B : Bx.Box} (hi : BInv B) (hl : B.L.length < 4000) {s msg q : List UInt8} (hs : s.length ≤ 1000000) (hm : msg.length ≤ 1000000) : Pre B (chk B s msg q).2 := by
  unfold chk
  split
  · have g1 := mac_good hi (by omega) hs hm
    have l1 := g1.1.len
    have p1 := mac_pre (B := B) (by omega) s msg
    rcases turn_cases g1.1.inv (by omega) q (macB B s msg).1 with h | ⟨h, B', e, g2⟩
    · rw [h]
      exact p1
    · rw [e]
      have l2 := g2.1.len
      simp only at l2
      exact (p1.trans (turn_pre (by omega) e)).trans (hash_pre (by omega) h)
  · exact Pre.refl B
/-! ### what the client tells -/
def clErr (pass : ByteArray) (n : Nat) (it : Int) : Int := if ¬ (passA pass).2 = 0 then (passA pass).2 else if saltedN n it = false then 1 else 0
noncomputable def cl5 (B : Bx.Box) (p salt : List UInt8) (it : Nat) (msg : List UInt8) : List UInt8 × Bx.Box := macB (mk4 B p salt it).2 (mk3 B p salt it).1 msg
noncomputable def cl6 (B : Bx.Box) (p salt : List UInt8) (it : Nat) (msg : List UInt8) : List UInt8 × Bx.Box :=
  match turnB (cl5 B p salt it msg).2 (mk2 B p salt it).1 (cl5 B p salt it msg).1 with
  | (some h, B') => (h, B')
  | (none, B') => ([], B')
noncomputable def cl7 (B : Bx.Box) (p salt : List UInt8) (it : Nat) (msg : List UInt8) : List UInt8 × Bx.Box := macB (cl6 B p salt it msg).2 (mk4 B p salt it).1 msg
structure ClR where
  e : Int
  p : List UInt8
  v : List UInt8
  B : Bx.Box
noncomputable def clR (B : Bx.Box) (pass : ByteArray) (salt : List UInt8) (it : Int) (msg : List UInt8) : ClR :=
  if clErr pass salt.length it = 0 then ⟨0, (cl6 B (passA pass).1.data.toList salt it.toNat msg).1, (cl7 B (passA pass).1.data.toList salt it.toNat msg).1, (cl7 B (passA pass).1.data.toList salt it.toNat msg).2⟩
  else ⟨clErr pass salt.length it, [], [], B⟩
structure ClG (B : Bx.Box) (p salt : List UInt8) (it : Nat) (msg : List UInt8) : Prop where
  g1 : GoodT B (mk1 B p salt it)
  g2 : GoodT (mk1 B p salt it).2 (mk2 B p salt it)
  g3 : GoodT (mk2 B p salt it).2 (mk3 B p salt it)
  g4 : GoodT (mk3 B p salt it).2 (mk4 B p salt it)
  g5 : GoodT (mk4 B p salt it).2 (cl5 B p salt it msg)
  t : turnB (cl5 B p salt it msg).2 (mk2 B p salt it).1 (cl5 B p salt it msg).1 = (some (cl6 B p salt it msg).1, (cl6 B p salt it msg).2)
  g6 : GoodT (cl5 B p salt it msg).2 (cl6 B p salt it msg)
  g7 : GoodT (cl6 B p salt it msg).2 (cl7 B p salt it msg)
  prf : Prf (cl7 B p salt it msg).2 (mk3 B p salt it).1 msg (mk2 B p salt it).1 (cl5 B p salt it msg).1 (cl6 B p salt it msg).1
  pre : Pre B (cl7 B p salt it msg).2
theorem cl_good {B : Bx.Box} (hi : BInv B) (hl : B.L.length < 4000) {p salt msg : List UInt8} {it : Nat} (hp : p.length ≤ 1000000) (hs : salt.length ≤ 1000000) (hm : msg.length ≤ 1000000) (hit : it ≤ 64) : ClG B p salt it msg := by
  obtain ⟨g1, g2, g3, g4, _⟩ := mk_good hi hl hp hs (t := []) (Nat.zero_le _) hit
  have l1 := g1.1.len
  have l2 := g2.1.len
  have l3 := g3.1.len
  have l4 := g4.1.len
  have k2 := g2.2.1
  have k3 := g3.2.1
  have k4 := g4.2.1
  have p1 : Pre B (mk1 B p salt it).2 := str_pre (by omega) _ _ _
  have p2 : Pre (mk1 B p salt it).2 (mk2 B p salt it).2 := mac_pre (by omega) _ _
  have p3 : Pre (mk2 B p salt it).2 (mk3 B p salt it).2 := hash_pre (by omega) _
  have p4 : Pre (mk3 B p salt it).2 (mk4 B p salt it).2 := mac_pre (by omega) _ _
  have g5 : GoodT (mk4 B p salt it).2 (cl5 B p salt it msg) := mac_good g4.1.inv (by omega) (by omega) hm
  have l5 := g5.1.len
  have p5 : Pre (mk4 B p salt it).2 (cl5 B p salt it msg).2 := mac_pre (by omega) _ _
  obtain ⟨⟨c1, d1⟩, hc⟩ := g2.2.2
  obtain ⟨⟨c2, d2⟩, hmm⟩ := g5.2.2
  have hc' := (p3.trans (p4.trans p5)).opens hc
  obtain ⟨h, B', e1, e2, e3, e4⟩ := turn_ext g5.1.inv (by omega) hc' hmm
  have e6 : cl6 B p salt it msg = (h, B') := by unfold cl6; rw [e1]
  have t : turnB (cl5 B p salt it msg).2 (mk2 B p salt it).1 (cl5 B p salt it msg).1 = (some (cl6 B p salt it msg).1, (cl6 B p salt it msg).2) := by rw [e6]; exact e1
  have g6 : GoodT (cl5 B p salt it msg).2 (cl6 B p salt it msg) := by rw [e6]; exact ⟨e2, e3, _, e4⟩
  have l6 := g6.1.len
  have p6 : Pre (cl5 B p salt it msg).2 (cl6 B p salt it msg).2 := turn_pre (by omega) t
  have g7 : GoodT (cl6 B p salt it msg).2 (cl7 B p salt it msg) := mac_good g6.1.inv (by omega) (by omega) hm
  have p7 : Pre (cl6 B p salt it msg).2 (cl7 B p salt it msg).2 := mac_pre (by omega) _ _
  have h1 := hash_again (B := (mk2 B p salt it).2) (by omega) (mk2 B p salt it).1 (B' := (cl7 B p salt it msg).2) (p4.trans (p5.trans (p6.trans p7)))
  have h2 := mac_again (B := (mk4 B p salt it).2) (by omega) (mk3 B p salt it).1 msg (B' := (cl7 B p salt it msg).2) (p6.trans p7)
  have q6 : Pre (cl5 B p salt it msg).2 (cl7 B p salt it msg).2 := p6.trans p7
  exact ⟨g1, g2, g3, g4, g5, t, g6, g7, ⟨h1, h2, ⟨c1, d1, c2, d2, q6.opens hc', q6.opens hmm, p7.opens (by rw [e6]; exact e4)⟩, g6.2.1⟩, p1.trans (p2.trans (p3.trans (p4.trans (p5.trans (p6.trans p7)))))⟩
theorem ClG.ext {B : Bx.Box} {p salt msg : List UInt8} {it : Nat} (h : ClG B p salt it msg) : (cl7 B p salt it msg).2.L.length ≤ B.L.length + 7 ∧ BInv (cl7 B p salt it msg).2 := by
  have l1 := h.g1.1.len
  have l2 := h.g2.1.len
  have l3 := h.g3.1.len
  have l4 := h.g4.1.len
  have l5 := h.g5.1.len
  have l6 := h.g6.1.len
  have l7 := h.g7.1.len
  exact ⟨by omega, h.g7.1.inv⟩
/-- In a box where the password was stretched already, all is as it was. -/
theorem mk_again {B B' : Bx.Box} {p salt t : List UInt8} {it : Nat} (hl : B.L.length < 4000) (hG : MkG B p salt it t) (h : Pre (mk4 B p salt it).2 B') : mk1 B' p salt it = ((mk1 B p salt it).1, B') ∧ mk2 B' p salt it = ((mk2 B p salt it).1, B') ∧ mk3 B' p salt it = ((mk3 B p salt it).1, B') ∧ mk4 B' p salt it = ((mk4 B p salt it).1, B') := by
  have l1 := hG.g1.1.len
  have l2 := hG.g2.1.len
  have l3 := hG.g3.1.len
  have p2 : Pre (mk1 B p salt it).2 (mk2 B p salt it).2 := mac_pre (by omega) _ _
  have p3 : Pre (mk2 B p salt it).2 (mk3 B p salt it).2 := hash_pre (by omega) _
  have p4 : Pre (mk3 B p salt it).2 (mk4 B p salt it).2 := mac_pre (by omega) _ _
  have e1 : mk1 B' p salt it = ((mk1 B p salt it).1, B') := str_again (by omega) p salt it (p2.trans (p3.trans (p4.trans h)))
  have e2 : mk2 B' p salt it = ((mk2 B p salt it).1, B') := by
    unfold mk2
    rw [e1]
    exact mac_again (B := (mk1 B p salt it).2) (by omega) _ _ (p3.trans (p4.trans h))
  have e3 : mk3 B' p salt it = ((mk3 B p salt it).1, B') := by
    unfold mk3
    rw [e2]
    exact hash_again (B := (mk2 B p salt it).2) (by omega) _ (p4.trans h)
  have e4 : mk4 B' p salt it = ((mk4 B p salt it).1, B') := by
    have : mk4 B' p salt it = macB (mk3 B' p salt it).2 (mk1 B' p salt it).1 serverK := rfl
    rw [this, e3, e1]
    exact mac_again (B := (mk3 B p salt it).2) (by omega) _ _ h
  exact ⟨e1, e2, e3, e4⟩
end Go.Proofs.YtkommfddfgiobaaGreatDoor.Sx

/- What a client tells. -/
namespace Go.Proofs.YtkommfddfgiobaaGreatDoor.Sx
open Go
attribute [local irreducible] Calls

/-- So many rounds may not be. -/
theorem strE_c (w : World) (b : Nat) (B : Bx.Box) (y : Lay) (K S : Option Addr) (p s : List UInt8) (cK cS : Nat) (r : Int) (hr : ¬ (1 ≤ r ∧ r ≤ 64)) (hts : y.ts.map (·.1) = B.L) (hL : B.L.length ≤ 4096) (hk : p.length ≤ 1000000) (hn : s.length ≤ 100000) (hm : Mem w [bxF b B y, bsF K p, bsF S s, oddF 3, firstF 0]) :
    Con Tryz.prog n_box_Box_Stretch #[ptrB b, .slice K p.length cK, .slice S s.length cS, .int .i64 r] w [bxF b B y] (fun v Fs => v = .tuple #[.slice none 0 0, .int .i64 1] ∧ Fs = [bxF b B y]) := by
  refine (strP_c w b B y K S p s cK cS r hts hL hk hn hm).mono fun v Fs h => ?_
  unfold strOut at h
  rw [if_neg hr] at h
  exact h
theorem salted_no {n : Nat} {it : Int} (h : ¬ saltedN n it = true) (h1 : 1 ≤ n) (h2 : n ≤ 32) : ¬ (1 ≤ it ∧ it ≤ 64) := by
  intro q
  apply h
  rw [saltedN_iff]
  exact decide_eq_true ⟨h1, h2, q.1, q.2⟩
def noKeys : Value := .agg #[.slice none 0 0, .slice none 0 0, .slice none 0 0]
/-- Three keys, in memory. -/
def keysOut (b : Nat) (B : Bx.Box) (y : Lay) (pass : ByteArray) (salt : List UInt8) (it : Int) (v : Value) (Fs : List Fact) : Prop :=
  if clErr pass salt.length it = 0 then
    ∃ A1 c1 A2 c2 A3 c3 y', v = .tuple #[.agg #[.slice A1 (mk2 B (passA pass).1.data.toList salt it.toNat).1.length c1, .slice A2 (mk3 B (passA pass).1.data.toList salt it.toNat).1.length c2, .slice A3 (mk4 B (passA pass).1.data.toList salt it.toNat).1.length c3], .int .i64 0] ∧
      (mk2 B (passA pass).1.data.toList salt it.toNat).1.length ≤ c1 ∧ y'.ts.map (·.1) = (mk4 B (passA pass).1.data.toList salt it.toNat).2.L ∧
      Fs = [browF ty_uint8 A3 (mk4 B (passA pass).1.data.toList salt it.toNat).1 c3, browF ty_uint8 A2 (mk3 B (passA pass).1.data.toList salt it.toNat).1 c2, browF ty_uint8 A1 (mk2 B (passA pass).1.data.toList salt it.toNat).1 c1, bxF b (mk4 B (passA pass).1.data.toList salt it.toNat).2 y']
  else v = .tuple #[noKeys, .int .i64 (clErr pass salt.length it)] ∧ Fs = [bxF b B y]
set_option maxHeartbeats 2000000 in
theorem made_c (w : World) (b : Nat) (B : Bx.Box) (y : Lay) (pass : ByteArray) (S : Option Addr) (salt : List UInt8) (cS : Nat) (it : Int) (hts : y.ts.map (·.1) = B.L) (hi : BInv B) (hL : B.L.length < 4000) (hp : pass.size ≤ 100000) (hsl : salt.length ≤ 100000)
    (hm : Mem w [bxF b B y, bsF S salt, oddF 3, firstF 0, namF]) :
    Con Tryz.prog n_proof_made #[ptrB b, .string pass, .slice S salt.length cS, .int .i64 it] w [bxF b B y] (keysOut b B y pass salt it) := by
  have g := good_proof_made w (Un [bxF b B y])
  have hml := maxLen_eq
  have hs0 : Sat (cx_proof_made w (Un [bxF b B y])) Va.z 0 [] [bxF b B y, bsF S salt, oddF 3, firstF 0, namF] w := hm.sat0 rfl (ownIn (Gs := [bxF b B y]) (fun f hf => by
    simp only [List.mem_cons, List.not_mem_nil, or_false] at hf
    rcases hf with rfl | rfl | rfl | rfl <;> rfl))
  refine con_of_sx (cx := cx_proof_made w (Un [bxF b B y])) g b_proof_made rfl rfl (β := Va.z) [.c (.v (ptrB b)), .c (.v (.string pass)), .c (.v (.slice S salt.length cS)), .c (.v (.int .i64 it))] 0 [] _ rfl rfl hs0 ?_
  have bad : ∀ {e : Int}, clErr pass salt.length it = e → ¬ e = 0 → keysOut b B y pass salt it (.tuple #[noKeys, .int .i64 e]) [bxF b B y] := by
    intro e h h0
    unfold keysOut
    rw [h, if_neg h0]
    exact ⟨rfl, rfl⟩
  obtain ⟨pn, pe, hpn⟩ : ∃ pn pe, passA pass = (pn, pe) := ⟨_, _, rfl⟩
  have hpl := passA_len pass
  rw [hpn] at hpl
  simp only at hpl
  refine call_pu (v := .tuple #[.string pn, .int .i64 pe]) (fun β w' hs => by
    have h := pass_c w' pass hp (namF_T (hs.get 4 rfl))
    rw [hpn] at h
    exact h) ?_
  refine BIf.not (BIf.dec (fun h2 => ?_) (fun h2 => ?_))
  rotate_left
  · exact fun β w' hs => (hs.keepB (List.nil_sublist _)).fin [0] (bad (by unfold clErr; rw [hpn, if_pos h2]) h2)
  obtain rfl : pe = 0 := h2
  have badS : saltedN salt.length it = false → keysOut b B y pass salt it (.tuple #[noKeys, .int .i64 1]) [bxF b B y] := fun h => bad (by unfold clErr; rw [hpn, if_neg (by simp), if_pos h]) (by decide)
  refine BIf.dec (fun h3 => ?_) (fun h3 => ?_)
  · have h30 : (salt.length : Int) < 1 := h3
    exact fun β w' hs => (hs.keepB (List.nil_sublist _)).fin [0] (badS (by rw [saltedN_iff]; exact decide_eq_false (by omega)))
  have h30 : ¬ (salt.length : Int) < 1 := h3
  refine BIf.dec (fun h4 => ?_) (fun h4 => ?_)
  · have h40 : (32 : Int) < (salt.length : Int) := h4
    exact fun β w' hs => (hs.keepB (List.nil_sublist _)).fin [0] (badS (by rw [saltedN_iff]; exact decide_eq_false (by omega)))
  have h40 : ¬ (32 : Int) < (salt.length : Int) := h4
  have hpl2 : pn.data.toList.length ≤ 64 := hpl
  intro bp cp hcp _
  cases hb2 : saltedN salt.length it with
  | false =>
    refine call_con [1] (fun β w' hs => strE_c w' b B y (some ⟨bp, 0, none⟩) S pn.data.toList salt cp cS it (salted_no (by rw [hb2]; decide) (by omega) (by omega)) hts (by omega) (by omega) (by omega) ((hs.unown 0 rfl).mem.take (js := [1, 0, 2, 3, 4]) rfl)) ?_
    rintro v Fs ⟨rfl, rfl⟩
    exact fun β w' hs => (hs.keepB (List.nil_sublist _)).fin [0] (badS hb2)
  | true =>
  obtain ⟨hit1, hit2, hs32⟩ := salted_ok hb2
  have hout : keysOut b B y pass salt it = fun v Fs => ∃ A1 c1 A2 c2 A3 c3 y', v = .tuple #[.agg #[.slice A1 (mk2 B pn.data.toList salt it.toNat).1.length c1, .slice A2 (mk3 B pn.data.toList salt it.toNat).1.length c2, .slice A3 (mk4 B pn.data.toList salt it.toNat).1.length c3], .int .i64 0] ∧
      (mk2 B pn.data.toList salt it.toNat).1.length ≤ c1 ∧ y'.ts.map (·.1) = (mk4 B pn.data.toList salt it.toNat).2.L ∧
      Fs = [browF ty_uint8 A3 (mk4 B pn.data.toList salt it.toNat).1 c3, browF ty_uint8 A2 (mk3 B pn.data.toList salt it.toNat).1 c2, browF ty_uint8 A1 (mk2 B pn.data.toList salt it.toNat).1 c1, bxF b (mk4 B pn.data.toList salt it.toNat).2 y'] := by
    funext v Fs
    unfold keysOut
    rw [if_pos (by unfold clErr; rw [hpn, if_neg (by simp), if_neg (by rw [hb2]; decide)]), hpn]
  rw [hout]
  clear hout bad badS
  have hG := mk_good hi hL (p := pn.data.toList) (salt := salt) (it := it.toNat) (t := []) (by omega) (by omega) (Nat.zero_le _) (by omega)
  refine call_con [1] (R := strL (bxF b) (mk1 B pn.data.toList salt it.toNat)) (fun β w' hs => strL_c w' b B y (some ⟨bp, 0, none⟩) S pn.data.toList salt cp cS it ⟨hit1, hit2⟩ hts hi (by omega) (by omega) (by omega) ((hs.unown 0 rfl).mem.take (js := [1, 0, 2, 3, 4]) rfl)) ?_
  rintro v Fs ⟨A1, c1, y1, rfl, q1, q2, hts1, rfl⟩
  have l1 := hG.g1.1.len
  have k1 := hG.g1.2.1
  intro bc
  refine ⟨0, _, rfl, ?_⟩
  intro br
  refine call_con [3] (R := outL (bxF b) (mk2 B pn.data.toList salt it.toNat)) (fun β w' hs => by
    have h2 := ((hs.rowRd 0 rfl).ro 2 rfl).part1 (l := clientK) [0, 1] rfl
    exact macL_c w' b _ y1 A1 _ c1 br _ clientK 10 hts1 hG.g1.1.inv (by omega) (by omega) (by decide) (h2.mem.take (js := [4, 0, 3, 7, 8]) rfl)) ?_
  rintro v Fs ⟨A2, c2, y2, rfl, q3, q4, hts2, rfl⟩
  have l2 := hG.g2.1.len
  have k2 := hG.g2.2.1
  intro br2
  refine call_con [2] (R := outL (bxF b) (mk3 B pn.data.toList salt it.toNat)) (fun β w' hs => by
    have h2 := ((hs.rowRd 0 rfl).ro 1 rfl).part1 (l := (mk2 B pn.data.toList salt it.toNat).1) [0, 1] rfl
    exact hashL_c w' b _ y2 br2 A2 _ c2 hts2 hG.g2.1.inv (by omega) (by omega) (h2.mem.take (js := [3, 0, 9, 10]) rfl)) ?_
  rintro v Fs ⟨A3, c3, y3, rfl, q7, q8, hts3, rfl⟩
  have l3 := hG.g3.1.len
  have k3 := hG.g3.2.1
  intro bs
  refine ⟨0, _, rfl, ?_⟩
  intro br3
  refine call_con [3] (R := outL (bxF b) (mk4 B pn.data.toList salt it.toNat)) (fun β w' hs => by
    have h2 := ((hs.rowRd 0 rfl).ro 8 rfl).part1 (l := serverK) [0, 1] rfl
    exact macL_c w' b _ y3 A1 _ c1 br3 _ serverK 10 hts3 hG.g3.1.inv (by omega) (by omega) (by decide) (h2.mem.take (js := [4, 0, 9, 12, 13]) rfl)) ?_
  rintro v Fs ⟨A4, c4, y4, rfl, q9, q10, hts4, rfl⟩
  intro β w' hs
  exact (hs.keepB (List.nil_sublist _)).fin [0, 4, 6, 1] ⟨A2, c2, A3, c3, A4, c4, y4, rfl, q3, hts4, rfl⟩ rfl rfl rfl ⟨rfl, rfl, rfl, rfl, trivial⟩
/-- What a client tells, in memory. -/
def clOut (F : Bx.Box → Lay → Fact) (r : ClR) (v : Value) (Fs : List Fact) : Prop :=
  ∃ A c A' c' y', v = .tuple #[.slice A r.p.length c, .slice A' r.v.length c', .int .i64 r.e] ∧ r.p.length ≤ c ∧ r.v.length ≤ c' ∧ y'.ts.map (·.1) = r.B.L ∧ Fs = [browF ty_uint8 A' r.v c', browF ty_uint8 A r.p c, F r.B y']
theorem clOut_no {F : Bx.Box → Lay → Fact} {B : Bx.Box} {y : Lay} {pass : ByteArray} {salt msg : List UInt8} {it e : Int} (hts : y.ts.map (·.1) = B.L) (h : clErr pass salt.length it = e) (h0 : ¬ e = 0) : clOut F (clR B pass salt it msg) (.tuple #[.slice none 0 0, .slice none 0 0, .int .i64 e]) [browF ty_uint8 none [] 0, browF ty_uint8 none [] 0, F B y] := by
  have e1 : clR B pass salt it msg = ⟨e, [], [], B⟩ := by unfold clR; rw [h, if_neg h0]
  rw [e1]
  exact ⟨none, 0, none, 0, y, rfl, Nat.le_refl _, Nat.le_refl _, hts, rfl⟩
set_option maxHeartbeats 2000000 in
theorem client_c (w : World) (b : Nat) (B : Bx.Box) (y : Lay) (pass : ByteArray) (S : Option Addr) (salt : List UInt8) (cS : Nat) (it : Int) (msg : ByteArray) (hts : y.ts.map (·.1) = B.L) (hi : BInv B) (hL : B.L.length < 4000) (hp : pass.size ≤ 100000) (hsl : salt.length ≤ 100000) (hmsg : msg.size ≤ 1000000)
    (hm : Mem w [bxF b B y, bsF S salt, oddF 3, firstF 0, namF]) :
    Con Tryz.prog n_proof_Client #[ptrB b, .string pass, .slice S salt.length cS, .int .i64 it, .string msg] w [bxF b B y] (clOut (bxF b) (clR B pass salt it msg.data.toList)) := by
  have g := good_proof_Client w (Un [bxF b B y])
  have hs0 : Sat (cx_proof_Client w (Un [bxF b B y])) Va.z 0 [] [bxF b B y, bsF S salt, oddF 3, firstF 0, namF] w := hm.sat0 rfl (ownIn (Gs := [bxF b B y]) (fun f hf => by
    simp only [List.mem_cons, List.not_mem_nil, or_false] at hf
    rcases hf with rfl | rfl | rfl | rfl <;> rfl))
  refine con_of_sx (cx := cx_proof_Client w (Un [bxF b B y])) g b_proof_Client rfl rfl (β := Va.z) [.c (.v (ptrB b)), .c (.v (.string pass)), .c (.v (.slice S salt.length cS)), .c (.v (.int .i64 it)), .c (.v (.string msg))] 0 [] _ rfl rfl hs0 ?_
  refine call_con [0] (R := keysOut b B y pass salt it) (fun β w' hs => made_c w' b B y pass S salt cS it hts hi hL hp hsl (hs.mem.take (js := [0, 1, 2, 3, 4]) rfl)) ?_
  by_cases h0 : clErr pass salt.length it = 0
  · rintro v Fs h
    unfold keysOut at h
    rw [if_pos h0] at h
    have hsalt : saltedN salt.length it = true := by
      cases hb : saltedN salt.length it with
      | true => rfl
      | false =>
        unfold clErr at h0
        rw [hb] at h0
        simp only [if_true] at h0
        split at h0
        · rename_i h1; exact absurd h0 h1
        · cases h0
    obtain ⟨hit1, hit2, _⟩ := salted_ok hsalt
    have hpl := passA_len pass
    have hG := cl_good hi hL (p := (passA pass).1.data.toList) (salt := salt) (it := it.toNat) (msg := msg.data.toList) (by show (passA pass).1.size ≤ _; omega) (by omega) hmsg (by omega)
    have hout : clR B pass salt it msg.data.toList = ⟨0, (cl6 B (passA pass).1.data.toList salt it.toNat msg.data.toList).1, (cl7 B (passA pass).1.data.toList salt it.toNat msg.data.toList).1, (cl7 B (passA pass).1.data.toList salt it.toNat msg.data.toList).2⟩ := by unfold clR; rw [if_pos h0]
    rw [hout]
    generalize (passA pass).1.data.toList = pn at *
    obtain ⟨A1, c1, A2, c2, A3, c3, y4, rfl, q1, hts4, rfl⟩ := h
    have l1 := hG.g1.1.len
    have l2 := hG.g2.1.len
    have l3 := hG.g3.1.len
    have l4 := hG.g4.1.len
    have l5 := hG.g5.1.len
    have l6 := hG.g6.1.len
    have k2 := hG.g2.2.1
    have k3 := hG.g3.2.1
    have k4 := hG.g4.2.1
    have k5 := hG.g5.2.1
    have hS : ∀ {n : Nat} {F : List Fact}, Sub (cx_proof_Client w (Un [bxF b B y])) n [⟨0, ty_proof_keys, [.v (.slice A1 (mk2 B pn salt it.toNat).1.length c1), .v (.slice A2 (mk3 B pn salt it.toNat).1.length c2), .v (.slice A3 (mk4 B pn salt it.toNat).1.length c3)]⟩] F [⟨0, ty_proof_keys, [.v (.slice A1 (mk2 B pn salt it.toNat).1.length c1), .v (.slice A2 (mk3 B pn salt it.toNat).1.length c2), .v (.slice A3 (mk4 B pn salt it.toNat).1.length c3)]⟩] [] := fun {n F} => Sub.of (List.Sublist.refl _) (List.nil_sublist _)
    refine draw_rule g p_proof_Client_4 (by kernel_rfl) [⟨0, ty_proof_keys, [.v (.slice A1 (mk2 B pn salt it.toNat).1.length c1), .v (.slice A2 (mk3 B pn salt it.toNat).1.length c2), .v (.slice A3 (mk4 B pn salt it.toNat).1.length c3)]⟩] [] hS ?_
    intro bm cm hcm _
    refine ⟨hS, ?_⟩
    intro br
    refine ⟨hS, ?_⟩
    refine call_con [5] (R := outL (bxF b) (cl5 B pn salt it.toNat msg.data.toList)) (fun β w' hs => by
      have h2 := (((hs.rowRd 0 rfl).unown 1 rfl).ro 3 rfl).part1 (l := msg.data.toList) [0, 1] rfl
      exact macL_c w' b _ y4 A2 _ c2 br (some ⟨bm, 0, none⟩) msg.data.toList cm hts4 hG.g4.1.inv (by omega) (by omega) hmsg (h2.mem.take (js := [6, 0, 4, 8, 9]) rfl)) ?_
    rintro v Fs ⟨A5, c5, y5, rfl, q5, q6, hts5, rfl⟩
    refine ⟨hS, ?_⟩
    refine call_con [1] (R := strL (bxF b) (cl6 B pn salt it.toNat msg.data.toList)) (fun β w' hs => turnL_c w' b _ _ y5 A1 A5 _ _ _ c1 c5 hG.t hG.g6.2.1 hts5 hG.g5.1.inv (((hs.ro 0 rfl).ro 6 rfl).mem.take (js := [1, 6, 0]) rfl) q1 q5 (by omega) (by omega)) ?_
    rintro v Fs ⟨A6, c6, y6, rfl, q7, q8, hts6, rfl⟩
    refine ⟨hS, ?_⟩
    intro bm2 cm2 hcm2 _
    intro br2
    refine call_con [3] (R := outL (bxF b) (cl7 B pn salt it.toNat msg.data.toList)) (fun β w' hs => by
      have h2 := (((hs.rowRd 0 rfl).unown 1 rfl).ro 7 rfl).part1 (l := msg.data.toList) [0, 1] rfl
      exact macL_c w' b _ y6 A3 _ c3 br2 (some ⟨bm2, 0, none⟩) msg.data.toList cm2 hts6 hG.g6.1.inv (by omega) (by omega) hmsg (h2.mem.take (js := [4, 0, 8, 12, 13]) rfl)) ?_
    rintro v Fs ⟨A7, c7, y7, rfl, q9, q10, hts7, rfl⟩
    intro β w' hs
    exact (hs.keepB (List.nil_sublist _)).fin [0, 4, 1] ⟨A6, c6, A7, c7, y7, rfl, q7, q9, hts7, rfl⟩ rfl rfl rfl ⟨rfl, rfl, rfl, trivial⟩
  · rintro v Fs h
    unfold keysOut at h
    rw [if_neg h0] at h
    obtain ⟨rfl, rfl⟩ := h
    obtain ⟨e, he⟩ : ∃ e, clErr pass salt.length it = e := ⟨_, rfl⟩
    rw [he]
    rw [he] at h0
    refine BIf.not (BIf.dec (fun h2 => absurd h2 h0) (fun _ => ?_))
    intro β w' hs
    exact (((hs.keepB (List.nil_sublist _)).nilRow ty_uint8 1).nilRow ty_uint8 1).fin [0, 1, 2] (clOut_no hts he h0) rfl rfl rfl ⟨rfl, rfl, rfl, trivial⟩
end Go.Proofs.YtkommfddfgiobaaGreatDoor.Sx

/- What is made, what is told: together. -/
namespace Go.Proofs.YtkommfddfgiobaaGreatDoor.Sx
open Go

theorem mkErr_cl {t u p : ByteArray} {n : Nat} {it : Int} (h : mkErr t u p n it = 0) : clErr p n it = 0 := by
  unfold mkErr at h
  split at h
  · exact absurd h (by decide)
  · split at h
    · rename_i h1; exact absurd h h1
    · exact h
theorem clErr_it {p : ByteArray} {n : Nat} {it : Int} (h : clErr p n it = 0) : it.toNat ≤ 64 := by
  have hb : saltedN n it = true := by
    cases hb : saltedN n it with
    | true => rfl
    | false =>
      unfold clErr at h
      rw [hb] at h
      simp only [if_true] at h
      split at h
      · rename_i h1; exact absurd h h1
      · cases h
  obtain ⟨h1, h2, _⟩ := salted_ok hb
  omega
theorem mk_good' {B : Bx.Box} (hi : BInv B) (hl : B.L.length < 4000) {t u p : ByteArray} {salt : List UInt8} {it : Int} (ht : t.size ≤ 100000) (hs : salt.length ≤ 100000) (h0 : mkErr t u p salt.length it = 0) :
    MkG B (passA p).1.data.toList salt it.toNat (haT (nameA u).1 t (passA p).1).data.toList := by
  have a1 := passA_len p
  have a2 := nameA_len u
  have a3 := haT_size (nameA u).1 t (passA p).1
  exact mk_good hi hl (by show (passA p).1.size ≤ _; omega) (by omega) (by show (haT (nameA u).1 t (passA p).1).size ≤ _; omega) (clErr_it (mkErr_cl h0))
structure MkOk (B : Bx.Box) (r : MkR) : Prop where
  inv : BInv r.B
  len : r.B.L.length ≤ B.L.length + 5
  sym : r.B.sym = B.sym
  l1 : r.stored.length ≤ 32
  l2 : r.server.length ≤ 32
theorem mkR_ok {B : Bx.Box} (hi : BInv B) (hl : B.L.length < 4000) {t u p : ByteArray} {salt : List UInt8} {it : Int} (ht : t.size ≤ 100000) (hs : salt.length ≤ 100000) : MkOk B (mkR B t u p salt it) := by
  by_cases h0 : mkErr t u p salt.length it = 0
  · have hG := mk_good' hi hl ht hs h0
    obtain ⟨e1, e2, e3⟩ := hG.ext
    unfold mkR
    rw [if_pos h0]
    exact ⟨e2, e1, e3, by show List.length _ ≤ 32; rw [hG.g3.2.1]; exact Nat.le_refl _, by show List.length _ ≤ 32; rw [hG.g4.2.1]; exact Nat.le_refl _⟩
  · unfold mkR
    rw [if_neg h0]
    exact ⟨hi, Nat.le_add_right _ _, rfl, Nat.zero_le _, Nat.zero_le _⟩
structure ClOk (B : Bx.Box) (r : ClR) : Prop where
  inv : BInv r.B
  len : r.B.L.length ≤ B.L.length + 7
  pre : Pre B r.B
  l1 : r.p.length ≤ 32
  l2 : r.v.length ≤ 32
theorem cl_good' {B : Bx.Box} (hi : BInv B) (hl : B.L.length < 4000) {p : ByteArray} {salt msg : List UInt8} {it : Int} (hs : salt.length ≤ 100000) (hm : msg.length ≤ 1000000) (h0 : clErr p salt.length it = 0) : ClG B (passA p).1.data.toList salt it.toNat msg := by
  have a1 := passA_len p
  exact cl_good hi hl (by show (passA p).1.size ≤ _; omega) (by omega) hm (clErr_it h0)
theorem clR_ok {B : Bx.Box} (hi : BInv B) (hl : B.L.length < 4000) {p : ByteArray} {salt msg : List UInt8} {it : Int} (hs : salt.length ≤ 100000) (hm : msg.length ≤ 1000000) : ClOk B (clR B p salt it msg) := by
  by_cases h0 : clErr p salt.length it = 0
  · have hG := cl_good' hi hl hs hm h0
    obtain ⟨e1, e2⟩ := hG.ext
    unfold clR
    rw [if_pos h0]
    exact ⟨e2, e1, hG.pre, by show List.length _ ≤ 32; rw [hG.g6.2.1]; exact Nat.le_refl _, by show List.length _ ≤ 32; rw [hG.g7.2.1]; exact Nat.le_refl _⟩
  · unfold clR
    rw [if_neg h0]
    exact ⟨hi, Nat.le_add_right _ _, Pre.refl _, Nat.zero_le _, Nat.zero_le _⟩
theorem mkR_e {B : Bx.Box} {t u p : ByteArray} {salt : List UInt8} {it : Int} (h : (mkR B t u p salt it).e = 0) : mkErr t u p salt.length it = 0 := by
  by_cases h0 : mkErr t u p salt.length it = 0
  · exact h0
  · unfold mkR at h
    rw [if_neg h0] at h
    exact absurd h h0
/-- Who has the password proves it to who has the secret. -/
theorem mk_cl {B : Bx.Box} (hi : BInv B) (hl : B.L.length < 3000) {t u p : ByteArray} {salt msg : List UInt8} {it : Int} (ht : t.size ≤ 100000) (hs : salt.length ≤ 100000) (hm : msg.length ≤ 1000000) (h : (mkR B t u p salt it).e = 0) :
    (∃ c m, Prf (clR (mkR B t u p salt it).B p salt it msg).B (mkR B t u p salt it).stored msg c m (clR (mkR B t u p salt it).B p salt it msg).p) ∧ (clR (mkR B t u p salt it).B p salt it msg).e = 0 ∧
      macB (clR (mkR B t u p salt it).B p salt it msg).B (mkR B t u p salt it).server msg = ((clR (mkR B t u p salt it).B p salt it msg).v, (clR (mkR B t u p salt it).B p salt it msg).B) := by
  have h0 := mkR_e h
  have hc := mkErr_cl h0
  have hG := mk_good' hi (by omega) ht hs h0
  obtain ⟨e1, e2, _⟩ := hG.ext
  have l1 := hG.g1.1.len
  have l2 := hG.g2.1.len
  have l3 := hG.g3.1.len
  have l4 := hG.g4.1.len
  unfold mkR
  rw [if_pos h0]
  simp only
  obtain ⟨B1, hB1⟩ : ∃ B1, (mk5 B (passA p).1.data.toList salt it.toNat (haT (nameA u).1 t (passA p).1).data.toList).2 = B1 := ⟨_, rfl⟩
  rw [hB1] at e1 e2 ⊢
  have hpre : Pre (mk4 B (passA p).1.data.toList salt it.toNat).2 B1 := by
    rw [← hB1]
    exact hash_pre (by omega) _
  obtain ⟨_, _, m3, m4⟩ := mk_again (by omega) hG hpre
  have hC := cl_good' (B := B1) (msg := msg) e2 (by omega) hs hm hc
  obtain ⟨f1, f2⟩ := hC.ext
  have k6 : (cl6 B1 (passA p).1.data.toList salt it.toNat msg).2.L.length < 4096 := by
    have a1 := hC.g1.1.len
    have a2 := hC.g2.1.len
    have a3 := hC.g3.1.len
    have a4 := hC.g4.1.len
    have a5 := hC.g5.1.len
    have a6 := hC.g6.1.len
    omega
  unfold clR
  rw [if_pos hc]
  simp only
  have q0 := hC.prf
  rw [m3] at q0
  refine ⟨⟨_, _, q0⟩, trivial, ?_⟩
  have q : cl7 B1 (passA p).1.data.toList salt it.toNat msg = macB (cl6 B1 (passA p).1.data.toList salt it.toNat msg).2 (mk4 B1 (passA p).1.data.toList salt it.toNat).1 msg := rfl
  rw [m4] at q
  simp only at q
  rw [q]
  exact mac_again k6 _ _ (Pre.refl _)
end Go.Proofs.YtkommfddfgiobaaGreatDoor.Sx

/- A proof, checked by the program and by the reference: the walks. -/
namespace Go.Proofs.YtkommfddfgiobaaGreatDoor.Sx
open Go
attribute [local irreducible] Calls

set_option maxHeartbeats 2000000 in
theorem check_c (w : World) (b : Nat) (B : Bx.Box) (y : Lay) (x : SecA) (msg : ByteArray) (P : Option Addr) (pf : List UInt8) (cP : Nat) (hts : y.ts.map (·.1) = B.L) (hi : BInv B) (hL : B.L.length < 4000) (hx : x.s1.length ≤ 1000000) (hmsg : msg.size ≤ 1000000) (hcP : pf.length ≤ cP) (hpf : pf.length ≤ 1000000)
    (hm : Mem w [bxF b B y, bsF x.A1 x.s1, bsF P pf, oddF 3, firstF 0]) :
    Con Tryz.prog n_proof_Check #[ptrB b, x.val, .string msg, .slice P pf.length cP] w [bxF b B y] (chkOut (bxF b) (chk B x.s1 msg.data.toList pf)) := by
  have g := good_proof_Check w (Un [bxF b B y])
  have hs0 : Sat (cx_proof_Check w (Un [bxF b B y])) Va.z 0 [] [bxF b B y, bsF x.A1 x.s1, bsF P pf, oddF 3, firstF 0] w := hm.sat0 rfl (ownIn (Gs := [bxF b B y]) (fun f hf => by
    simp only [List.mem_cons, List.not_mem_nil, or_false] at hf
    rcases hf with rfl | rfl | rfl | rfl <;> rfl))
  refine con_of_sx (cx := cx_proof_Check w (Un [bxF b B y])) g b_proof_Check rfl rfl (β := Va.z) [.c (.v (ptrB b)), .agg x.cells, .c (.v (.string msg)), .c (.v (.slice P pf.length cP))] 0 [] _ rfl rfl hs0 ?_
  obtain ⟨r, hr⟩ : ∃ r, chk B x.s1 msg.data.toList pf = r := ⟨_, rfl⟩
  rw [hr]
  unfold chk at hr
  refine BIf.not (BIf.dec (fun h32 => ?_) (fun h32 => ?_))
  rotate_left
  · have h320 : ¬ (pf.length : Int) = 32 := h32
    rw [if_neg (by omega)] at hr
    exact fun β w' hs => (hs.keepB (List.nil_sublist _)).fin [0] (chkOut_of hr.symm hts)
  have h320 : (pf.length : Int) = 32 := h32
  rw [if_pos (by omega)] at hr
  have g1 := mac_good hi (by omega) hx (t := msg.data.toList) hmsg
  have l1 := g1.1.len
  have k1 := g1.2.1
  have htc := turn_cases g1.1.inv (by omega) pf (macB B x.s1 msg.data.toList).1
  intro bm cm hcm _
  intro br
  refine call_con [2] (R := outL (bxF b) (macB B x.s1 msg.data.toList)) (fun β w' hs => by
    have h2 := ((hs.rowRd 0 rfl).unown 1 rfl).part1 (l := msg.data.toList) [0, 1] rfl
    exact macL_c w' b B y x.A1 x.s1 x.c1 br (some ⟨bm, 0, none⟩) msg.data.toList cm hts hi (by omega) hx hmsg (h2.mem.take (js := [3, 0, 4, 6, 7]) rfl)) ?_
  generalize macB B x.s1 msg.data.toList = m at *
  obtain ⟨t, B1⟩ := m
  simp only at *
  rintro v Fs ⟨A1, c1, y1, rfl, q1, q2, hts1, rfl⟩
  simp only at hts1
  rcases htc with ht | ⟨h, B2, ht, g2⟩
  · rw [ht] at hr
    simp only at hr
    refine call_con [1] (fun β w' hs => turnN_c w' b B1 y1 P A1 pf t cP c1 ht hts1 g1.1.inv ((hs.ro 0 rfl).mem.take (js := [1, 5, 0]) rfl) hcP q1 (by omega) (by omega)) ?_
    rintro v Fs ⟨rfl, rfl⟩
    exact fun β w' hs => (hs.keepB (List.nil_sublist _)).fin [0] (chkOut_of hr.symm hts1)
  · rw [ht] at hr
    simp only at hr
    have l2 := g2.1.len
    have k2 := g2.2.1
    simp only at l2 k2
    have g3 := hash_good g2.1.inv (by show B2.L.length < _; omega) (t := h) (by omega)
    have l3 := g3.1.len
    have k3 := g3.2.1
    refine call_con [1] (fun β w' hs => turnL_c w' b B1 B2 y1 P A1 pf t h cP c1 ht k2 hts1 g1.1.inv ((hs.ro 0 rfl).mem.take (js := [1, 5, 0]) rfl) hcP q1 (by omega) (by omega)) ?_
    rintro v Fs ⟨A2, c2, y2, rfl, q3, q4, hts2, rfl⟩
    simp only at hts2
    have hS : ∀ {n : Nat} {F : List Fact}, Sub (cx_proof_Check w (Un [bxF b B y])) n [⟨0, ty_cred_Secret, x.cells⟩] F [⟨0, ty_cred_Secret, x.cells⟩] [] := fun {n F} => Sub.of (List.Sublist.refl _) (List.nil_sublist _)
    refine draw_rule g p_proof_Check_8 (by kernel_rfl) [⟨0, ty_cred_Secret, x.cells⟩] [] hS ?_
    intro br2
    refine ⟨hS, ?_⟩
    refine call_con [2] (R := outL (bxF b) (hashB B2 h)) (fun β w' hs => by
      have h2 := ((hs.rowRd 0 rfl).ro 1 rfl).part1 (l := h) [0, 1] rfl
      exact hashL_c w' b B2 y2 br2 A2 h c2 hts2 g2.1.inv (by show B2.L.length < _; omega) (by omega) (h2.mem.take (js := [3, 0, 9, 10]) rfl)) ?_
    generalize hashB B2 h = q at *
    obtain ⟨u, B3⟩ := q
    simp only at *
    rintro v Fs ⟨A3, c3, y3, rfl, q5, q6, hts3, rfl⟩
    simp only at hts3
    refine ⟨hS, ?_⟩
    obtain ⟨be, hbe⟩ : ∃ be, decide (u = x.s1) = be := ⟨_, rfl⟩
    refine call_pu (v := .bool be) (fun β w' hs => by rw [← hbe]; exact equal_c w' A3 x.A1 u x.s1 c3 x.c1 (row_rd (hs.get 0 rfl)) (hs.get 7 rfl) (by omega)) ?_
    refine ⟨hS, ?_⟩
    cases be with
    | true =>
      rw [if_pos (of_decide_eq_true hbe)] at hr
      exact fun β w' hs => (hs.keepB (List.nil_sublist _)).fin [1] (chkOut_of hr.symm hts3)
    | false =>
      rw [if_neg (of_decide_eq_false hbe)] at hr
      exact fun β w' hs => (hs.keepB (List.nil_sublist _)).fin [1] (chkOut_of hr.symm hts3)
end Go.Proofs.YtkommfddfgiobaaGreatDoor.Sx

/- Texts joined by colons, as bytes. -/
namespace Go.Proofs.YtkommfddfgiobaaGreatDoor.Sx
open Go Sha
attribute [local irreducible] Calls

theorem joined_c (w : World) (b c : Nat) (xs : List ByteArray) (hP : Rd 1 (some ⟨b, 0, none⟩) xs.length (xs.map Value.string) w) (hb : b < w.heap.size) (hN : xs.length ≤ 1000) (hcap : xs.length ≤ c) (hlen : (joinB xs ⟨#[58]⟩).size ≤ 140737488355328) :
    Con Tryz.prog n_proof_joined #[.slice (some ⟨b, 0, none⟩) xs.length c] w [] fun v Fs => ∃ A c', v = .slice A (joinB xs ⟨#[58]⟩).size c' ∧ Fs = [rdoF 1 A (joinB xs ⟨#[58]⟩).size ((bl_ (joinB xs ⟨#[58]⟩)).map byte)] := by
  have hl : (Lib.join (xs.map (·.data.toList)) [58]).length ≤ 140737488355328 := hlen
  refine con_of_sx (cx := cx_proof_joined w (Un [])) (good_proof_joined w (Un [])) b_proof_joined rfl rfl (β := Va.z) [.c (.v (.slice (some ⟨b, 0, none⟩) xs.length c))] 0 [] [oldF w] rfl rfl (old_sat rfl) ?_
  refine call_pu (fun β w' hs => join_c w' b c xs ⟨#[58]⟩ (hP.old (hs.get 0 rfl)) (Nat.lt_of_lt_of_le hb hs.chg.size) hN hcap hl) ?_
  intro b2 c2 h1 h2
  intro β w' hs
  exact hs.fin [0] ⟨_, c2, rfl, rfl⟩
end Go.Proofs.YtkommfddfgiobaaGreatDoor.Sx

/- What answers a challenge, by a plain box. -/
namespace Go.Proofs.YtkommfddfgiobaaGreatDoor.Sx
open Go Sha
attribute [local irreducible] Calls

theorem bk_old {W w : World} {b ty : Nat} {cs : List Value} (h : (bkF b ty cs).p W) (ho : (oldF W).p w) : (bkF b ty cs).p w :=
  (ho b (Array.getElem?_eq_some_iff.1 (show W.heap[b]? = some _ from h)).1).trans h
theorem count_c (w : World) (n : Nat) (hn : n < 4294967296) : Pu Tryz.prog n_digest_Count #[.int .u32 n] w (.string ⟨(hexB (Bx.be4 n)).toArray⟩) := by
  have g := good_digest_Count w (Un [])
  refine con_of_sx (cx := cx_digest_Count w (Un [])) g b_digest_Count rfl rfl (β := Va.z) [.c (.v (.int .u32 n))] 0 [] [] rfl rfl (Sat.start rfl) ?_
  refine ⟨by decide, _, shr_nat n 24, _, wrap_u8b _, by decide, _, shr_nat n 16, _, wrap_u8b _, by decide, _, shr_nat n 8, _, wrap_u8b _, _, wrap_u8b _, ?_⟩
  intro b
  refine call_pu (fun β w' hs => hex_c w' (some ⟨b, 0, none⟩) (Bx.be4 n) 4 (row_rd (hs.get 0 rfl)) (by intro q; cases q) (by show 4 ≤ 1000000; decide)) ?_
  intro β w' hs
  exact hs.fin [] ⟨rfl, rfl⟩

def colon : ByteArray := ⟨#[58]⟩
/-- A plain box's hash of texts, with colons between. -/
theorem ha1_c (w : World) (b : Nat) (full : Bool) (L m : Value) (x y z : ByteArray) (hb : (boxF b false full L m).p w) (hs1 : (joinB [x, y, z] colon).size ≤ 100000) (h1 : (oddF 3).p w) (h0 : (firstF 0).p w) :
    Con Tryz.prog n_proof_HA1 #[.pointer (some ⟨b, 0, none⟩), .string x, .string y, .string z] w [] fun v Fs => ∃ A c, v = .slice A 32 c ∧ 32 ≤ c ∧ c ≤ maxLen ∧ Fs = [browF ty_uint8 A (Sha.sum (bl_ (joinB [x, y, z] colon))) c] := by
  have g := good_proof_HA1 w (Un [])
  refine con_of_sx (cx := cx_proof_HA1 w (Un [])) g b_proof_HA1 rfl rfl (β := Va.z) [.c (.v (.pointer (some ⟨b, 0, none⟩))), .c (.v (.string x)), .c (.v (.string y)), .c (.v (.string z))] 0 [] [oldF w] rfl rfl (old_sat rfl) ?_
  intro b1
  refine call_con [] (fun β w' hs => joined_c w' b1 3 [x, y, z] (row_rd (hs.get 0 rfl)) (hs.getLt 0 rfl b1 rfl) (by show 3 ≤ 1000; decide) (Nat.le_refl 3) (Nat.le_trans hs1 (by decide))) ?_
  rintro v Fs ⟨A, c, rfl, rfl⟩
  intro b2
  refine call_con [] (fun β w' hs => hash1_c w' b full L m (some ⟨b2, 0, none⟩) A 1 c (bl_ (joinB [x, y, z] colon)) (bk_old hb (hs.get 3 rfl)) (row_rd (hs.get 0 rfl)) (hs.get 1 rfl) (Nat.le_trans hs1 (by decide)) (Rd.old h1 (hs.get 3 rfl)) (Rd.old h0 (hs.get 3 rfl))) ?_
  rintro v Fs ⟨A3, c3, rfl, q1, q2, rfl⟩
  intro β w' hs
  exact hs.fin [0] ⟨A3, c3, rfl, q1, q2, rfl⟩
end Go.Proofs.YtkommfddfgiobaaGreatDoor.Sx

/- What answers a challenge, by a plain box: the whole. -/
namespace Go.Proofs.YtkommfddfgiobaaGreatDoor.Sx
open Go Sha
attribute [local irreducible] Calls

/-- An answer's eight parts. -/
structure AnsA where
  user : ByteArray
  realm : ByteArray
  nonce : ByteArray
  uri : ByteArray
  cnonce : ByteArray
  opaq : ByteArray
  nc : Nat
  proof : Value
def AnsA.cells (a : AnsA) : List Value := [.string a.user, .string a.realm, .string a.nonce, .string a.uri, .string a.cnonce, .string a.opaq, .int .u32 a.nc, a.proof]
def AnsA.sls (a : AnsA) : List SL := [.v (.string a.user), .v (.string a.realm), .v (.string a.nonce), .v (.string a.uri), .v (.string a.cnonce), .v (.string a.opaq), .v (.int .u32 a.nc), .v a.proof]
def hexS (l : List UInt8) : ByteArray := ⟨(hexB l).toArray⟩
def auth : ByteArray := ⟨#[97, 117, 116, 104]⟩
def ha2S (method : ByteArray) (a : AnsA) : List UInt8 := Sha.sum (bl_ (joinB [method, a.uri] colon))
def respL (ha1 : List UInt8) (method : ByteArray) (a : AnsA) : List ByteArray := [hexS ha1, a.nonce, hexS (Bx.be4 a.nc), a.cnonce, auth, hexS (ha2S method a)]
def respT (ha1 : List UInt8) (method : ByteArray) (a : AnsA) : ByteArray := joinB (respL ha1 method a) colon
theorem response_c (w : World) (b : Nat) (full : Bool) (L m : Value) (A : Option Addr) (ha1 : List UInt8) (c : Nat) (method : ByteArray) (a : AnsA) (hb : (boxF b false full L m).p w) (hr : Bs w A ha1) (hl : ha1.length = 32) (hn : a.nc < 4294967296)
    (hs1 : (joinB [method, a.uri] colon).size ≤ 100000) (hs2 : (respT ha1 method a).size ≤ 100000) (h1 : (oddF 3).p w) (h0 : (firstF 0).p w) :
    Con Tryz.prog n_proof_Response #[.pointer (some ⟨b, 0, none⟩), .slice A ha1.length c, .string method, .agg a.cells.toArray] w [] fun v Fs => ∃ A c, v = .slice A 32 c ∧ 32 ≤ c ∧ c ≤ maxLen ∧ Fs = [browF ty_uint8 A (Sha.sum (bl_ (respT ha1 method a))) c] := by
  have g := good_proof_Response w (Un [])
  refine con_of_sx (cx := cx_proof_Response w (Un [])) g b_proof_Response rfl rfl (β := Va.z) [.c (.v (.pointer (some ⟨b, 0, none⟩))), .c (.v (.slice A ha1.length c)), .c (.v (.string method)), .agg a.sls] 0 [] [oldF w] rfl rfl (old_sat rfl) ?_
  intro b1
  refine call_con [] (fun β w' hs => joined_c w' b1 2 [method, a.uri] (row_rd (hs.get 0 rfl)) (hs.getLt 0 rfl b1 rfl) (by show 2 ≤ 1000; decide) (Nat.le_refl 2) (Nat.le_trans hs1 (by decide))) ?_
  rintro v Fs ⟨A1, c1, rfl, rfl⟩
  intro b2
  refine call_con [] (fun β w' hs => hash1_c w' b full L m (some ⟨b2, 0, none⟩) A1 1 c1 (bl_ (joinB [method, a.uri] colon)) (bk_old hb (hs.get 3 rfl)) (row_rd (hs.get 0 rfl)) (hs.get 1 rfl) (Nat.le_trans hs1 (by decide)) (Rd.old h1 (hs.get 3 rfl)) (Rd.old h0 (hs.get 3 rfl))) ?_
  rintro v Fs ⟨A3, c3, rfl, q1, q2, rfl⟩
  have hS : ∀ {n : Nat} {F : List Fact}, Sub (cx_proof_Response w (Un [])) n [⟨0, ty_digest_Answer, a.sls⟩] F [⟨0, ty_digest_Answer, a.sls⟩] [] := fun {n F} => Sub.of (List.Sublist.refl _) (List.nil_sublist _)
  refine draw_rule g p_proof_Response_2 (by kernel_rfl) [⟨0, ty_digest_Answer, a.sls⟩] [] hS ?_
  have hne1 : ha1 ≠ [] := by intro q; rw [q] at hl; cases hl
  refine call_pu (fun β w' hs => hex_c w' A ha1 c (hr.old (hs.get 4 rfl)) hne1 (by omega)) ?_
  refine ⟨hS, ?_⟩
  refine call_pu (fun β w' hs => count_c w' a.nc hn) ?_
  refine ⟨hS, ?_⟩
  refine call_pu (fun β w' hs => hex_c w' A3 (ha2S method a) c3 (row_rd (hs.get 0 rfl)) (by intro q; have := congrArg List.length q; rw [ha2S, Sha.sum_len] at this; cases this) (by rw [ha2S, Sha.sum_len]; decide)) ?_
  refine ⟨hS, ?_⟩
  intro b3
  refine ⟨hS, ?_⟩
  refine call_con [] (fun β w' hs => joined_c w' b3 6 (respL ha1 method a) (row_rd (hs.get 0 rfl)) (hs.getLt 0 rfl b3 rfl) (by show 6 ≤ 1000; decide) (Nat.le_refl 6) (Nat.le_trans hs2 (by decide))) ?_
  rintro v Fs ⟨A4, c4, rfl, rfl⟩
  refine ⟨hS, ?_⟩
  intro b4
  refine ⟨hS, ?_⟩
  refine call_con [] (fun β w' hs => hash1_c w' b full L m (some ⟨b4, 0, none⟩) A4 1 c4 (bl_ (respT ha1 method a)) (bk_old hb (hs.get 7 rfl)) (row_rd (hs.get 0 rfl)) (hs.get 1 rfl) (Nat.le_trans hs2 (by decide)) (Rd.old h1 (hs.get 7 rfl)) (Rd.old h0 (hs.get 7 rfl))) ?_
  rintro v Fs ⟨A5, c5, rfl, q3, q4, rfl⟩
  refine ⟨hS, ?_⟩
  intro β w' hs
  exact (hs.keepB (List.nil_sublist _)).fin [0] ⟨A5, c5, rfl, q3, q4, rfl⟩
end Go.Proofs.YtkommfddfgiobaaGreatDoor.Sx

/- The document's example of a digest: it is right. -/
namespace Go.Proofs.YtkommfddfgiobaaGreatDoor.Sx
open Go Sha
attribute [local irreducible] Calls

def x_user : ByteArray := ⟨#[77, 117, 102, 97, 115, 97]⟩
def x_realm : ByteArray := ⟨#[104, 116, 116, 112, 45, 97, 117, 116, 104, 64, 101, 120, 97, 109, 112, 108, 101, 46, 111, 114, 103]⟩
def x_pass : ByteArray := ⟨#[67, 105, 114, 99, 108, 101, 32, 111, 102, 32, 76, 105, 102, 101]⟩
def x_get : ByteArray := ⟨#[71, 69, 84]⟩
def x_uri : ByteArray := ⟨#[47, 100, 105, 114, 47, 105, 110, 100, 101, 120, 46, 104, 116, 109, 108]⟩
def x_nonce : ByteArray := ⟨#[55, 121, 112, 102, 47, 120, 108, 106, 57, 88, 88, 119, 102, 68, 80, 69, 111, 77, 52, 85, 82, 114, 118, 47, 120, 119, 102, 57, 52, 66, 99, 67, 65, 122, 70, 90, 72, 52, 71, 105, 84, 111, 48, 118]⟩
def x_cn : ByteArray := ⟨#[102, 50, 47, 119, 69, 52, 113, 55, 52, 69, 54, 122, 73, 74, 69, 116, 87, 97, 72, 75, 97, 102, 53, 119, 118, 47, 72, 53, 81, 122, 122, 112, 88, 117, 115, 113, 71, 101, 109, 120, 85, 82, 90, 74]⟩
def x_ha1 : List UInt8 := [121, 135, 198, 76, 48, 226, 95, 27, 116, 190, 83, 249, 102, 180, 155, 144, 242, 128, 138, 169, 47, 175, 154, 0, 38, 35, 146, 215, 180, 121, 66, 50]
def x_resp : List UInt8 := [117, 57, 39, 250, 14, 133, 209, 85, 86, 78, 46, 39, 42, 40, 209, 128, 44, 161, 13, 175, 68, 150, 121, 70, 151, 207, 141, 181, 133, 108, 182, 193]
def x_ans : AnsA := ⟨⟨#[]⟩, ⟨#[]⟩, x_nonce, x_uri, x_cn, ⟨#[]⟩, 1, .slice none 0 0⟩
theorem x_sum1 : Sha.sum (bl_ (joinB [x_user, x_realm, x_pass] colon)) = x_ha1 := by decide +kernel
theorem x_sum2 : Sha.sum (bl_ (respT x_ha1 x_get x_ans)) = x_resp := by decide +kernel
theorem x_size1 : (joinB [x_user, x_realm, x_pass] colon).size ≤ 100000 := by decide +kernel
theorem x_size2 : (joinB [x_get, x_uri] colon).size ≤ 100000 := by decide +kernel
theorem x_size3 : (respT x_ha1 x_get x_ans).size ≤ 100000 := by decide +kernel
theorem x_four : (x_resp.drop 0).take (4 - 0) = [117, 57, 39, 250] := by decide
theorem awake19_c (w : World) (h1 : (oddF 3).p w) (h0 : (firstF 0).p w) : Pu Tryz.prog n_ostiarylaw19_awake #[] w (.bool true) := by
  have g := good_ostiarylaw19_awake w (Un [])
  refine con_of_sx (cx := cx_ostiarylaw19_awake w (Un [])) g b_ostiarylaw19_awake rfl rfl (β := Va.z) [] 0 [] [oldF w] rfl rfl (old_sat rfl) ?_
  refine call_con [] (fun β w' hs => new_c w' false) ?_
  rintro v Fs ⟨b, m, rfl, rfl⟩
  refine draw_rule g p_ostiarylaw19_awake_3 (by kernel_rfl) [⟨0, ty_digest_Answer, x_ans.sls⟩] [] (Sub.of (List.Sublist.refl _) (List.nil_sublist _)) ?_
  refine call_con [] (fun β w' hs => ha1_c w' b false (.slice none 0 0) (.map (some m)) x_user x_realm x_pass (hs.get 0 rfl) x_size1 (Rd.old h1 (hs.get 2 rfl)) (Rd.old h0 (hs.get 2 rfl))) ?_
  rintro v Fs ⟨A1, c1, rfl, q1, q2, rfl⟩
  rw [x_sum1]
  refine ⟨Sub.of (List.Sublist.refl _) (List.nil_sublist _), ?_⟩
  refine call_con [] (fun β w' hs => response_c w' b false (.slice none 0 0) (.map (some m)) A1 x_ha1 c1 x_get x_ans (hs.get 1 rfl) (row_rd (hs.get 0 rfl)) rfl (by decide) x_size2 x_size3 (Rd.old h1 (hs.get 3 rfl)) (Rd.old h0 (hs.get 3 rfl))) ?_
  rintro v Fs ⟨A2, c2, rfl, q3, q4, rfl⟩
  rw [x_sum2]
  refine ⟨Sub.of (List.Sublist.refl _) (List.nil_sublist _), ?_⟩
  refine ⟨c2, 4, 0, 4, c2, _, rfl, rfl, rfl, Nat.le_refl _, by omega, Nat.zero_le _, rfl, rfl, rfl, ?_⟩
  intro b5
  refine call_pu (fun β w' hs => pu_of (same_c w' (cutA A2 c2 0 1) (some ⟨b5, 0, none⟩) [117, 57, 39, 250] [117, 57, 39, 250] c2 4 (Bs.cutB (row_rd (hs.get 1 rfl)) q3 (Nat.zero_le 4) (by decide) x_four) (row_rd (hs.get 0 rfl)))) ?_
  intro β w' hs
  exact hs.fin [] ⟨rfl, rfl⟩
end Go.Proofs.YtkommfddfgiobaaGreatDoor.Sx

/- ProofAlone. -/
namespace Go.Proofs.YtkommfddfgiobaaGreatDoor.Sx
open Go
attribute [local irreducible] Calls

structure AlJ where
  B : Bx.Box
  y : Lay
def AlP (st msg c m p : List UInt8) (k : Nat) (j : AlJ) : Prop := BInv j.B ∧ j.B.sym = true ∧ j.B.L.length ≤ k ∧ j.y.ts.map (·.1) = j.B.L ∧ Prf j.B st msg c m p
theorem AlP.chk {st msg c m p : List UInt8} {k : Nat} {j : AlJ} (h : AlP st msg c m p k j) (hk : k < 3000) (hs : st.length ≤ 32) (hm : msg.length ≤ 1000) (q : List UInt8) {y : Lay} (hy : y.ts.map (·.1) = (chk j.B st msg q).2.L) : AlP st msg c m p (k + 3) ⟨(chk j.B st msg q).2, y⟩ := by
  obtain ⟨h1, h2, h3, h4, h5⟩ := h
  have l := chk_len (stored := st) (msg := msg) (pf := q) h1 (by omega) (by omega) (by omega)
  have pr := chk_pre (s := st) (msg := msg) (q := q) h1 (by omega) (by omega) (by omega)
  exact ⟨l.1, by show (Sx.chk j.B st msg q).2.sym = true; rw [pr.sym, h2], by have := l.2; show (Sx.chk j.B st msg q).2.L.length ≤ k + 3; omega, hy, h5.mono (by omega) pr⟩
theorem AlP.no {st msg c m p : List UInt8} {k : Nat} {j : AlJ} (h : AlP st msg c m p k j) (hk : k < 3000) {q : List UInt8} (hq : ¬ q = p) : ¬ (Sx.chk j.B st msg q).1 = 0 := fun e => hq (h.2.2.2.2.only h.1 h.2.1 (by have := h.2.2.1; omega) e)
def tS : ByteArray := ⟨#[116]⟩
def annS : ByteArray := ⟨#[97, 110, 110]⟩
def nought32 : List UInt8 := List.replicate 32 0
set_option maxHeartbeats 4000000 in
theorem proofAlone_c (w : World) (p0 o0 : ByteArray) (S : Option Addr) (salt : List UInt8) (cS : Nat) (m0 i0 : ByteArray) (R : Option Addr) (raw : List UInt8) (cR : Nat) (hp0 : p0.size ≤ maxLen) (ho0 : o0.size ≤ maxLen) (hm0 : m0.size ≤ maxLen) (hi0 : i0.size ≤ maxLen) (hcS : salt.length ≤ cS) (hcR : raw.length ≤ cR)
    (hm : Mem w [bsF S salt, bsF R raw, oddF 3, firstF 0, namF]) :
    Con Tryz.prog n_ostiarylaw19_ProofAlone #[.string p0, .string o0, .slice S salt.length cS, .string m0, .string i0, .slice R raw.length cR] w [] fun v Fs => v = .bool true ∧ Fs = [] := by
  have g := good_ostiarylaw19_ProofAlone w (Un [])
  have hml := maxLen_eq
  have hlim : 32 ≤ lim := by rw [lim_eq]; decide
  have hs0 : Sat (cx_ostiarylaw19_ProofAlone w (Un [])) Va.z 0 [] [bsF S salt, bsF R raw, oddF 3, firstF 0, namF] w := hm.sat0 rfl (ownIn (Gs := []) (fun f hf => by
    simp only [List.mem_cons, List.not_mem_nil, or_false] at hf
    rcases hf with rfl | rfl | rfl | rfl | rfl <;> rfl))
  refine con_of_tri (cx := cx_ostiarylaw19_ProofAlone w (Un [])) g b_ostiarylaw19_ProofAlone rfl rfl (β := Va.z) [.c (.v (.string p0)), .c (.v (.string o0)), .c (.v (.slice S salt.length cS)), .c (.v (.string m0)), .c (.v (.string i0)), .c (.v (.slice R raw.length cR))] 0 [] _ rfl rfl hs0 ?_
  refine tri_seq g ?_
  refine tri_seq g ?_
  refine call_pu (fun β w' hs => awake19_c w' (hs.get 2 rfl) (hs.get 3 rfl)) ?_
  refine tri_seq g ?_
  refine call_pu (fun β w' hs => cutText_c w' p0 60 hp0 (by decide)) ?_
  refine call_pu (fun β w' hs => cutText_c w' o0 60 ho0 (by decide)) ?_
  have z0 := cut_size' p0 60
  have z1 := cut_size' o0 60
  generalize p0.extract 0 (min p0.size 60) = p at z0 ⊢
  generalize o0.extract 0 (min o0.size 60) = o at z1 ⊢
  have hs40 : (salt.take 32).length ≤ 32 := by rw [List.length_take]; omega
  refine call_con [] (fun β w' hs => cutC w' S salt cS 32 (hs.get 0 rfl) hcS hlim) ?_
  generalize salt.take 32 = sa at hs40 ⊢
  rintro v Fs ⟨A0, c0, rfl, q0, _, rfl⟩
  refine call_pu (fun β w' hs => cutText_c w' m0 200 hm0 (by decide)) ?_
  refine call_pu (fun β w' hs => cutText_c w' i0 200 hi0 (by decide)) ?_
  have z2 := cut_size' m0 200
  have z3 := cut_size' i0 200
  generalize m0.extract 0 (min m0.size 200) = msg at z2 ⊢
  generalize i0.extract 0 (min i0.size 200) = ins at z3 ⊢
  have zm : msg.data.toList.length ≤ 200 := z2
  have zi : ins.data.toList.length ≤ 200 := z3
  refine tri_seq g ?_
  refine call_con [] (fun β w' hs => newX_c w' true) ?_
  rintro v Fs ⟨b, y0, rfl, hy0, rfl⟩
  refine tri_seq g ?_
  refine call_con [0] (R := makeU (bxF b) (mkR (box0 true) tS annS p sa 1)) (fun β w' hs => makeU_of (by rw [hy0]; rfl) (make_c w' b (box0 true) y0 tS annS p A0 sa c0 1 (by rw [hy0]; rfl) (box0_inv true) (by show 0 < 4000; decide) (by decide) (by decide) (by omega) (by omega) ((hs.ro 1 rfl).mem.take (js := [0, 1, 4, 5, 6]) rfl))) ?_
  rintro v Fs ⟨⟨X0, X1, X2, X3, k0, k1, k2, k3, s0, s1, s2, s3, xit⟩, y1, ⟨d0, d1, d2, d3, d4⟩, rfl, hts1, rfl⟩
  simp only at d0 d1 d2 d3 d4
  have hk := mkR_ok (B := box0 true) (box0_inv true) (by show 0 < 4000; decide) (t := tS) (u := annS) (p := p) (salt := sa) (it := 1) (by decide) (by omega)
  have hcl := mk_cl (B := box0 true) (box0_inv true) (by show 0 < 3000; decide) (t := tS) (u := annS) (p := p) (salt := sa) (it := 1) (msg := msg.data.toList) (by decide) (by omega) (by omega)
  generalize mkR (box0 true) tS annS p sa 1 = r at *
  have hb0 : (box0 true).L.length = 0 := rfl
  have hlen := hk.len
  have hsy := hk.sym
  have hst := hk.l1
  subst d0 d1 d2 d3 d4
  have ho1 := clR_ok (B := r.B) hk.inv (by omega) (p := p) (salt := sa) (msg := msg.data.toList) (it := 1) (by omega) (by omega)
  refine tri_seq g ?_
  refine call_con [4] (R := clOut (bxF b) (clR r.B p sa 1 msg.data.toList)) (fun β w' hs => client_c w' b r.B y1 p A0 sa c0 1 msg hts1 hk.inv (by omega) (by omega) (by omega) (by omega) ((hs.ro 5 rfl).mem.take (js := [4, 5, 8, 9, 10]) rfl)) ?_
  rintro v Fs ⟨P1, c1, V1, e1, y2, rfl, q1, _, hts2, rfl⟩
  generalize clR r.B p sa 1 msg.data.toList = r1 at *
  have hlen1 := ho1.len
  have ho2 := clR_ok (B := r1.B) ho1.inv (by omega) (p := o) (salt := sa) (msg := msg.data.toList) (it := 1) (by omega) (by omega)
  refine tri_seq g ?_
  refine call_con [2] (R := clOut (bxF b) (clR r1.B o sa 1 msg.data.toList)) (fun β w' hs => client_c w' b r1.B y2 o A0 sa c0 1 msg hts2 ho1.inv (by omega) (by omega) (by omega) (by omega) ((hs.ro 7 rfl).mem.take (js := [2, 7, 10, 11, 12]) rfl)) ?_
  rintro v Fs ⟨P2, c2, V2, e2, y3, rfl, q2, _, hts3, rfl⟩
  generalize clR r1.B o sa 1 msg.data.toList = r2 at *
  have hlen2 := ho2.len
  have ho3 := clR_ok (B := r2.B) ho2.inv (by omega) (p := p) (salt := sa) (msg := ins.data.toList) (it := 1) (by omega) (by omega)
  refine tri_seq g ?_
  refine call_con [2] (R := clOut (bxF b) (clR r2.B p sa 1 ins.data.toList)) (fun β w' hs => client_c w' b r2.B y3 p A0 sa c0 1 ins hts3 ho2.inv (by omega) (by omega) (by omega) (by omega) ((hs.ro 9 rfl).mem.take (js := [2, 9, 12, 13, 14]) rfl)) ?_
  rintro v Fs ⟨P3, c3, V3, e3, y4, rfl, q3, _, hts4, rfl⟩
  generalize clR r2.B p sa 1 ins.data.toList = r3 at *
  have hlen3 := ho3.len
  refine tri_seq g ?_
  refine BIf.not (BIf.dec (fun h1 => ?_) (fun h1 => ?_))
  rotate_left
  · exact fun β w' hs => (hs.keepB (List.nil_sublist _)).fin [] ⟨rfl, rfl⟩
  refine BIf.not (BIf.dec (fun h2 => ?_) (fun h2 => ?_))
  rotate_left
  · exact fun β w' hs => (hs.keepB (List.nil_sublist _)).fin [] ⟨rfl, rfl⟩
  refine BIf.not (BIf.dec (fun h3 => ?_) (fun h3 => ?_))
  rotate_left
  · exact fun β w' hs => (hs.keepB (List.nil_sublist _)).fin [] ⟨rfl, rfl⟩
  refine BIf.not (BIf.dec (fun h4 => ?_) (fun h4 => ?_))
  rotate_left
  · exact fun β w' hs => (hs.keepB (List.nil_sublist _)).fin [] ⟨rfl, rfl⟩
  have h10 : r.e = 0 := h1
  obtain ⟨⟨cc, mm, hpf⟩, _, _⟩ := hcl h10
  have hl1 := ho1.l1
  have hl2 := ho2.l1
  have hl3 := ho3.l1
  have hA : AlP r.stored msg.data.toList cc mm r1.p 26 ⟨r3.B, y4⟩ := ⟨ho3.inv, by show r3.B.sym = true; rw [ho3.pre.sym, ho2.pre.sym, ho1.pre.sym, hsy]; rfl, by show r3.B.L.length ≤ 26; omega, hts4, hpf.mono (by omega) (ho2.pre.trans ho3.pre)⟩
  refine tri_seq g ?_
  have hr32 : (raw.take 32).length ≤ 32 := by rw [List.length_take]; omega
  refine call_con [] (fun β w' hs => cutC w' R raw cR 32 (hs.get 13 rfl) hcR hlim) ?_
  generalize raw.take 32 = ra at hr32 ⊢
  rintro v Fs ⟨R1, cR1, rfl, q5, _, rfl⟩
  have hn32 : nought32.length = 32 := by decide
  refine ⟨0, ra.length, 32, (ra ++ nought32).length, ra.map byte, nought32.map byte, (ra ++ nought32).map byte, rfl, ⟨rfl, rfl, fun u hu => by obtain rfl := List.mem_singleton.1 hu; rfl⟩, by rw [List.length_append, hn32], (List.map_append ..).symm, by rw [List.length_append, hn32, hml]; omega, by show (ra ++ nought32).length * 1 ≤ _; rw [List.length_append, hn32]; omega, ?_⟩
  intro R2 cR2 q6 q7 _
  refine call_con [] (fun β w' hs => cutC w' R2 (ra ++ nought32) cR2 32 (row_rd (hs.get 0 rfl)) q6 hlim) ?_
  have hg32 : ((ra ++ nought32).take 32).length ≤ 32 := by rw [List.length_take]; omega
  generalize (ra ++ nought32).take 32 = gs at hg32 ⊢
  rintro v Fs ⟨R3, cR3, rfl, q8, _, rfl⟩
  refine tri_sat (fun β w' hs => hs.perm [4, 3, 6, 8, 9, 10, 11, 12, 0, 16, 17]) ?_
  refine tri_seqJ (ι := AlJ) g (AlP r.stored msg.data.toList cc mm r1.p 29) 1 (fun _ => [(3, .c (.v (.string msg))), (13, .c (.v (ptrB b))), (14, .c (.p 0 0)), (16, .c (.v (.slice P1 r1.p.length c1))), (19, .c (.v (.slice P2 r2.p.length c2))), (22, .c (.v (.slice P3 r3.p.length c3))), (25, .c (.v (.slice R3 gs.length cR3)))])
    (fun _ => [⟨0, ty_cred_Secret, [.v (.slice X0 r.salt.length k0), .v (.int .i64 r.it), .v (.slice X1 r.stored.length k1), .v (.slice X2 r.server.length k2), .v (.slice X3 r.ha1.length k3)]⟩])
    (fun j => [bxF b j.B j.y, browF ty_uint8 P3 r3.p c3, browF ty_uint8 P2 r2.p c2, browF ty_uint8 P1 r1.p c1, browF ty_uint8 X3 r.ha1 k3, browF ty_uint8 X2 r.server k2, browF ty_uint8 X1 r.stored k1, browF ty_uint8 X0 r.salt k0, browF ty_uint8 R3 gs cR3, oddF 3, firstF 0]) ?_ ?_
  rotate_left
  · obtain ⟨bb, hbb⟩ : ∃ bb, decide (r2.p = r1.p) = bb := ⟨_, rfl⟩
    refine call_pu (v := .bool bb) (fun β w' hs => by
      have k1 := pu_of (same_c w' P2 P1 r2.p r1.p c2 c1 (row_rd (hs.get 2 rfl)) (row_rd (hs.get 3 rfl)))
      rw [hbb] at k1
      exact k1) ?_
    cases bb with
    | true => exact EntX.of ⟨r3.B, y4⟩ ⟨hA.1, hA.2.1, by have := hA.2.2.1; omega, hA.2.2.2⟩ (Ent.mk' ⟨rfl, rfl, rfl, rfl, rfl, rfl, rfl, trivial⟩ rfl (fun β w' hs => hs))
    | false =>
      have hno := hA.no (by decide) (of_decide_eq_false hbb)
      refine call_con [0] (R := chkOut (bxF b) (chk r3.B r.stored msg.data.toList r2.p)) (fun β w' hs => check_c w' b r3.B y4 ⟨X0, X1, X2, X3, k0, k1, k2, k3, r.salt, r.stored, r.server, r.ha1, r.it⟩ msg P2 r2.p c2 hts4 ho3.inv (by omega) (by show r.stored.length ≤ _; omega) (by omega) q2 (by omega) (((hs.ro 2 rfl).ro 6 rfl).mem.take (js := [0, 6, 2, 9, 10]) rfl)) ?_
      rintro v Fs ⟨y5, rfl, hts5, rfl⟩
      have hA2 := hA.chk (by decide) hst (by omega) r2.p hts5
      refine BIf.dec (fun h => absurd h hno) (fun h => ?_)
      exact EntX.of ⟨_, y5⟩ hA2 (Ent.mk' ⟨rfl, rfl, rfl, rfl, rfl, rfl, rfl, trivial⟩ rfl (fun β w' hs => hs))
  clear hA
  rintro ⟨B4, y4⟩ hA
  have hlA := hA.2.2.1
  simp only at hlA
  refine tri_seqJ (ι := AlJ) g (AlP r.stored msg.data.toList cc mm r1.p 32) 1 (fun _ => [(3, .c (.v (.string msg))), (13, .c (.v (ptrB b))), (14, .c (.p 0 0)), (16, .c (.v (.slice P1 r1.p.length c1))), (25, .c (.v (.slice R3 gs.length cR3)))])
    (fun _ => [⟨0, ty_cred_Secret, [.v (.slice X0 r.salt.length k0), .v (.int .i64 r.it), .v (.slice X1 r.stored.length k1), .v (.slice X2 r.server.length k2), .v (.slice X3 r.ha1.length k3)]⟩])
    (fun j => [bxF b j.B j.y, browF ty_uint8 P3 r3.p c3, browF ty_uint8 P2 r2.p c2, browF ty_uint8 P1 r1.p c1, browF ty_uint8 X3 r.ha1 k3, browF ty_uint8 X2 r.server k2, browF ty_uint8 X1 r.stored k1, browF ty_uint8 X0 r.salt k0, browF ty_uint8 R3 gs cR3, oddF 3, firstF 0]) ?_ ?_
  rotate_left
  · obtain ⟨bb, hbb⟩ : ∃ bb, decide (r3.p = r1.p) = bb := ⟨_, rfl⟩
    refine call_pu (v := .bool bb) (fun β w' hs => by
      have k1 := pu_of (same_c w' P3 P1 r3.p r1.p c3 c1 (row_rd (hs.get 1 rfl)) (row_rd (hs.get 3 rfl)))
      rw [hbb] at k1
      exact k1) ?_
    cases bb with
    | true => exact EntX.of ⟨B4, y4⟩ ⟨hA.1, hA.2.1, by have := hA.2.2.1; omega, hA.2.2.2⟩ (Ent.mk' ⟨rfl, rfl, rfl, rfl, rfl, trivial⟩ rfl (fun β w' hs => hs))
    | false =>
      have hno := hA.no (by decide) (of_decide_eq_false hbb)
      refine call_con [0] (R := chkOut (bxF b) (chk B4 r.stored msg.data.toList r3.p)) (fun β w' hs => check_c w' b B4 y4 ⟨X0, X1, X2, X3, k0, k1, k2, k3, r.salt, r.stored, r.server, r.ha1, r.it⟩ msg P3 r3.p c3 hA.2.2.2.1 hA.1 (by omega) (by show r.stored.length ≤ _; omega) (by omega) q3 (by omega) (((hs.ro 1 rfl).ro 6 rfl).mem.take (js := [0, 6, 1, 9, 10]) rfl)) ?_
      rintro v Fs ⟨y5, rfl, hts5, rfl⟩
      have hA2 := hA.chk (by decide) hst (by omega) r3.p hts5
      refine BIf.dec (fun h => absurd h hno) (fun h => ?_)
      exact EntX.of ⟨_, y5⟩ hA2 (Ent.mk' ⟨rfl, rfl, rfl, rfl, rfl, trivial⟩ rfl (fun β w' hs => hs))
  clear hA hlA
  rintro ⟨B5, y5⟩ hA
  have hlA := hA.2.2.1
  simp only at hlA
  refine tri_seq g ?_
  obtain ⟨bb, hbb⟩ : ∃ bb, decide (gs = r1.p) = bb := ⟨_, rfl⟩
  refine call_pu (v := .bool bb) (fun β w' hs => by
    have k1 := pu_of (same_c w' R3 P1 gs r1.p cR3 c1 (row_rd (hs.get 8 rfl)) (row_rd (hs.get 3 rfl)))
    rw [hbb] at k1
    exact k1) ?_
  cases bb with
  | true =>
    refine tri_of g ?_
    intro β w' hs
    exact (hs.keepB (List.nil_sublist _)).fin [] ⟨rfl, rfl⟩
  | false =>
    have hno := hA.no (by decide) (of_decide_eq_false hbb)
    refine call_con [0] (R := chkOut (bxF b) (chk B5 r.stored msg.data.toList gs)) (fun β w' hs => check_c w' b B5 y5 ⟨X0, X1, X2, X3, k0, k1, k2, k3, r.salt, r.stored, r.server, r.ha1, r.it⟩ msg R3 gs cR3 hA.2.2.2.1 hA.1 (by omega) (by show r.stored.length ≤ _; omega) (by omega) q8 (by omega) (((hs.ro 8 rfl).ro 6 rfl).mem.take (js := [0, 6, 8, 9, 10]) rfl)) ?_
    rintro v Fs ⟨y6, rfl, hts6, rfl⟩
    simp only at hno
    generalize (chk B5 r.stored msg.data.toList gs) = rr at *
    refine tri_of g ?_
    intro β w' hs
    exact (hs.keepB (List.nil_sublist _)).fin [] ⟨by show Value.bool (!decide (rr.1 = 0)) = _; rw [decide_eq_false hno]; rfl, rfl⟩
end Go.Proofs.YtkommfddfgiobaaGreatDoor.Sx

/- What a statement's proof has of its arguments, in this executor's words. -/
namespace Go.Proofs.YtkommfddfgiobaaGreatDoor.Sx
open Go Go.RowKit

theorem below_of {w w' : World} (h : Chg None_ w w') : Below w.heap.size w w' :=
  ⟨h.os, h.tape, h.output, h.size, fun k hk => h.same k hk (fun q => q)⟩
end Go.Proofs.YtkommfddfgiobaaGreatDoor.Sx

/- Tables that are laid: what their cells are. -/
namespace Go.Proofs.YtkommfddfgiobaaGreatDoor.Sx
open Go

theorem rd_of_ints {H : Type} {enc : TypeId × Value → H} {P : Program} {W : World} {base : Nat} {sp : Nat → Bool} {held : Bool} {fuel g n : Nat} {t e : TypeId} {k : IntKind} {cs : Array Value} {zs : List Int} {q : List MemPlace}
    (ht : P.underlying t = some (.array n e)) (he : P.underlying e = some (.int k)) (hc : P.cellsOf e = 1) (hd : DataW.trod enc P W base sp held fuel t cs.toList = some (.agg (zs.map fun z => .lit (.int k z)), q)) (hcell : ∀ j, W.cell? ⟨g, j, none⟩ = cs[j]?) :
    Rd 1 (some ⟨g, 0, none⟩) zs.length (zs.map (Value.int k)) W := by
  obtain ⟨xs, m, _, hx, hlen, hn, hel⟩ := DataW.trod_array ht hd
  simp only [Prod.mk.injEq, DataW.agg.injEq] at hx
  have hzn : zs.length = n := by
    have h9 := congrArg List.length hx.1
    simp only [List.length_map] at h9
    omega
  refine ⟨by simp, fun hp => ⟨_, rfl, fun j u hu => ?_⟩⟩
  rw [List.getElem?_map] at hu
  obtain ⟨z, hz, rfl⟩ := Option.map_eq_some_iff.1 hu
  have hj : j < zs.length := (List.getElem?_eq_some_iff.1 hz).1
  have h1 := hel j (by omega)
  have h2 : (xs.map (·.1))[j]? = some (.lit (.int k z)) := by rw [← hx.1, List.getElem?_map, hz]; rfl
  rw [List.getElem?_map] at h2
  obtain ⟨x, hxj, hx1⟩ := Option.map_eq_some_iff.1 h2
  rw [hxj, hc, Nat.mul_one] at h1
  obtain ⟨y, e1, e2, _⟩ := DataW.trod_int he h1
  have hy : y = z := by
    rw [e2] at hx1
    simpa using hx1
  subst hy
  rw [add_none, Nat.zero_add, hcell j, ← Array.getElem?_toList]
  have h3 := congrArg (fun l => l[0]?) e1
  simpa [List.getElem?_drop] using h3
theorem opens_string {P : Program} {w : World} {m : Nat} {t : TypeId} {s : ByteArray} (ht : P.underlying t = some .string) (h : Opens P w m t (Value.cells (.string s)).toList) : s.size ≤ maxLen := by
  cases m with
  | zero => exact h.elim
  | succ m =>
    unfold Opens at h
    rw [ht] at h
    obtain ⟨s', h1, h2⟩ := h
    simp [Value.cells] at h1
    subst h1
    exact h2
abbrev u32s (l : List UInt32) : List Int := l.map fun x => (x.toNat : Int)
theorem rd_u32 {g : Nat} {W : World} {l : List UInt32} (h : Rd 1 (some ⟨g, 0, none⟩) (u32s l).length ((u32s l).map (Value.int .u32)) W) : Rd 1 (some ⟨g, 0, none⟩) l.length (l.map u32) W := by
  have e : (u32s l).map (Value.int .u32) = l.map u32 := by rw [List.map_map]; rfl
  rw [e, List.length_map] at h
  exact h
end Go.Proofs.YtkommfddfgiobaaGreatDoor.Sx

/- Tables that are laid, of any plain types: their cells are what they hold, in order. -/
namespace Go.Proofs.YtkommfddfgiobaaGreatDoor.Sx
open Go

mutual
def lits {H : Type} : DataW H → Option (List Value)
  | .lit (.int k n) => some [.int k n]
  | .lit (.bool b) => some [.bool b]
  | .lit (.string l) => some [.string ⟨l.toArray⟩]
  | .agg ps => litsL ps
  | _ => none
def litsL {H : Type} : List (DataW H) → Option (List Value)
  | [] => some []
  | d :: r => match lits d, litsL r with
    | some a, some b => some (a ++ b)
    | _, _ => none
end
def contig (P : Program) : List Field → Nat → Option Nat
  | [], o => some o
  | f :: r, o => if f.offset = o then contig P r (o + P.cellsOf f.type) else none
def flatB (P : Program) : Nat → TypeId → Bool
  | 0, _ => false
  | n + 1, t => match P.underlying t with
    | some (.int _) | some .bool | some .string => true
    | some (.struct fs) => (match contig P fs.toList 0 with | some e => Nat.beq e (P.cellsOf t) | none => false) && fs.toList.all fun f => flatB P n f.type
    | some (.array m e) => Nat.beq (m * P.cellsOf e) (P.cellsOf t) && flatB P n e
    | _ => false
section
variable {H : Type} {enc : TypeId × Value → H} {P : Program} {w : World} {base : Nat} {sp : Nat → Bool} {held : Bool}
theorem fields_cat (m : Nat) (cs : List Value) : ∀ (fs : List Field) (xs : List (DataW H × List MemPlace)) (o e : Nat), contig P fs o = some e → xs.length = fs.length →
    (∀ (i : Nat) (f : Field), fs[i]? = some f → DataW.trod enc P w base sp held m f.type ((cs.drop f.offset).take (P.cellsOf f.type)) = xs[i]?) →
    (∀ f ∈ fs, ∀ cs' x, DataW.trod enc P w base sp held m f.type cs' = some x → lits x.1 = some cs') → o ≤ e ∧ litsL (xs.map (·.1)) = some ((cs.drop o).take (e - o))
  | [], xs, o, e, hc, hl, _, _ => by
    obtain rfl := Option.some.inj hc
    obtain rfl := List.eq_nil_of_length_eq_zero hl
    exact ⟨Nat.le_refl _, by simp [litsL]⟩
  | f :: r, [], o, e, hc, hl, _, _ => by cases hl
  | f :: r, x :: xs, o, e, hc, hl, h, ih => by
    simp only [contig] at hc
    split at hc
    · rename_i ho
      have h0 := h 0 f rfl
      rw [ho] at h0
      have h1 := ih f List.mem_cons_self _ x h0
      obtain ⟨h2, h3⟩ := fields_cat m cs r xs _ e hc (by simpa using hl) (fun i g hg => by
        have := h (i + 1) g (by simpa using hg)
        simpa using this) (fun g hg => ih g (List.mem_cons_of_mem _ hg))
      refine ⟨by omega, ?_⟩
      simp only [List.map_cons, litsL, h1, h3]
      congr 1
      have e1 : e - o = P.cellsOf f.type + (e - (o + P.cellsOf f.type)) := by omega
      rw [e1, List.take_add, List.drop_drop]
    · cases hc
theorem elems_cat (m k : Nat) (ty : TypeId) (cs : List Value) (hk : P.cellsOf ty = k) : ∀ (n : Nat) (xs : List (DataW H × List MemPlace)) (o : Nat), xs.length = n →
    (∀ i, i < n → DataW.trod enc P w base sp held m ty ((cs.drop (o + i * k)).take k) = xs[i]?) →
    (∀ cs' x, DataW.trod enc P w base sp held m ty cs' = some x → lits x.1 = some cs') → litsL (xs.map (·.1)) = some ((cs.drop o).take (n * k))
  | 0, xs, o, hl, _, _ => by
    obtain rfl := List.eq_nil_of_length_eq_zero hl
    simp [litsL]
  | n + 1, [], o, hl, _, _ => by cases hl
  | n + 1, x :: xs, o, hl, h, ih => by
    have h0 := h 0 (Nat.succ_pos _)
    rw [Nat.zero_mul, Nat.add_zero] at h0
    have h1 := ih _ x h0
    have h3 := elems_cat m k ty cs hk n xs (o + k) (by simpa using hl) (fun i hi => by
      have := h (i + 1) (by omega)
      rw [Nat.succ_mul, Nat.add_comm (i * k) k, ← Nat.add_assoc] at this
      simpa using this) ih
    simp only [List.map_cons, litsL, h1, h3]
    congr 1
    rw [Nat.succ_mul, Nat.add_comm (n * k) k, List.take_add, List.drop_drop]
theorem cells_of : ∀ (k m : Nat) (t : TypeId) (cs : List Value) (x : DataW H × List MemPlace), flatB P k t = true → DataW.trod enc P w base sp held m t cs = some x → lits x.1 = some cs
  | 0, _, _, _, _, h, _ => by cases h
  | k + 1, m, t, cs, x, h, hd => by
    unfold flatB at h
    split at h
    · rename_i ht
      obtain ⟨n, rfl, rfl, _⟩ := DataW.trod_int ht hd
      rfl
    · rename_i ht
      obtain ⟨n, rfl, rfl⟩ := DataW.trod_bool ht hd
      rfl
    · rename_i ht
      obtain ⟨s, rfl, rfl, _⟩ := DataW.trod_string ht hd
      cases s with | mk a => simp [lits, ByteArray.toList_eq]
    · rename_i fs ht
      obtain ⟨xs, n, rfl, rfl, hl, hxl, hel⟩ := DataW.trod_struct ht hd
      simp only [Bool.and_eq_true] at h
      obtain ⟨hcon, hall⟩ := h
      cases hc : contig P fs.toList 0 with
      | none => rw [hc] at hcon; cases hcon
      | some e =>
        rw [hc] at hcon
        have he := Nat.eq_of_beq_eq_true hcon
        subst he
        have := (fields_cat n cs fs.toList xs 0 _ hc (by simpa using hxl) (fun i f hf => hel i f (by simpa using hf)) (fun f hf cs' x' hx => cells_of k n f.type cs' x' (List.all_eq_true.1 hall f hf) hx)).2
        simp only [lits, this, List.drop_zero, Nat.sub_zero]
        rw [← hl, List.take_length]
    · rename_i n e ht
      obtain ⟨xs, m', rfl, rfl, hl, hxl, hel⟩ := DataW.trod_array ht hd
      simp only [Bool.and_eq_true] at h
      have he := Nat.eq_of_beq_eq_true h.1
      have := elems_cat m' (P.cellsOf e) e cs rfl n xs 0 hxl (fun i hi => by rw [Nat.zero_add]; exact hel i hi) (fun cs' x' hx => cells_of k m' e cs' x' h.2 hx)
      simp only [lits, this, List.drop_zero, he]
      rw [← hl, List.take_length]
    · cases h
theorem rd_of_laid {g n size m : Nat} {t : TypeId} {cs : Array Value} {d : DataW H} {q : List MemPlace} {vs : List Value} (hf : flatB P 5 t = true) (hv : lits d = some vs) (hn : vs.length = n * size)
    (hd : DataW.trod enc P w base sp held m t cs.toList = some (d, q)) (hcell : ∀ j, w.cell? ⟨g, j, none⟩ = cs[j]?) : Rd size (some ⟨g, 0, none⟩) n vs w := by
  have h := cells_of 5 m t _ _ hf hd
  rw [hv] at h
  have h' := Option.some.inj h
  refine ⟨hn, fun _ => ⟨_, rfl, fun j u hu => ?_⟩⟩
  rw [add_none, Nat.zero_add, hcell j, ← Array.getElem?_toList, ← h']
  exact hu
end
end Go.Proofs.YtkommfddfgiobaaGreatDoor.Sx
