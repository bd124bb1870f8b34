/- Texts joined: Hm2, Hm3, Hsh, Hsh2, Hsh3, Mac, Pie, Pie2, Str, BxP, Rf5, Rt1, Rt2, Rt3, Rt4, Rt5, Tl2, Tl3, Kr4, Kr5, Kr6, Rl3, KyI, ColI, SrU, SrU2, FmU, Dec, Rl5, Rl7, Rm3, Rm4, Rm6, Os1, Os2, Os3, Or2, Or3, Or5, Os4, SxAs, RgL, Os5, Or7, Or4, Or6, RgK, MpI, TlG, BxL. -/
import Derived.Test.YteenjgfbbkdlhaaGreatDoorMOrderBare4
import Derived.Test.YteenjgfbbkdlhaaGreatDoorMOrderBare3
import Derived.Test.YteenjgfbbkdlhaaGreatDoorMOrderBare2
import Derived.Lib.ItoaLen
set_option linter.unusedVariables false
set_option linter.unusedSimpArgs false
namespace Go.Proofs.YteenjgfbbkdlhaaGreatDoor.Sx
open Go
attribute [local irreducible] Calls
theorem Sat.ro {cx : Cx} {β : Va} {n : Nat} {H : List Bk} {F : List Fact} {w : World} (h : Sat cx β n H F w) (j : Nat) {e : Nat} {A : Option Addr} {l : List UInt8} {c : Nat} (hj : nth F j = some (browF e A l c)) : Sat cx β n H (putAt F j (bsF A l)) w := by
  have hp := h.get j hj
  exact h.upd hj rfl (Chg.refl _ _) (row_rd hp) (fun k hk => .inl (browRoD hp k hk))
theorem cutA_z (A : Option Addr) {m : Nat} : cutA A m 0 1 = A := by
  unfold cutA
  split
  · rfl
  · cases A with
    | none => rfl
    | some ad => simp [Addr.add]
theorem Sat.dupRo {cx : Cx} {β : Va} {n : Nat} {H : List Bk} {F : List Fact} {w : World} (h : Sat cx β n H F w) (j : Nat) {A : Option Addr} {l : List UInt8} (hj : nth F j = some (bsF A l)) : Sat cx β n H (bsF A l :: F) w :=
  h.sub j hj rfl (bsF A l) rfl (h.get j hj) (fun _ hk => hk)
end Go.Proofs.YteenjgfbbkdlhaaGreatDoor.Sx

namespace Go.Proofs.YteenjgfbbkdlhaaGreatDoor.Sx
open Go Sha
attribute [local irreducible] Calls
theorem go_add : ∀ (a b : Nat) (s : S8) (T : List UInt8), go (a + b) s T = go b (go a s T) (T.drop (64 * a))
  | 0, b, s, T => by simp [go]
  | a + 1, b, s, T => by
    rw [show a + 1 + b = (a + b) + 1 by omega, go, go, go_add a b, List.drop_drop]
    congr 2
    omega
theorem go_app : ∀ (n : Nat) (s : S8) (T p : List UInt8), 64 * n ≤ T.length → go n s (T ++ p) = go n s T
  | 0, _, _, _, _ => rfl
  | n + 1, s, T, p, h => by
    rw [go, go, List.take_append_of_le_length (by omega), List.drop_append_of_le_length (by omega), go_app n _ _ _ (by rw [List.length_drop]; omega)]
def stT (T : List UInt8) : S8 := go (T.length / 64) Sha.first T
def restT (T : List UInt8) : List UInt8 := T.drop (64 * (T.length / 64))
theorem restT_len (T : List UInt8) : (restT T).length = T.length % 64 := by unfold restT; rw [List.length_drop]; omega
theorem T_div (T p : List UInt8) : (T ++ p).length / 64 = T.length / 64 + (restT T ++ p).length / 64 := by
  rw [List.length_append, List.length_append, restT_len]
  omega
theorem T_drop (T p : List UInt8) : (T ++ p).drop (64 * (T.length / 64)) = restT T ++ p := by
  rw [List.drop_append_of_le_length (by omega)]
  rfl
theorem stT_app (T p : List UInt8) : stT (T ++ p) = (blks (restT T ++ p) ((restT T ++ p).length / 64)).foldl Sha.step (stT T) := by
  rw [← go_eq]
  unfold stT
  rw [T_div, go_add, go_app _ _ _ _ (by omega), T_drop]
theorem restT_app (T p : List UInt8) : restT (T ++ p) = (restT T ++ p).drop (64 * ((restT T ++ p).length / 64)) := by
  conv => lhs; unfold restT
  rw [T_div, Nat.mul_add, ← List.drop_drop, T_drop]
theorem sum_T (T : List UInt8) : Sha.sum T = out ((blks (restT T ++ ends T.length) ((restT T ++ ends T.length).length / 64)).foldl Sha.step (stT T)) := by
  rw [← stT_app]
  rfl
def hshC (T : List UInt8) (A : Option Addr) (c : Nat) : List Value := (stT T).l.map u32 ++ [.slice A (restT T).length c, .int .u64 (T.length : Int)]
def hshF (b : Nat) (T : List UInt8) (A : Option Addr) (c : Nat) : Fact := sepF [bkF b ty_sha_Hash (hshC T A c), browF ty_uint8 A (restT T) c]
theorem hsh_bk {b : Nat} {T : List UInt8} {A : Option Addr} {c : Nat} {w : World} (h : (hshF b T A c).p w) : (bkF b ty_sha_Hash (hshC T A c)).p w := h.1 _ (by simp)
theorem hsh_row {b : Nat} {T : List UInt8} {A : Option Addr} {c : Nat} {w : World} (h : (hshF b T A c).p w) : Bs w A (restT T) := row_rd (h.1 (browF ty_uint8 A (restT T) c) (by simp))
def ptrB (b : Nat) : Value := .pointer (some ⟨b, 0, none⟩)
theorem bkcell {b ty : Nat} {cs : List Value} {w : World} (h : (bkF b ty cs).p w) {o : Nat} {v : Value} (ho : cs[o]? = some v) : w.cell? ⟨b, o, none⟩ = some v := by
  have h' : w.heap[b]? = some (.cells cs.toArray ty (0, 0)) := h
  rw [cell_of_row w b o _ _ _ h']
  simpa using ho
theorem factOld {f : Fact} {W w : World} (h : f.p W) (hD : ∀ k, f.D k → k < W.heap.size) (ho : (oldF W).p w) : f.p w := f.st W w (fun k hk => ho k (hD k hk)) h
theorem hnew_c (w : World) (h0 : (firstF 2).p w) : Con Tryz.prog n_sha_New #[] w [] fun v Fs => ∃ b, v = ptrB b ∧ Fs = [hshF b [] none 0] := by
  have g := good_sha_New w (Un [])
  refine con_of_sx (cx := cx_sha_New w (Un [])) g b_sha_New rfl rfl (β := Va.z) [] 0 [] [oldF w] rfl rfl (old_sat rfl) ?_
  refine ⟨Sha.first.l.map u32, rfl, fun β w' hs j u hu => ?_, ?_⟩
  · have h2 : Rd 1 (some ⟨2, 0, none⟩) 8 (Sha.first.l.map u32) w' := Rd.old h0 (hs.get 0 rfl)
    obtain ⟨ad, h3, h4⟩ := h2.2 (by decide)
    obtain rfl := Option.some.inj h3
    exact h4 j u hu
  intro β w' hs
  have k := (hs.ofBk.nilRow ty_uint8 1).sep [1, 0]
  exact k.fin [0] ⟨β 0, rfl, rfl⟩
theorem hcopy_c (w : World) (b : Nat) (T : List UInt8) (A : Option Addr) (c : Nat) (h : (hshF b T A c).p w) (hD : ∀ k, (hshF b T A c).D k → k < w.heap.size) :
    Con Tryz.prog n_sha_Hash_Copy #[ptrB b] w [] fun v Fs => ∃ b' A' c', v = ptrB b' ∧ (restT T).length ≤ c' ∧ c' ≤ maxLen ∧ Fs = [hshF b' T A' c'] := by
  have g := good_sha_Hash_Copy w (Un [])
  have hrl := restT_len T
  refine con_of_sx (cx := cx_sha_Hash_Copy w (Un [])) g b_sha_Hash_Copy rfl rfl (β := Va.z) [.c (.v (ptrB b))] 0 [] [oldF w] rfl rfl (old_sat rfl) ?_
  refine ⟨hshC T A c, rfl, fun β w' hs j u hu => ?_, ?_⟩
  · rw [add_none, Nat.zero_add]
    exact bkcell (hsh_bk (factOld h hD (hs.get 0 rfl))) hu
  refine ⟨.slice A (restT T).length c, fun β w' hs => bkcell (hsh_bk (factOld h hD (hs.get 0 rfl))) rfl, ?_⟩
  refine call_con [] (fun β w' hs => clone_c w' A (restT T) c (hsh_row (factOld h hD (hs.get 0 rfl))) (by omega)) ?_
  rintro v Fs ⟨A', c', rfl, q1, q2, rfl⟩
  intro β w' hs
  have k := hs.ofBk.sep [0, 1]
  exact k.fin [0] ⟨β 0, A', c', rfl, q1, q2, rfl⟩
def cellF (b o : Nat) (v : Value) : Fact where
  own := true
  D := fun k => k = b
  p := fun w => w.cell? ⟨b, o, none⟩ = some v
  st := fun w w' hs h => by rw [← h]; exact World.cell?_of_block (hs b rfl)
theorem Sat.cellOf {cx : Cx} {β : Va} {n : Nat} {H : List Bk} {F : List Fact} {w : World} (h : Sat cx β n H F w) (j : Nat) {b ty : Nat} {cs : List Value} (hj : nth F j = some (bkF b ty cs)) (o : Nat) {v : Value} (ho : cs[o]? = some v) : Sat cx β n H (putAt F j (cellF b o v)) w :=
  h.upd hj rfl (Chg.refl _ _) (bkcell (h.get j hj) ho) (fun k hk => .inl hk)
theorem cut_blk {A B : Option Addr} (h : ∀ ad, B = some ad → ∃ ad', A = some ad' ∧ ad'.block = ad.block) {c i : Nat} : ∀ ad, cutA B c i 1 = some ad → ∃ ad', A = some ad' ∧ ad'.block = ad.block := by
  intro ad q
  unfold cutA at q
  split at q
  · exact h ad q
  · cases B with
    | none => cases q
    | some x =>
      obtain ⟨ad', h1, h2⟩ := h x rfl
      obtain rfl := Option.some.inj q
      refine ⟨ad', h1, ?_⟩
      rw [h2]
      unfold Addr.add
      split <;> rfl
theorem bsD_sub {A B : Option Addr} {l m : List UInt8} (h : ∀ ad, B = some ad → ∃ ad', A = some ad' ∧ ad'.block = ad.block) (hl : m.length ≤ l.length) : ∀ k, (bsF B m).D k → (bsF A l).D k := by
  rintro k ⟨h0, ad, q, rfl⟩
  obtain ⟨ad', h1, h2⟩ := h ad q
  exact ⟨by omega, ad', h1, h2⟩
set_option maxHeartbeats 1000000 in
theorem hwrite_c (w : World) (b : Nat) (T : List UInt8) (A : Option Addr) (c : Nat) (P : Option Addr) (p : List UInt8) (d : Nat) (hn : T.length + p.length ≤ 1000000000) (hm : Mem w [hshF b T A c, bsF P p, oddF 5]) :
    Con Tryz.prog n_sha_Hash_Write #[ptrB b, .slice P p.length d] w [hshF b T A c] fun v Fs => ∃ A' c', v = .int .i64 p.length ∧ Fs = [hshF b (T ++ p) A' c'] := by
  have g := good_sha_Hash_Write w (Un [hshF b T A c])
  have hrl := restT_len T
  have hml := maxLen_eq
  have hs0 : Sat (cx_sha_Hash_Write w (Un [hshF b T A c])) Va.z 0 [] [hshF b T A c, bsF P p, oddF 5] w := hm.sat0 rfl (ownIn (Gs := [hshF b T A c]) (fun f hf => by
    simp only [List.mem_cons, List.not_mem_nil, or_false] at hf
    rcases hf with rfl | rfl <;> rfl))
  refine con_of_sx (cx := cx_sha_Hash_Write w (Un [hshF b T A c])) g b_sha_Hash_Write rfl rfl (β := Va.z) [.c (.v (ptrB b)), .c (.v (.slice P p.length d))] 0 [] [bkF b ty_sha_Hash (hshC T A c), browF ty_uint8 A (restT T) c, bsF P p, oddF 5] rfl rfl (hs0.unsep 0 rfl) ?_
  obtain ⟨N, hN⟩ : ∃ N : Nat, T.length + p.length = N := ⟨_, rfl⟩
  obtain ⟨q, hq⟩ : ∃ q, restT T ++ p = q := ⟨_, rfl⟩
  have hql : q.length = T.length % 64 + p.length := by rw [← hq, List.length_append, hrl]
  obtain ⟨s0, hs0e⟩ : ∃ s0, stT T = s0 := ⟨_, rfl⟩
  refine ⟨.int .u64 (T.length : Int), fun β w' hs => bkcell (hs.get 0 rfl) rfl, (p.length : Int), by rw [wrap_u64']; omega, (N : Int), by rw [wrap_u64']; omega, ?_⟩
  refine ⟨[bkF b ty_sha_Hash (s0.l.map u32 ++ [.slice A (restT T).length c, .int .u64 (N : Int)]), browF ty_uint8 A (restT T) c, bsF P p, oddF 5], fun β w' hs => ?_, ?_⟩
  · have k := hs.bkSet 0 (o := 9) (us := [.int .u64 (N : Int)]) rfl (show 9 + 1 ≤ 10 by decide) (fun u hu => by obtain rfl := List.mem_singleton.1 hu; rfl)
    rw [← hs0e]
    exact k
  refine ⟨.slice A (restT T).length c, fun β w' hs => bkcell (hs.get 0 rfl) rfl, ?_⟩
  refine ⟨1, (restT T).length, q.length, (restT T).map byte, p.map byte, q.map byte, rfl, fun β w' hs => hs.get 2 rfl, bytes_one p, by rw [← hq, List.length_append], by rw [← hq, List.map_append], by omega, by show q.length * 1 ≤ _; omega, ?_⟩
  intro A1 c1 hc1 hm1 _
  refine ⟨[bkF b ty_sha_Hash (s0.l.map u32 ++ [.slice A1 q.length c1, .int .u64 (N : Int)]), browF ty_uint8 A1 q c1, bsF P p, oddF 5], fun β w' hs => ?_, ?_⟩
  · exact hs.bkSet 0 (o := 8) (us := [.slice A1 q.length c1]) rfl (show 8 + 1 ≤ 10 by decide) (fun u hu => by obtain rfl := List.mem_singleton.1 hu; rfl)
  refine loop_rule (ι := Nat × Option Addr × Nat) 0 (fun _ => [(0, .c (.v (ptrB b))), (1, .c (.v (.slice P p.length d)))]) (fun _ => []) (fun i => [bkF b ty_sha_Hash (((blks q i.1).foldl Sha.step s0).l.map u32 ++ [Value.slice i.2.1 (q.length - 64 * i.1) i.2.2, Value.int IntKind.u64 (N : Int)]), bsF A1 q, oddF 5])
    (fun i => 64 * i.1 ≤ q.length ∧ q.length - 64 * i.1 ≤ i.2.2 ∧ i.2.2 ≤ 9223372036854775807 ∧ (∀ w, Bs w A1 q → Bs w i.2.1 (q.drop (64 * i.1))) ∧ ∀ ad, i.2.1 = some ad → ∃ ad', A1 = some ad' ∧ ad'.block = ad.block) (fun i => q.length - 64 * i.1) (0, A1, c1)
    ⟨Nat.zero_le _, hc1, by rw [← hml]; exact hm1, fun w h => h, fun ad h => ⟨ad, h, rfl⟩⟩ (Ent.mk' ⟨rfl, rfl, trivial⟩ rfl (fun β w' hs => (hs.ro 1 rfl).perm [0, 1, 3])) g ?_
  rintro ⟨i, B, cap⟩ ⟨hi, hcap, hcm, hB, hD⟩
  simp only at hi hcap hcm hB hD
  obtain ⟨m, hm2⟩ : ∃ m, q.length - 64 * i = m := ⟨_, rfl⟩
  have hmc : m ≤ cap := by omega
  rw [hm2]
  have hdl : (q.drop (64 * i)).length = m := by rw [List.length_drop]; omega
  obtain ⟨st, hst⟩ : ∃ st, (blks q i).foldl Sha.step s0 = st := ⟨_, rfl⟩
  rw [hst]
  refine ⟨.slice B m cap, fun β w' hs => bkcell (hs.get 0 rfl) rfl, ?_⟩
  refine BIf.dec (fun h0 => ?_) (fun h0 => ?_)
  · have h00 : (64 : Int) ≤ (m : Int) := h0
    have hm64 : 64 ≤ m := by omega
    have hbl : (blk q i).length = 64 := by unfold blk; rw [List.length_take, hdl]; omega
    refine draw_rule g p_sha_Hash_Write_6 (by kernel_rfl) [] [cellF b 8 (.slice B m cap)] (fun β w' hs => (hs.cellOf 0 rfl 8 rfl).perm [0]) ?_
    refine ⟨.slice B m cap, fun β w' hs => hs.get 0 rfl, ?_⟩
    refine ⟨cap, 64, 0, 64, cap, _, rfl, rfl, rfl, Nat.le_refl _, by show 64 ≤ cap; omega, by omega, rfl, rfl, cutA_z B, ?_⟩
    refine call_con [0] (R := fun v Fs => v = .tuple #[] ∧ Fs = [stG b ty_sha_Hash (Sha.step st (blk q i)) [.slice B m cap, .int .u64 (N : Int)]]) (fun β w' hs => by
      have h7 := Bs.cut (hB w' (hs.get 1 rfl)) (c := cap) (m := cap) (i := 0) (j := 64) (by omega) (.inl rfl) (by omega) (by omega) (by omega)
      rw [cutA_z] at h7
      have h8 : Bs w' B (blk q i) := by show Rd 1 B (blk q i).length ((blk q i).map byte) w'; rw [hbl]; exact h7
      have hs2 := hs.sub 1 rfl rfl (bsF B (blk q i)) rfl h8 (bsD_sub hD (by omega))
      have q1 := stepG_c w' b ty_sha_Hash st [.slice B m cap, .int .u64 (N : Int)] B (blk q i) cap (hs2.mem.take (js := [1, 0, 3]) rfl) (by omega) (by omega) (by omega)
      rw [hbl] at q1
      exact q1) ?_
    rintro v Fs ⟨rfl, rfl⟩
    refine ⟨fun β w' hs => (hs.cellOf 0 rfl 8 rfl).perm [0], ?_⟩
    refine ⟨.slice B m cap, fun β w' hs => bkcell (hs.get 0 rfl) rfl, ?_⟩
    refine ⟨cap, m, 64, m - 64, cap - 64, _, rfl, rfl, rfl, Nat.le_refl _, hmc, hm64, rfl, rfl, rfl, ?_⟩
    refine ⟨[bkF b ty_sha_Hash ((Sha.step st (blk q i)).l.map u32 ++ [.slice (cutA B cap 64 1) (m - 64) (cap - 64), .int .u64 (N : Int)]), bsF A1 q, oddF 5], fun β w' hs => ?_, ?_⟩
    · exact hs.bkSet 0 (o := 8) (us := [.slice (cutA B cap 64 1) (m - 64) (cap - 64)]) rfl (show 8 + 1 ≤ 10 by decide) (fun u hu => by obtain rfl := List.mem_singleton.1 hu; rfl)
    refine ⟨(i + 1, cutA B cap 64 1, cap - 64), ⟨by show 64 * (i + 1) ≤ _; omega, by show q.length - 64 * (i + 1) ≤ cap - 64; omega, by show cap - 64 ≤ _; omega, fun w' h => ?_, cut_blk hD⟩, by show q.length - 64 * (i + 1) < m; omega, Ent.mk' ⟨rfl, rfl, trivial⟩ rfl (fun β w' hs => ?_)⟩
    · exact Bs.cutB (hB w' h) (c := cap) (i := 64) (j := m) (m := q.drop (64 * (i + 1))) (by omega) hm64 (by omega) (by
        rw [List.drop_drop, show 64 * i + 64 = 64 * (i + 1) by omega, List.take_of_length_le]
        rw [List.length_drop]; omega)
    · show Sat _ _ _ _ [bkF b ty_sha_Hash (((blks q (i + 1)).foldl Sha.step s0).l.map u32 ++ [.slice (cutA B cap 64 1) (q.length - 64 * (i + 1)) (cap - 64), .int .u64 (N : Int)]), bsF A1 q, oddF 5] w'
      rw [blks_succ, List.foldl_append, hst, show q.length - 64 * (i + 1) = m - 64 by omega]
      exact hs
  · have h00 : ¬ (64 : Int) ≤ (m : Int) := h0
    have hi2 : i = q.length / 64 := by omega
    refine ⟨.slice B m cap, fun β w' hs => bkcell (hs.get 0 rfl) rfl, ?_⟩
    have hrest : restT (T ++ p) = q.drop (64 * i) := by rw [restT_app, hq, hi2]
    have hstp : stT (T ++ p) = st := by rw [stT_app, hq, hs0e, ← hi2, hst]
    refine call_con [] (R := fun v Fs => ∃ A' c', v = .slice A' m c' ∧ Fs = [browF ty_uint8 A' (q.drop (64 * i)) c']) (fun β w' hs => by
      have k := clone_c w' B (q.drop (64 * i)) cap (hB w' (hs.get 1 rfl)) (by omega)
      rw [hdl] at k
      exact k.mono (by rintro v Fs ⟨A', c', rfl, _, _, rfl⟩; exact ⟨A', c', rfl, rfl⟩)) ?_
    rintro v Fs ⟨A3, c3, rfl, rfl⟩
    refine ⟨[browF ty_uint8 A3 (q.drop (64 * i)) c3, bkF b ty_sha_Hash (st.l.map u32 ++ [.slice A3 m c3, .int .u64 (N : Int)]), bsF A1 q, oddF 5], fun β w' hs => ?_, ?_⟩
    · exact hs.bkSet 1 (o := 8) (us := [.slice A3 m c3]) rfl (show 8 + 1 ≤ 10 by decide) (fun u hu => by obtain rfl := List.mem_singleton.1 hu; rfl)
    intro β w' hs
    have k := hs.sep [1, 0]
    have e : hshF b (T ++ p) A3 c3 = sepF [bkF b ty_sha_Hash (st.l.map u32 ++ [.slice A3 m c3, .int .u64 (N : Int)]), browF ty_uint8 A3 (q.drop (64 * i)) c3] := by
      unfold hshF hshC
      rw [hrest, hstp, hdl, List.length_append, hN]
    refine k.fin [0] ⟨A3, c3, rfl, ?_⟩
    rw [e]
    rfl
set_option maxHeartbeats 1000000 in
theorem hval_c (w : World) (b : Nat) (T : List UInt8) (A : Option Addr) (c : Nat) (hn : T.length ≤ 1000000000) (h : (hshF b T A c).p w) (hD0 : ∀ k, (hshF b T A c).D k → k < w.heap.size) (h1 : (oddF 5).p w) :
    Con Tryz.prog n_sha_Hash_Sum #[ptrB b] w [] fun v Fs => ∃ A' c', v = .slice A' 32 c' ∧ 32 ≤ c' ∧ c' ≤ maxLen ∧ Fs = [browF ty_uint8 A' (Sha.sum T) c'] := by
  have g := good_sha_Hash_Sum w (Un [])
  have hrl := restT_len T
  have hml := maxLen_eq
  have hs0 : Sat (cx_sha_Hash_Sum w (Un [])) Va.z 0 [] [oldF w] w := old_sat rfl
  have hs1 := hs0.sub 0 rfl rfl (oddF 5) rfl h1 (rd_lt h1)
  refine con_of_sx (cx := cx_sha_Hash_Sum w (Un [])) g b_sha_Hash_Sum rfl rfl (β := Va.z) [.c (.v (ptrB b))] 0 [] [oddF 5, oldF w] rfl rfl hs1 ?_
  have hcell : ∀ {w'} (ho : (oldF w).p w') {o : Nat} {v : Value}, (hshC T A c)[o]? = some v → w'.cell? ⟨b, o, none⟩ = some v := fun {w'} ho {o} {v} hv => bkcell (hsh_bk (factOld h hD0 ho)) hv
  refine ⟨(stT T).l.map u32, rfl, fun β w' hs j u hu => ?_, ?_⟩
  · have hj : j < 8 := (List.getElem?_eq_some_iff.1 hu).1
    have hu' : (hshC T A c)[j]? = some u := by
      unfold hshC
      rw [List.getElem?_append_left (by exact hj)]
      exact hu
    have e : (((⟨b, 0, none⟩ : Addr).add 0).add j) = ⟨b, j, none⟩ := by rw [add_none, add_none]; simp
    have := hcell (hs.get 1 rfl) hu'
    rw [← e] at this
    exact this
  obtain ⟨s0, hs0e⟩ : ∃ s0, stT T = s0 := ⟨_, rfl⟩
  rw [hs0e]
  refine draw_rule g p_sha_Hash_Sum_4 (by kernel_rfl) [] [oldF w] (Sub.of (List.nil_sublist _) (List.sublist_cons_self _ _)) ?_
  refine ⟨.slice A (restT T).length c, fun β w' hs => hcell (hs.get 0 rfl) rfl, ?_⟩
  refine ⟨.int .u64 (T.length : Int), fun β w' hs => hcell (hs.get 0 rfl) rfl, ?_⟩
  refine call_con [] (fun β w' hs => clone_c w' A (restT T) c (hsh_row (factOld h hD0 (hs.get 1 rfl))) (by omega)) ?_
  rintro v Fs ⟨A1, c1, rfl, hc1, hm1, rfl⟩
  refine ⟨fun β w' hs => (hs.perm [2]).keepB (List.nil_sublist _), ?_⟩
  refine call_con [] (fun β w' hs => ends_c w' T.length (by omega)) ?_
  rintro v Fs ⟨A2, c2, rfl, hc2, hm2, rfl⟩
  refine ⟨fun β w' hs => (hs.perm [3]).keepB (List.nil_sublist _), ?_⟩
  obtain ⟨q, hq⟩ : ∃ q, restT T ++ ends T.length = q := ⟨_, rfl⟩
  have hel := ends_len T.length
  have hz : zeros T.length < 64 := by unfold zeros; omega
  have hql : q.length = T.length % 64 + (ends T.length).length := by rw [← hq, List.length_append, hrl]
  refine ⟨1, (restT T).length, q.length, (restT T).map byte, (ends T.length).map byte, q.map byte, rfl, fun β w' hs => row_rd (hs.get 0 rfl), bytes_one _, by rw [← hq, List.length_append], by rw [← hq, List.map_append], by omega, by show q.length * 1 ≤ _; omega, ?_⟩
  intro A3 c3 hc3 hm3 _
  refine ⟨fun β w' hs => (hs.perm [3]).keepB (List.nil_sublist _), ?_⟩
  have hmod : q.length % 64 = 0 := by
    have := pad_mod T
    rw [List.length_append] at this
    omega
  refine reify_rule g 0 (fun _ => s0.l.map u32) rfl rfl (fun _ => rfl) (fun sb => ?_)
  refine loop_rule (ι := Nat × Option Addr × Nat) 1 (fun i => [(3, .c (.v (ptrB sb))), (4, .c (.v (.slice i.2.1 (q.length - 64 * i.1) i.2.2)))]) (fun _ => []) (fun i => [stF sb 291 ((blks q i.1).foldl Sha.step s0), bsF A3 q, oddF 5])
    (fun i => 64 * i.1 ≤ q.length ∧ q.length - 64 * i.1 ≤ i.2.2 ∧ i.2.2 ≤ 9223372036854775807 ∧ (∀ w, Bs w A3 q → Bs w i.2.1 (q.drop (64 * i.1))) ∧ ∀ ad, i.2.1 = some ad → ∃ ad', A3 = some ad' ∧ ad'.block = ad.block) (fun i => q.length - 64 * i.1) (0, A3, c3)
    ⟨Nat.zero_le _, hc3, by rw [← hml]; exact hm3, fun w h => h, fun ad h => ⟨ad, h, rfl⟩⟩ (Ent.mk' ⟨rfl, rfl, trivial⟩ rfl (fun β w' hs => (hs.ro 2 rfl).perm [0, 2, 3])) g ?_
  rintro ⟨i, B, cap⟩ ⟨hi, hcap, hcm, hB, hD⟩
  simp only at hi hcap hcm hB hD
  obtain ⟨m, hm2⟩ : ∃ m, q.length - 64 * i = m := ⟨_, rfl⟩
  have hmc : m ≤ cap := by omega
  rw [hm2]
  have hdl : (q.drop (64 * i)).length = m := by rw [List.length_drop]; omega
  obtain ⟨st, hst⟩ : ∃ st, (blks q i).foldl Sha.step s0 = st := ⟨_, rfl⟩
  rw [hst]
  refine BIf.dec (fun h0 => ?_) (fun h0 => ?_)
  · have h00 : (0 : Int) < (m : Int) := h0
    have hm64 : 64 ≤ m := by omega
    have hbl : (blk q i).length = 64 := by unfold blk; rw [List.length_take, hdl]; omega
    refine ⟨cap, 64, 0, 64, cap, _, rfl, rfl, rfl, Nat.le_refl _, by show 64 ≤ cap; omega, by omega, rfl, rfl, cutA_z B, ?_⟩
    refine call_con [0] (R := fun v Fs => v = .tuple #[] ∧ Fs = [stF sb 291 (Sha.step st (blk q i))]) (fun β w' hs => by
      have h7 := Bs.cut (hB w' (hs.get 1 rfl)) (c := cap) (m := cap) (i := 0) (j := 64) (by omega) (.inl rfl) (by omega) (by omega) (by omega)
      rw [cutA_z] at h7
      have h8 : Bs w' B (blk q i) := by show Rd 1 B (blk q i).length ((blk q i).map byte) w'; rw [hbl]; exact h7
      have hs2 := hs.sub 1 rfl rfl (bsF B (blk q i)) rfl h8 (bsD_sub hD (by omega))
      have q1 := step_c w' sb 291 st B (blk q i) cap (hs2.mem.take (js := [1, 0, 3]) rfl) (by omega) (by omega) (by omega)
      rw [hbl] at q1
      exact q1) ?_
    rintro v Fs ⟨rfl, rfl⟩
    refine ⟨cap, m, 64, m - 64, cap - 64, _, rfl, rfl, rfl, Nat.le_refl _, hmc, hm64, rfl, rfl, rfl, ?_⟩
    refine ⟨(i + 1, cutA B cap 64 1, cap - 64), ⟨by show 64 * (i + 1) ≤ _; omega, by show q.length - 64 * (i + 1) ≤ cap - 64; omega, by show cap - 64 ≤ _; omega, fun w' h => ?_, cut_blk hD⟩, by show q.length - 64 * (i + 1) < m; omega, Ent.mk' ⟨rfl, ?_, trivial⟩ rfl (fun β w' hs => ?_)⟩
    · exact Bs.cutB (hB w' h) (c := cap) (i := 64) (j := m) (m := q.drop (64 * (i + 1))) (by omega) hm64 (by omega) (by
        rw [List.drop_drop, show 64 * i + 64 = 64 * (i + 1) by omega, List.take_of_length_le]
        rw [List.length_drop]; omega)
    · show _ = some (SV.c (.v (.slice (cutA B cap 64 1) (q.length - 64 * (i + 1)) (cap - 64))))
      rw [show q.length - 64 * (i + 1) = m - 64 by omega]
      rfl
    · show Sat _ _ _ _ [stF sb 291 ((blks q (i + 1)).foldl Sha.step s0), bsF A3 q, oddF 5] w'
      rw [blks_succ, List.foldl_append, hst]
      exact hs
  · have h00 : ¬ (0 : Int) < (m : Int) := h0
    have hi2 : i = q.length / 64 := by omega
    have hsum : Sha.sum T = out st := by rw [sum_T, hq, hs0e, ← hi2, hst]
    refine call_con [0] (fun β w' hs => stbytes_c w' sb 291 st (hs.mem.take (js := [0]) rfl)) ?_
    rintro v Fs ⟨A4, c4, rfl, h5, h6, rfl⟩
    intro β w' hs
    exact hs.fin [1] ⟨A4, c4, rfl, h5, h6, by rw [hsum]; rfl⟩
end Go.Proofs.YteenjgfbbkdlhaaGreatDoor.Sx

namespace Go.Proofs.YteenjgfbbkdlhaaGreatDoor.Sx
open Go
attribute [local irreducible] Calls
structure MacY where
  m : Nat
  bi : Nat
  Ai : Option Addr
  ci : Nat
  bo : Nat
  Ao : Option Addr
  co : Nat
  bn : Nat
  An : Option Addr
  cn : Nat
def macFs (y : MacY) (key T : List UInt8) : List Fact := [bkF y.m ty_hmac_Mac [ptrB y.bi, ptrB y.bo, ptrB y.bn], hshF y.bi (padL key 0x36) y.Ai y.ci, hshF y.bo (padL key 0x5c) y.Ao y.co, hshF y.bn (padL key 0x36 ++ T) y.An y.cn]
def macF (y : MacY) (key T : List UInt8) : Fact := sepF (macFs y key T)
theorem Con.ofSep {P : Program} {k : FuncId} {args : Array Value} {w : World} {L Gs : List Fact} {R : Value → List Fact → Prop} (hsub : ∀ k, Un Gs k → Un [sepF L] k) (h : Con P k args w Gs R) : Con P k args w [sepF L] R :=
  Calls.mono h fun _ _ ⟨v, he, Fs, hR, hc, hm, ho, hD⟩ => ⟨v, he, Fs, hR, hc.mono (fun i _ => hsub i), hm, ho, fun f hf k hk => (hD f hf k hk).imp_left (hsub k)⟩
def mac0 (m bi : Nat) (Ai : Option Addr) (ci bo : Nat) (Ao : Option Addr) (co : Nat) (x : Value) (key : List UInt8) : List Fact := [bkF m ty_hmac_Mac [ptrB bi, ptrB bo, x], hshF bi (padL key 0x36) Ai ci, hshF bo (padL key 0x5c) Ao co]
theorem reset0_c (w : World) (m bi : Nat) (Ai : Option Addr) (ci bo : Nat) (Ao : Option Addr) (co : Nat) (x : Value) (key : List UInt8) (hm : Mem w (mac0 m bi Ai ci bo Ao co x key)) :
    Con Tryz.prog n_hmac_Mac_Reset #[ptrB m] w (mac0 m bi Ai ci bo Ao co x key) fun v Fs => ∃ y', y'.m = m ∧ v = .tuple #[] ∧ Fs = [macF y' key []] := by
  have g := good_hmac_Mac_Reset w (Un (mac0 m bi Ai ci bo Ao co x key))
  refine con_of_sx (cx := cx_hmac_Mac_Reset w (Un (mac0 m bi Ai ci bo Ao co x key))) g b_hmac_Mac_Reset rfl rfl (β := Va.z) [.c (.v (ptrB m))] 0 [] (mac0 m bi Ai ci bo Ao co x key) rfl rfl (hm.sat0 rfl (fun f hf ho k hk => ⟨f, hf, hk⟩)) ?_
  refine ⟨ptrB bi, fun β w' hs => bkcell (hs.get 0 rfl) rfl, ?_⟩
  refine call_con [] (fun β w' hs => hcopy_c w' bi (padL key 0x36) Ai ci (hs.get 1 rfl) (hs.getLt 1 rfl)) ?_
  rintro v Fs ⟨b', A', c', rfl, q1, q2, rfl⟩
  refine ⟨[hshF b' (padL key 0x36) A' c', bkF m ty_hmac_Mac [ptrB bi, ptrB bo, ptrB b'], hshF bi (padL key 0x36) Ai ci, hshF bo (padL key 0x5c) Ao co], fun β w' hs => ?_, ?_⟩
  · exact hs.bkSet 1 (o := 2) (us := [ptrB b']) rfl (show 2 + 1 ≤ 3 by decide) (fun u hu => by obtain rfl := List.mem_singleton.1 hu; rfl)
  intro β w' hs
  have k := hs.sep [1, 2, 3, 0] rfl ⟨rfl, rfl, rfl, rfl, trivial⟩
  refine k.fin [0] ⟨⟨m, bi, Ai, ci, bo, Ao, co, b', A', c'⟩, rfl, rfl, ?_⟩
  unfold macF macFs
  rw [List.append_nil]
  rfl
theorem reset_c (w : World) (y : MacY) (key T : List UInt8) (hm : Mem w [macF y key T]) :
    Con Tryz.prog n_hmac_Mac_Reset #[ptrB y.m] w [macF y key T] fun v Fs => ∃ y', y'.m = y.m ∧ v = .tuple #[] ∧ Fs = [macF y' key []] := by
  have hs0 : Sat (cx_hmac_Mac_Reset w (Un [macF y key T])) Va.z 0 [] [macF y key T] w := hm.sat0 rfl (fun f hf ho k hk => ⟨f, hf, hk⟩)
  have h1 := (hs0.unsep 0 rfl).mem.take (js := [0, 1, 2]) rfl
  refine Con.ofSep (fun k hk => ?_) (reset0_c w y.m y.bi y.Ai y.ci y.bo y.Ao y.co (ptrB y.bn) key h1)
  obtain ⟨f, hf, hk⟩ := hk
  refine ⟨_, List.mem_singleton.2 rfl, f, ?_, hk⟩
  simp only [mac0, List.mem_cons, List.not_mem_nil, or_false] at hf
  unfold macFs
  rcases hf with rfl | rfl | rfl
  · exact List.mem_cons_self
  · exact List.mem_cons_of_mem _ List.mem_cons_self
  · exact List.mem_cons_of_mem _ (List.mem_cons_of_mem _ List.mem_cons_self)
theorem mwrite_c (w : World) (y : MacY) (key T : List UInt8) (P : Option Addr) (p : List UInt8) (d : Nat) (hn : T.length + p.length ≤ 100000000) (hm : Mem w [macF y key T, bsF P p, oddF 5]) :
    Con Tryz.prog n_hmac_Mac_Write #[ptrB y.m, .slice P p.length d] w [macF y key T] fun v Fs => ∃ y', y'.m = y.m ∧ v = .int .i64 p.length ∧ Fs = [macF y' key (T ++ p)] := by
  have g := good_hmac_Mac_Write w (Un [macF y key T])
  have hs0 : Sat (cx_hmac_Mac_Write w (Un [macF y key T])) Va.z 0 [] [macF y key T, bsF P p, oddF 5] w := hm.sat0 rfl (ownIn (Gs := [macF y key T]) (fun f hf => by
    simp only [List.mem_cons, List.not_mem_nil, or_false] at hf
    rcases hf with rfl | rfl <;> rfl))
  refine con_of_sx (cx := cx_hmac_Mac_Write w (Un [macF y key T])) g b_hmac_Mac_Write rfl rfl (β := Va.z) [.c (.v (ptrB y.m)), .c (.v (.slice P p.length d))] 0 [] (macFs y key T ++ [bsF P p, oddF 5]) rfl rfl (hs0.unsep 0 rfl) ?_
  refine ⟨ptrB y.bn, fun β w' hs => bkcell (hs.get 0 rfl) rfl, ?_⟩
  refine call_con [3] (fun β w' hs => hwrite_c w' y.bn (padL key 0x36 ++ T) y.An y.cn P p d (by rw [List.length_append, padL_len]; omega) (hs.mem.take (js := [3, 4, 5]) rfl)) ?_
  rintro v Fs ⟨A', c', rfl, rfl⟩
  intro β w' hs
  have k := hs.sep [1, 2, 3, 0] rfl ⟨rfl, rfl, rfl, rfl, trivial⟩
  refine k.fin [0] ⟨⟨y.m, y.bi, y.Ai, y.ci, y.bo, y.Ao, y.co, y.bn, A', c'⟩, rfl, rfl, ?_⟩
  unfold macF macFs
  rw [← List.append_assoc]
  rfl
theorem msum_c (w : World) (y : MacY) (key T : List UInt8) (hn : T.length ≤ 100000000) (h : (macF y key T).p w) (hD : ∀ k, (macF y key T).D k → k < w.heap.size) (h1 : (oddF 5).p w) :
    Con Tryz.prog n_hmac_Mac_Sum #[ptrB y.m] w [] fun v Fs => ∃ A' c', v = .slice A' 32 c' ∧ 32 ≤ c' ∧ c' ≤ maxLen ∧ Fs = [browF ty_uint8 A' (hmL key T) c'] := by
  have g := good_hmac_Mac_Sum w (Un [])
  refine con_of_sx (cx := cx_hmac_Mac_Sum w (Un [])) g b_hmac_Mac_Sum rfl rfl (β := Va.z) [.c (.v (ptrB y.m))] 0 [] [oldF w] rfl rfl (old_sat rfl) ?_
  have hb : ∀ {w'}, (oldF w).p w' → (bkF y.m ty_hmac_Mac [ptrB y.bi, ptrB y.bo, ptrB y.bn]).p w' := fun ho => (factOld h hD ho).1 _ (by simp [macFs])
  have ho_ : ∀ {w'}, (oldF w).p w' → (hshF y.bo (padL key 0x5c) y.Ao y.co).p w' := fun ho => (factOld h hD ho).1 _ (by simp [macFs])
  have hn_ : ∀ {w'}, (oldF w).p w' → (hshF y.bn (padL key 0x36 ++ T) y.An y.cn).p w' := fun ho => (factOld h hD ho).1 _ (by simp [macFs])
  have hDo : ∀ k, (hshF y.bo (padL key 0x5c) y.Ao y.co).D k → k < w.heap.size := fun k hk => hD k ⟨_, by simp [macFs], hk⟩
  have hDn : ∀ k, (hshF y.bn (padL key 0x36 ++ T) y.An y.cn).D k → k < w.heap.size := fun k hk => hD k ⟨hshF y.bn (padL key 0x36 ++ T) y.An y.cn, by simp [macFs], hk⟩
  refine ⟨ptrB y.bo, fun β w' hs => bkcell (hb (hs.get 0 rfl)) rfl, ?_⟩
  refine call_con [] (fun β w' hs => hcopy_c w' y.bo (padL key 0x5c) y.Ao y.co (ho_ (hs.get 0 rfl)) (fun k hk => Nat.lt_of_lt_of_le (hDo k hk) hs.chg.size)) ?_
  rintro v Fs ⟨b', A', c', rfl, _, _, rfl⟩
  refine ⟨ptrB y.bn, fun β w' hs => bkcell (hb (hs.get 1 rfl)) rfl, ?_⟩
  refine call_con [] (fun β w' hs => hval_c w' y.bn (padL key 0x36 ++ T) y.An y.cn (by rw [List.length_append, padL_len]; omega) (hn_ (hs.get 1 rfl)) (fun k hk => Nat.lt_of_lt_of_le (hDn k hk) hs.chg.size) (Rd.old h1 (hs.get 1 rfl))) ?_
  rintro v Fs ⟨A2, c2, rfl, _, _, rfl⟩
  obtain ⟨s, hse⟩ : ∃ s, Sha.sum (padL key 0x36 ++ T) = s := ⟨_, rfl⟩
  have hsl : s.length = 32 := by rw [← hse]; exact sum_len _
  refine call_con [1] (R := fun v Fs => ∃ A'' c'', v = .int .i64 32 ∧ Fs = [hshF b' (padL key 0x5c ++ s) A'' c'']) (fun β w' hs => by
    have k1 := hs.ro 0 rfl
    have k2 := k1.sub 2 rfl rfl (oddF 5) rfl (Rd.old h1 (hs.get 2 rfl)) (rd_lt h1)
    rw [hse] at k2
    have q := hwrite_c w' b' (padL key 0x5c) A' c' A2 s c2 (by rw [padL_len, hsl]; decide) (k2.mem.take (js := [2, 1, 0]) rfl)
    rw [hsl] at q
    exact q) ?_
  rintro v Fs ⟨A3, c3, rfl, rfl⟩
  refine call_con [] (fun β w' hs => hval_c w' b' (padL key 0x5c ++ s) A3 c3 (by rw [List.length_append, padL_len, hsl]; decide) (hs.get 0 rfl) (hs.getLt 0 rfl) (Rd.old h1 (hs.get 2 rfl))) ?_
  rintro v Fs ⟨A4, c4, rfl, h5, h6, rfl⟩
  intro β w' hs
  exact hs.fin [0] ⟨A4, c4, rfl, h5, h6, by unfold hmL; rw [hse]; rfl⟩
theorem begun_c (w : World) (B : Option Addr) (l : List UInt8) (c : Nat) (hr : Bs w B l) (hn : l.length ≤ 1000000) (h1 : (oddF 5).p w) (h0 : (firstF 2).p w) :
    Con Tryz.prog n_hmac_begun #[.slice B l.length c] w [] fun v Fs => ∃ b A' c', v = ptrB b ∧ Fs = [hshF b l A' c'] := by
  have g := good_hmac_begun w (Un [])
  have hs0 : Sat (cx_hmac_begun w (Un [])) Va.z 0 [] [oldF w] w := old_sat rfl
  have hs1 := (hs0.sub 0 rfl rfl (oddF 5) rfl h1 (rd_lt h1)).sub 1 rfl rfl (bsF B l) rfl hr (rd_lt hr)
  refine con_of_sx (cx := cx_hmac_begun w (Un [])) g b_hmac_begun rfl rfl (β := Va.z) [.c (.v (.slice B l.length c))] 0 [] [bsF B l, oddF 5, oldF w] rfl rfl hs1 ?_
  refine call_con [] (fun β w' hs => hnew_c w' (Rd.old h0 (hs.get 2 rfl))) ?_
  rintro v Fs ⟨b, rfl, rfl⟩
  refine call_con [0] (fun β w' hs => hwrite_c w' b [] none 0 B l c (by show 0 + l.length ≤ _; omega) (hs.mem.take (js := [0, 1, 2]) rfl)) ?_
  rintro v Fs ⟨A', c', rfl, rfl⟩
  intro β w' hs
  exact hs.fin [0] ⟨b, A', c', rfl, rfl⟩
set_option maxHeartbeats 1000000 in
theorem mnew_c (w : World) (A : Option Addr) (key : List UInt8) (c : Nat) (hr : Bs w A key) (hn : key.length ≤ 1000000) (h1 : (oddF 5).p w) (h0 : (firstF 2).p w) :
    Con Tryz.prog n_hmac_New #[.slice A key.length c] w [] fun v Fs => ∃ y, v = ptrB y.m ∧ Fs = [macF y key []] := by
  have g := good_hmac_New w (Un [])
  have l64 : ∀ x, (padL key x).length = 64 := padL_len key
  refine con_of_tri (cx := cx_hmac_New w (Un [])) g b_hmac_New rfl rfl (β := Va.z) [.c (.v (.slice A key.length c))] 0 [] [oldF w] rfl rfl (old_sat rfl) ?_
  refine tri_seq g ?_
  refine tri_seq g ?_
  refine call_con [] (fun β w' hs => pad_c w' A key c 0x36 (Rd.old hr (hs.get 0 rfl)) hn (Rd.old h1 (hs.get 0 rfl)) (Rd.old h0 (hs.get 0 rfl))) ?_
  rintro v Fs ⟨p1, j1, rfl, rfl⟩
  refine call_con [] (fun β w' hs => by
    have q := begun_c w' (some ⟨p1, 0, none⟩) (padL key 0x36) 64 (bk_bs (hs.get 0 rfl)) (by rw [l64]; decide) (Rd.old h1 (hs.get 1 rfl)) (Rd.old h0 (hs.get 1 rfl))
    rw [l64] at q
    exact q) ?_
  rintro v Fs ⟨bi, Ai, ci, rfl, rfl⟩
  refine call_con [] (fun β w' hs => pad_c w' A key c 0x5c (Rd.old hr (hs.get 2 rfl)) hn (Rd.old h1 (hs.get 2 rfl)) (Rd.old h0 (hs.get 2 rfl))) ?_
  rintro v Fs ⟨p2, j2, rfl, rfl⟩
  refine call_con [] (fun β w' hs => by
    have q := begun_c w' (some ⟨p2, 0, none⟩) (padL key 0x5c) 64 (bk_bs (hs.get 0 rfl)) (by rw [l64]; decide) (Rd.old h1 (hs.get 3 rfl)) (Rd.old h0 (hs.get 3 rfl))
    rw [l64] at q
    exact q) ?_
  rintro v Fs ⟨bo, Ao, co, rfl, rfl⟩
  refine reify_rule g 0 (fun _ => [ptrB bi, ptrB bo, .pointer none]) rfl rfl (fun _ => rfl) (fun mb => ?_)
  refine call_con [0, 3, 1] (fun β w' hs => reset0_c w' mb bi Ai ci bo Ao co (.pointer none) key (hs.mem.take (js := [0, 3, 1]) rfl)) ?_ ⟨rfl, rfl, rfl, trivial⟩
  rintro v Fs ⟨y, hy, rfl, rfl⟩
  intro β w' hs
  refine hs.fin [0] ⟨y, ?_, rfl⟩
  rw [hy]
  rfl
abbrev Part := Option Addr × List UInt8 × Nat
def partV (p : Part) : Value := .slice p.1 p.2.1.length p.2.2
def partsT (ps : List Part) : List UInt8 := ps.flatMap (·.2.1)
def partF (P : Option Addr) (ps : List Part) : Fact where
  own := false
  D := fun k => (rdF 1 P ps.length (ps.map partV)).D k ∨ ∃ p ∈ ps, (bsF p.1 p.2.1).D k
  p := fun w => Rd 1 P ps.length (ps.map partV) w ∧ ∀ p ∈ ps, Bs w p.1 p.2.1
  st := fun w w' hs h => ⟨(rdF 1 P ps.length (ps.map partV)).st w w' (fun k hk => hs k (.inl hk)) h.1, fun p hp => (bsF p.1 p.2.1).st w w' (fun k hk => hs k (.inr ⟨p, hp, hk⟩)) (h.2 p hp)⟩
def cellR (b : Nat) (v : Value) : Fact where
  own := false
  D := fun k => k = b
  p := fun w => w.cell? ⟨b, 0, none⟩ = some v
  st := fun w w' hs h => by rw [← h]; exact World.cell?_of_block (hs b rfl)
theorem Mem.weakHead {w : World} {f g : Fact} {L : List Fact} (h : Mem w (f :: L)) (ho : g.own = true → f.own = true) (hp : f.p w → g.p w) (hD : ∀ k, g.D k → f.D k) : Mem w (g :: L) := by
  refine ⟨fun x hx => ?_, fun x hx k hk => ?_, List.pairwise_cons.2 ⟨fun x hx q k hk => ?_, (List.pairwise_cons.1 h.sepf).2⟩⟩
  · rcases List.mem_cons.1 hx with rfl | hx
    · exact hp (h.fact f List.mem_cons_self)
    · exact h.fact x (List.mem_cons_of_mem _ hx)
  · rcases List.mem_cons.1 hx with rfl | hx
    · exact h.flt f List.mem_cons_self k (hD k hk)
    · exact h.flt x (List.mem_cons_of_mem _ hx) k hk
  · exact (List.pairwise_cons.1 h.sepf).1 x hx (q.imp_left ho) k (hD k hk)
theorem Sat.withCell {cx : Cx} {β : Va} {n : Nat} {H : List Bk} {F : List Fact} {w : World} (h : Sat cx β n H F w) {b : Bk} (hb : b ∈ H) {x : SL} (hx : b.cells = [x]) {js : List Nat} (hn : nodupB js = true) : Mem w (cellR (β b.id) (x.val β) :: takeIx F js) := by
  have h1 := h.weaken (H' := [b]) (F' := F) (List.singleton_sublist.2 hb) (List.Sublist.refl F)
  obtain ⟨id, ty, cells⟩ := b
  simp only at hx
  subst hx
  have h2 := h1.ofBk
  have hm := h2.mem
  have h3 : Mem w (bkF (β id) ty ([x].map (SL.val β)) :: takeIx F js) := by
    have hmt := (⟨fun f hf => hm.fact f (List.mem_cons_of_mem _ hf), fun f hf => hm.flt f (List.mem_cons_of_mem _ hf), (List.pairwise_cons.1 hm.sepf).2⟩ : Mem w F).take (js := js) hn
    refine ⟨fun f hf => ?_, fun f hf k hk => ?_, List.pairwise_cons.2 ⟨fun f hf ho k hk => ?_, hmt.sepf⟩⟩
    · rcases List.mem_cons.1 hf with rfl | hf
      · exact hm.fact _ List.mem_cons_self
      · exact hmt.fact f hf
    · rcases List.mem_cons.1 hf with rfl | hf
      · exact hm.flt _ List.mem_cons_self k hk
      · exact hmt.flt f hf k hk
    · obtain ⟨j, _, hj⟩ := takeIx_mem hf
      exact (List.pairwise_cons.1 hm.sepf).1 f (List.mem_of_getElem? hj) ho k hk
  refine h3.weakHead (fun q => by cases q) (fun q => ?_) (fun k hk => hk)
  exact bkcell q rfl
set_option maxHeartbeats 1000000 in
theorem once_c (w : World) (bx : Nat) (y : MacY) (key T0 : List UInt8) (P : Option Addr) (ps : List Part) (cP : Nat) (hn : (partsT ps).length ≤ 1000000) (hl : ps.length ≤ 1000) (hm : Mem w [macF y key T0, cellR bx (ptrB y.m), partF P ps, oddF 5]) :
    Con Tryz.prog n_hmac_pieces_1_1 #[.slice P ps.length cP, ptrB bx] w [macF y key T0] fun v Fs => ∃ A' c' y' T', y'.m = y.m ∧ v = .slice A' 32 c' ∧ 32 ≤ c' ∧ c' ≤ maxLen ∧ Fs = [browF ty_uint8 A' (hmL key (partsT ps)) c', macF y' key T'] := by
  have g := good_hmac_pieces_1_1 w (Un [macF y key T0])
  have hs0 : Sat (cx_hmac_pieces_1_1 w (Un [macF y key T0])) Va.z 0 [] [macF y key T0, cellR bx (ptrB y.m), partF P ps, oddF 5] w := hm.sat0 rfl (ownIn (Gs := [macF y key T0]) (fun f hf => by
    simp only [List.mem_cons, List.not_mem_nil, or_false] at hf
    rcases hf with rfl | rfl | rfl <;> rfl))
  refine con_of_sx (cx := cx_hmac_pieces_1_1 w (Un [macF y key T0])) g b_hmac_pieces_1_1 rfl rfl (β := Va.z) [.c (.v (.slice P ps.length cP)), .c (.v (ptrB bx))] 0 [] [macF y key T0, cellR bx (ptrB y.m), partF P ps, oddF 5] rfl rfl hs0 ?_
  refine ⟨ptrB y.m, fun β w' hs => hs.get 1 rfl, ?_⟩
  refine call_con [0] (fun β w' hs => reset_c w' y key T0 (hs.mem.take (js := [0]) rfl)) ?_
  rintro v Fs ⟨y1, hy1, rfl, rfl⟩
  refine loop_rule (ι := Nat × MacY) 0 (fun i => [(1, .c (.v (ptrB bx))), (8, .c (.v (.slice P ps.length cP))), (9, .c (.v (.int .i64 (ps.length : Int)))), (10, .c (.v (.int .i64 (i.1 : Int))))]) (fun _ => []) (fun i => [macF i.2 key (partsT (ps.take i.1)), cellR bx (ptrB y.m), partF P ps, oddF 5])
    (fun i => i.1 ≤ ps.length ∧ i.2.m = y.m) (fun i => ps.length - i.1) (0, y1) ⟨Nat.zero_le _, hy1⟩ (Ent.same ⟨rfl, rfl, rfl, rfl, trivial⟩ rfl) g ?_
  rintro ⟨i, yi⟩ ⟨hi, hyi⟩
  simp only at hi hyi
  have hpre : ∀ k, (partsT (ps.take k)).length ≤ (partsT ps).length := fun k => by
    conv => rhs; rw [← List.take_append_drop k ps]
    unfold partsT
    rw [List.flatMap_append, List.length_append]
    omega
  refine BIf.dec (fun hlt => ?_) (fun hge => ?_)
  · have hlt0 : (i : Int) < (ps.length : Int) := hlt
    have hil : i < ps.length := by omega
    obtain ⟨p, hp, hpm⟩ := at_lt hil
    have hPa : ∃ ad, P = some ad := by
      obtain ⟨ad, q, _⟩ := (hm.fact (partF P ps) (by simp)).1.2 (by omega)
      exact ⟨ad, q⟩
    obtain ⟨ad, hPa⟩ := hPa
    refine ⟨ad, i, hPa, rfl, hil, partV p, fun β w' hs => by
      have h : Rd 1 P ps.length (ps.map partV) w' := (hs.get 2 rfl : (partF P ps).p w').1
      rw [hPa] at h
      exact Rd.cell1 h (by rw [List.getElem?_map, hp]; rfl), ?_⟩
    refine ⟨ptrB y.m, fun β w' hs => hs.get 1 rfl, ?_⟩
    have hlen : (partsT (ps.take (i + 1))) = partsT (ps.take i) ++ p.2.1 := by
      unfold partsT
      rw [List.take_add_one, hp, List.flatMap_append]
      simp
    have hb1 := hpre (i + 1)
    rw [hlen, List.length_append] at hb1
    refine call_con [0] (R := fun v Fs => ∃ y', y'.m = y.m ∧ v = .int .i64 p.2.1.length ∧ Fs = [macF y' key (partsT (ps.take (i + 1)))]) (fun β w' hs => by
      have k1 := hs.sub 2 rfl rfl (bsF p.1 p.2.1) rfl ((hs.get 2 rfl : (partF P ps).p w').2 p hpm) (fun k hk => .inr ⟨p, hpm, hk⟩)
      have q := mwrite_c w' yi key (partsT (ps.take i)) p.1 p.2.1 p.2.2 (by omega) (k1.mem.take (js := [1, 0, 4]) rfl)
      rw [hyi, ← hlen] at q
      exact q) ?_
    rintro v Fs ⟨y2, hy2, rfl, rfl⟩
    refine ⟨((i + 1 : Nat) : Int), by rw [wrap_i64 (by omega) (by omega)]; rfl, ?_⟩
    exact ⟨(i + 1, y2), ⟨hil, hy2⟩, by show ps.length - (i + 1) < ps.length - i; omega, Ent.same ⟨rfl, rfl, rfl, rfl, trivial⟩ rfl⟩
  · have hge0 : ¬ (i : Int) < (ps.length : Int) := hge
    obtain rfl : i = ps.length := by omega
    rw [List.take_length]
    refine ⟨ptrB y.m, fun β w' hs => hs.get 1 rfl, ?_⟩
    refine call_con [] (fun β w' hs => by
      have q := msum_c w' yi key (partsT ps) (by omega) (hs.get 0 rfl) (hs.getLt 0 rfl) (hs.get 3 rfl)
      rw [hyi] at q
      exact q) ?_
    rintro v Fs ⟨A', c', rfl, h5, h6, rfl⟩
    intro β w' hs
    exact hs.fin [0, 1] ⟨A', c', yi, partsT ps, hyi, rfl, h5, h6, rfl⟩
end Go.Proofs.YteenjgfbbkdlhaaGreatDoor.Sx

namespace Go.Proofs.YteenjgfbbkdlhaaGreatDoor.Sx
open Go
attribute [local irreducible] Calls
section
variable {cx : Cx} {β : Va} {n : Nat} {H : List Bk} {F : List Fact} {w : World}
theorem Sat.subN (h : Sat cx β n H F w) (js : List Nat) (hno : ∀ f ∈ takeIx F js, f.own = false) (g : Fact) (hgo : g.own = false) (hp : g.p w) (hD : ∀ k, g.D k → Un (takeIx F js) k) : Sat cx β n H (g :: F) w := by
  have hin : ∀ k, g.D k → ∃ (i : Nat) (f : Fact), F[i]? = some f ∧ f.own = false ∧ f.D k := fun k hk => by
    obtain ⟨f, hf, hfk⟩ := hD k hk
    obtain ⟨i, _, hi⟩ := takeIx_mem hf
    exact ⟨i, f, hi, hno f hf, hfk⟩
  refine h.old g hp (fun k hk => ?_) (fun b hb q => ?_) (fun q => by rw [hgo] at q; cases q) (fun g' hg' ho k hk hk' => ?_) (fun p hpp q => ?_)
  · obtain ⟨i, f, hi, _, hfk⟩ := hin k hk
    exact h.flt f (List.mem_of_getElem? hi) k hfk
  · obtain ⟨i, f, hi, _, hfk⟩ := hin _ q
    exact h.sepb f (List.mem_of_getElem? hi) b hb hfk
  · have ho' : g'.own = true := ho.resolve_left (by rw [hgo]; decide)
    obtain ⟨i, f, hi, hfo, hfk⟩ := hin k hk
    obtain ⟨j, hj⟩ := List.getElem?_of_mem hg'
    have hne : j ≠ i := fun q => by subst q; rw [hj] at hi; obtain rfl := Option.some.inj hi; rw [hfo] at ho'; cases ho'
    exact h.apart hj hi hne (.inl ho') k hk' hfk
  · obtain ⟨i, f, hi, _, hfk⟩ := hin _ q
    exact (h.pin p hpp).2.2 f (List.mem_of_getElem? hi) hfk
theorem rowD {e size : Nat} {A : Option Addr} {k c : Nat} {xs : List Value} {w : World} (h : (rowF e size (.slice A k c) k xs).p w) : ∀ b, (rdF size A k xs).D b → (rowF e size (.slice A k c) k xs).D b := by
  rintro b ⟨h0, ad, q, rfl⟩
  have hk : 0 < k := Nat.pos_of_ne_zero (fun q => by rw [q, Nat.zero_mul] at h0; exact Nat.lt_irrefl _ h0)
  rcases h.2 with ⟨he, h0⟩ | ⟨g, cap, cur, he, _⟩
  · omega
  · have hA : A = some ⟨g, 0, none⟩ := by injection he
    rw [q] at hA
    obtain rfl := Option.some.inj hA
    show Value.ownBlock (.slice A k c) = _
    rw [q]
    rfl
theorem Sat.rowRd (h : Sat cx β n H F w) (j : Nat) {e size : Nat} {A : Option Addr} {k c : Nat} {xs : List Value} (hj : nth F j = some (rowF e size (.slice A k c) k xs)) : Sat cx β n H (putAt F j (rdF size A k xs)) w := by
  have hp := h.get j hj
  exact h.upd hj rfl (Chg.refl _ _) (row_rd hp) (fun b hb => .inl (rowD hp b hb))
theorem Sat.part1 {P A : Option Addr} {l : List UInt8} {c : Nat} (h : Sat cx β n H F w) (js : List Nat) (hj : takeIx F js = [rdF 1 P 1 [.slice A l.length c], bsF A l]) : Sat cx β n H (partF P [(A, l, c)] :: F) w := by
  have hP : Rd 1 P 1 [.slice A l.length c] w := h.fact _ (by
    have : rdF 1 P 1 [.slice A l.length c] ∈ takeIx F js := by rw [hj]; simp
    obtain ⟨i, _, hi⟩ := takeIx_mem this
    exact List.mem_of_getElem? hi)
  have hA : Bs w A l := h.fact (bsF A l) (by
    have : bsF A l ∈ takeIx F js := by rw [hj]; simp
    obtain ⟨i, _, hi⟩ := takeIx_mem this
    exact List.mem_of_getElem? hi)
  refine h.subN js (fun f hf => ?_) _ rfl ⟨hP, fun p hp => ?_⟩ (fun k hk => ?_)
  · rw [hj] at hf
    simp only [List.mem_cons, List.not_mem_nil, or_false] at hf
    rcases hf with rfl | rfl <;> rfl
  · obtain rfl := List.mem_singleton.1 hp; exact hA
  · rw [hj]
    rcases hk with hk | ⟨p, hp, hk⟩
    · exact ⟨_, List.mem_cons_self, hk⟩
    · obtain rfl := List.mem_singleton.1 hp
      exact ⟨_, List.mem_cons_of_mem _ List.mem_cons_self, hk⟩
theorem Sat.part2 {P A B : Option Addr} {l m : List UInt8} {c d : Nat} (h : Sat cx β n H F w) (js : List Nat) (hj : takeIx F js = [rdF 1 P 2 [.slice A l.length c, .slice B m.length d], bsF A l, bsF B m]) : Sat cx β n H (partF P [(A, l, c), (B, m, d)] :: F) w := by
  have get : ∀ f ∈ takeIx F js, f.p w := fun f hf => by obtain ⟨i, _, hi⟩ := takeIx_mem hf; exact h.fact f (List.mem_of_getElem? hi)
  have hP : Rd 1 P 2 [.slice A l.length c, .slice B m.length d] w := get (rdF 1 P 2 [.slice A l.length c, .slice B m.length d]) (by rw [hj]; simp)
  have hA : Bs w A l := get (bsF A l) (by rw [hj]; simp)
  have hB : Bs w B m := get (bsF B m) (by rw [hj]; simp)
  refine h.subN js (fun f hf => ?_) _ rfl ⟨hP, fun p hp => ?_⟩ (fun k hk => ?_)
  · rw [hj] at hf
    simp only [List.mem_cons, List.not_mem_nil, or_false] at hf
    rcases hf with rfl | rfl | rfl <;> rfl
  · simp only [List.mem_cons, List.not_mem_nil, or_false] at hp
    rcases hp with rfl | rfl
    · exact hA
    · exact hB
  · rw [hj]
    rcases hk with hk | ⟨p, hp, hk⟩
    · exact ⟨_, List.mem_cons_self, hk⟩
    · simp only [List.mem_cons, List.not_mem_nil, or_false] at hp
      rcases hp with rfl | rfl
      · exact ⟨bsF A l, by simp, hk⟩
      · exact ⟨bsF B m, by simp, hk⟩
end
theorem four_c (w : World) : Con Tryz.prog n_hmac_four #[.int .i64 1] w [] fun v Fs => ∃ b, v = .slice (some ⟨b, 0, none⟩) 4 4 ∧ Fs = [browF ty_uint8 (some ⟨b, 0, none⟩) (Bx.be4 1) 4] := by
  have g := good_hmac_four w (Un [])
  refine con_of_sx (cx := cx_hmac_four w (Un [])) g b_hmac_four rfl rfl (β := Va.z) [.c (.v (.int .i64 1))] 0 [] [] rfl rfl (Sat.start rfl) ?_
  refine ⟨by decide, 0, by decide, 0, by decide, by decide, 0, by decide, 0, by decide, by decide, 0, by decide, 0, by decide, 1, by decide, ?_⟩
  intro b
  intro β w' hs
  exact hs.fin [0] ⟨b, rfl, rfl⟩
def insP (x : List UInt8) (args : Array Value) (X : Fact) : Prop := x.length = 32 ∧ ∃ A c, args = #[.slice A 32 c] ∧ X = bsF A x
set_option maxHeartbeats 2000000 in
theorem pieces_it (l : Nat) (w : World) (bx1 bx2 bx3 : Nat) (A B : Option Addr) (pass salt : List UInt8) (c d rounds : Nat) (f0 R : Fact) (J Jx : List (List UInt8) → Fact → Prop) (hJ0 : J [] f0) (hJo : ∀ pre f, J pre f → f.own = true) (hRo : R.own = false) (hY : Yc Tryz.prog l J Jx R (fun _ => insP)) (hJS : ∀ x f, ¬ J [x] f)
    (hk : pass.length ≤ 1000000) (hn : salt.length ≤ 100000) (hr1 : 1 ≤ rounds) (hr2 : rounds ≤ 64)
    (hm : Mem w (f0 :: R :: [bkF bx1 ty_sl_uint8 [.slice A pass.length c], bkF bx2 ty_sl_uint8 [.slice B salt.length d], bkF bx3 ty_int [.int .i64 rounds], bsF A pass, bsF B salt, oddF 5, firstF 2])) :
    Con Tryz.prog n_hmac_pieces_1 #[.func (.yield l) #[] #[], ptrB bx1, ptrB bx2, ptrB bx3] w [f0, bkF bx1 ty_sl_uint8 [.slice A pass.length c], bkF bx2 ty_sl_uint8 [.slice B salt.length d], bkF bx3 ty_int [.int .i64 rounds]]
      (fun _ Fs => ∃ f Fs', Fs = f :: Fs' ∧ ((∃ xs, J xs f ∧ False) ∨ (∃ pre, Jx pre f ∧ pre = [stretchL pass salt rounds] ∧ Fs' = []))) := by
  obtain ⟨Gs, hGs⟩ : ∃ Gs, Gs = [f0, bkF bx1 ty_sl_uint8 [.slice A pass.length c], bkF bx2 ty_sl_uint8 [.slice B salt.length d], bkF bx3 ty_int [.int .i64 rounds]] := ⟨_, rfl⟩
  rw [← hGs]
  have g := good_hmac_pieces_1 w (Un Gs) [bx1, bx2, bx3]
  have hf0 := hJo _ _ hJ0
  have hs0 : Sat (cx_hmac_pieces_1 w (Un Gs) [bx1, bx2, bx3]) (Va.of fun i => [bx1, bx2, bx3].getD i 0) 3 [] (f0 :: R :: [bkF bx1 ty_sl_uint8 [.slice A pass.length c], bkF bx2 ty_sl_uint8 [.slice B salt.length d], bkF bx3 ty_int [.int .i64 rounds], bsF A pass, bsF B salt, oddF 5, firstF 2]) w := by
    refine hm.sat rfl (fun f hf ho k hk => ?_) ⟨Nat.le_refl 3, fun i hi => rfl⟩
    simp only [List.mem_cons, List.not_mem_nil, or_false] at hf
    rcases hf with rfl | rfl | rfl | rfl | rfl | rfl | rfl | rfl | rfl
    · exact ⟨_, by rw [hGs]; simp, hk⟩
    · rw [hRo] at ho; cases ho
    · exact ⟨_, by rw [hGs]; simp, hk⟩
    · exact ⟨bkF bx2 ty_sl_uint8 [.slice B salt.length d], by rw [hGs]; simp, hk⟩
    · exact ⟨bkF bx3 ty_int [.int .i64 rounds], by rw [hGs]; simp, hk⟩
    · cases ho
    · cases ho
    · cases ho
    · cases ho
  have hs1 := ((hs0.toBk 2 rfl 0 (by decide) rfl).toBk 2 rfl 1 (by decide) rfl).toBk 2 rfl 2 (by decide) rfl
  have hml := maxLen_eq
  refine con_of_sx (cx := cx_hmac_pieces_1 w (Un Gs) [bx1, bx2, bx3]) g b_hmac_pieces_1 rfl rfl (β := Va.of fun i => [bx1, bx2, bx3].getD i 0) [.c (.v (.func (.yield l) #[] #[])), .c (.p 0 0), .c (.p 1 0), .c (.p 2 0)] 3 [⟨2, ty_int, [.v (.int .i64 rounds)]⟩, ⟨1, ty_sl_uint8, [.v (.slice B salt.length d)]⟩, ⟨0, ty_sl_uint8, [.v (.slice A pass.length c)]⟩] [f0, R, bsF A pass, bsF B salt, oddF 5, firstF 2] rfl rfl hs1 ?_
  refine call_con [] (fun β w' hs => mnew_c w' A pass c (hs.get 2 rfl) hk (hs.get 4 rfl) (hs.get 5 rfl)) ?_
  rintro v Fs ⟨y, rfl, rfl⟩
  refine loop_rule (ι := Unit) 4 (fun _ => [(0, .c (.v (.func (.yield l) #[] #[]))), (2, .c (.p 1 0)), (3, .c (.p 2 0)), (6, .fn (.func n_hmac_pieces_1_1) [] [.p 3 0]), (7, .c (.v (.int .i64 1)))])
    (fun _ => [⟨3, 355, [.v (ptrB y.m)]⟩, ⟨2, ty_int, [.v (.int .i64 rounds)]⟩, ⟨1, ty_sl_uint8, [.v (.slice B salt.length d)]⟩]) (fun _ => [macF y pass [], f0, R, bsF B salt, oddF 5]) (fun _ => True) (fun _ => 0) () trivial (Ent.mk' ⟨rfl, rfl, rfl, rfl, rfl, trivial⟩ rfl (fun β w' hs => (hs.keepB (by
      refine List.Sublist.cons_cons _ (List.Sublist.cons_cons _ (List.Sublist.cons_cons _ (List.nil_sublist _))))).perm [0, 1, 2, 4, 5])) g ?_
  intro _ _
  obtain ⟨S, hSe⟩ : ∃ S : Nat → List UInt8, S = strU pass salt := ⟨_, rfl⟩
  obtain ⟨X, hXe⟩ : ∃ X : Nat → List UInt8, X = strX pass salt := ⟨_, rfl⟩
  have hS0 : hmL pass (salt ++ Bx.be4 1) = S 0 := by rw [hSe]; rfl
  have hX0 : S 0 = X 0 := by rw [hSe, hXe]; rfl
  have hSl : ∀ n, (S n).length = 32 := fun n => by rw [hSe]; exact strU_len _ _ n
  have hXl : ∀ n, (X n).length = 32 := fun n => by rw [hXe]; exact strX_len _ _ n
  have hSs : ∀ n, hmL pass (S n) = S (n + 1) := fun n => by rw [hSe]; rfl
  have hXs : ∀ n, Bx.xorB (X n) (S (n + 1)) = X (n + 1) := fun n => by rw [hSe, hXe]; rfl
  have hTX : stretchL pass salt rounds = X (rounds - 1) := by rw [hXe]; rfl
  obtain ⟨bk3, hbk3⟩ : ∃ bk3 : Bk, bk3 = ⟨3, 355, [.v (ptrB y.m)]⟩ := ⟨_, rfl⟩
  have hsub : ∀ {n : Nat} {F : List Fact}, Sub (cx_hmac_pieces_1 w (Un Gs) [bx1, bx2, bx3]) n [⟨3, 355, [.v (ptrB y.m)]⟩, ⟨2, ty_int, [.v (.int .i64 rounds)]⟩, ⟨1, ty_sl_uint8, [.v (.slice B salt.length d)]⟩] F [⟨1, ty_sl_uint8, [.v (.slice B salt.length d)]⟩] [] := fun {n F} => Sub.of ((List.sublist_cons_self _ _).trans (List.sublist_cons_self _ _)) (List.nil_sublist _)
  refine draw_rule g p_hmac_pieces_1_4 (by kernel_rfl) [⟨1, ty_sl_uint8, [.v (.slice B salt.length d)]⟩] [] hsub ?_
  refine call_con [] (fun β w' hs => four_c w') ?_
  rintro v Fs ⟨b4, rfl, rfl⟩
  refine ⟨hsub, ?_⟩
  intro b2
  refine ⟨hsub, ?_⟩
  refine call_con [2] (A := fun β => #[.slice (some ⟨b2, 0, none⟩) 2 2, ptrB (β 3)]) (R := fun v Fs => ∃ A' c' y' T', y'.m = y.m ∧ v = .slice A' 32 c' ∧ Fs = [browF ty_uint8 A' (S 0) c', macF y' pass T']) (fun β w' hs => by
    have k1 := (hs.rowRd 0 rfl).ro 1 rfl
    have k2 := k1.part2 (P := some ⟨b2, 0, none⟩) (A := B) (l := salt) (c := d) (B := some ⟨b4, 0, none⟩) (m := Bx.be4 1) (d := 4) [0, 5, 1] rfl
    have k3 := k2.withCell (b := ⟨3, 355, [.v (ptrB y.m)]⟩) (by simp) rfl (js := [3, 0, 7]) rfl
    have q := once_c w' (β 3) y pass [] (some ⟨b2, 0, none⟩) [(B, salt, d), (some ⟨b4, 0, none⟩, Bx.be4 1, 4)] 2 (by show (salt ++ (Bx.be4 1 ++ [])).length ≤ _; simp only [List.length_append, List.length_nil]; show salt.length + (4 + 0) ≤ _; omega) (by show 2 ≤ 1000; decide) (k3.take (js := [1, 0, 2, 3]) rfl)
    have e : partsT [(B, salt, d), (some ⟨b4, 0, none⟩, Bx.be4 1, 4)] = salt ++ Bx.be4 1 := by simp [partsT]
    rw [e, hS0] at q
    exact q.mono (by rintro v Fs ⟨A', c', y', T', h1, rfl, _, _, rfl⟩; exact ⟨A', c', y', T', h1, rfl, rfl⟩)) ?_
  rintro v Fs ⟨A5, c5, y5, T5, hy5, rfl, rfl⟩
  refine ⟨hsub, ?_⟩
  refine ⟨((rounds - 1 : Nat) : Int), by rw [wrap_i64 (by omega) (by omega)]; omega, ?_⟩
  refine loop_rule (ι := Nat × (Option Addr × Nat) × (Option Addr × Nat) × MacY × List UInt8) 4 (fun i => [(0, .c (.v (.func (.yield l) #[] #[]))), (6, .fn (.func n_hmac_pieces_1_1) [] [.p 3 0]), (8, .c (.v (.slice i.2.1.1 32 i.2.1.2))), (9, .c (.v (.slice i.2.2.1.1 32 i.2.2.1.2))), (23, .c (.v (.int .i64 ((rounds - 1 : Nat) : Int)))), (24, .c (.v (.int .i64 (i.1 : Int))))])
    (fun _ => [⟨3, 355, [.v (ptrB y.m)]⟩]) (fun i => [bsF i.2.1.1 (S i.1), bsF i.2.2.1.1 (X i.1), macF i.2.2.2.1 pass i.2.2.2.2, f0, R, oddF 5]) (fun i => i.1 ≤ rounds - 1 ∧ i.2.2.2.1.m = y.m) (fun i => rounds - 1 - i.1) (0, (A5, c5), (A5, c5), y5, T5) ⟨Nat.zero_le _, hy5⟩
    (Ent.mk' ⟨rfl, rfl, rfl, rfl, rfl, rfl, trivial⟩ rfl (fun β w' hs => by
      have k1 := (hs.ro 0 rfl).dupRo 0 rfl
      have k2 := k1.perm [0, 1, 2, 5, 6, 8]
      show Sat _ _ _ _ [bsF A5 (S 0), bsF A5 (X 0), macF y5 pass T5, f0, R, oddF 5] w'
      rw [← hX0]
      exact k2.keepB (List.Sublist.cons_cons _ (List.nil_sublist _)))) g ?_
  rintro ⟨i, ⟨Au, cu⟩, ⟨Ax, cx'⟩, yi, Ti⟩ ⟨hi, hyi⟩
  simp only at hi hyi
  refine BIf.dec (fun hlt => ?_) (fun hge => ?_)
  · have hlt0 : (i : Int) < ((rounds - 1 : Nat) : Int) := hlt
    intro b3
    refine call_con [3] (A := fun β => #[.slice (some ⟨b3, 0, none⟩) 1 1, ptrB (β 3)]) (R := fun v Fs => ∃ A' c' y' T', y'.m = y.m ∧ v = .slice A' 32 c' ∧ Fs = [browF ty_uint8 A' (S (i + 1)) c', macF y' pass T']) (fun β w' hs => by
      have hrow : Sat (cx_hmac_pieces_1 w (Un Gs) [bx1, bx2, bx3]) β 4 [⟨3, 355, [.v (ptrB y.m)]⟩] [rdF 1 (some ⟨b3, 0, none⟩) 1 [.slice Au (S i).length cu], bsF Au (S i), bsF Ax (X i), macF yi pass Ti, f0, R, oddF 5] w' := by rw [hSl]; exact hs.rowRd 0 rfl
      have k2 := hrow.part1 (P := some ⟨b3, 0, none⟩) (A := Au) (l := S i) (c := cu) [0, 1] rfl
      have k3 := k2.withCell (b := ⟨3, 355, [.v (ptrB y.m)]⟩) (by simp) rfl (js := [4, 0, 7]) rfl
      have k4 := k3.take (js := [1, 0, 2, 3]) rfl
      have k5 : Mem w' [macF yi pass Ti, cellR (β 3) (ptrB yi.m), partF (some ⟨b3, 0, none⟩) [(Au, S i, cu)], oddF 5] := by rw [hyi]; exact k4
      have e : partsT [(Au, S i, cu)] = S i := by simp [partsT]
      have q := once_c w' (β 3) yi pass Ti (some ⟨b3, 0, none⟩) [(Au, S i, cu)] 1 (by rw [e, hSl]; decide) (by show 1 ≤ 1000; decide) k5
      rw [e, hSs] at q
      exact q.mono (by rintro v Fs ⟨A', c', y', T', h1, rfl, _, _, rfl⟩; exact ⟨A', c', y', T', h1.trans hyi, rfl, rfl⟩)) ?_
    rintro v Fs ⟨A6, c6, y6, T6, hy6, rfl, rfl⟩
    refine call_con [] (R := fun v Fs => ∃ A' c', v = .slice A' 32 c' ∧ Fs = [browF ty_uint8 A' (X (i + 1)) c']) (fun β w' hs => by
      have q := xor_c w' Ax A6 (X i) (S (i + 1)) cx' c6 (hs.get 4 rfl) (row_rd (hs.get 0 rfl)) (by rw [hXl]; decide)
      rw [hXl, hSl, hXs] at q
      exact q.mono (by rintro v Fs ⟨A', c', rfl, _, _, rfl⟩; exact ⟨A', c', by rw [hXl], rfl⟩)) ?_
    rintro v Fs ⟨A7, c7, rfl, rfl⟩
    refine ⟨((i + 1 : Nat) : Int), by rw [wrap_i64 (by omega) (by omega)]; rfl, ?_⟩
    refine ⟨(i + 1, (A6, c6), (A7, c7), y6, T6), ⟨by show i + 1 ≤ rounds - 1; omega, hy6⟩, by show rounds - 1 - (i + 1) < rounds - 1 - i; omega, Ent.mk' ⟨rfl, rfl, rfl, rfl, rfl, rfl, trivial⟩ rfl (fun β w' hs => ?_)⟩
    exact ((hs.ro 0 rfl).ro 1 rfl).perm [1, 0, 2, 6, 7, 8]
  · have hge0 : ¬ (i : Int) < ((rounds - 1 : Nat) : Int) := hge
    have hir : i = rounds - 1 := by omega
    rw [hTX, ← hir]
    refine yield_ro hY (A := fun β => #[.slice Ax 32 cx']) (pre := []) (x := X i) (f := f0) (X := bsF Ax (X i)) 3 4 rfl hJ0 hf0 rfl hRo (by decide) (fun β => ⟨hXl i, Ax, cx', rfl, rfl⟩) rfl (fun β w' hs => ⟨hs.get 1 rfl, hs.getLt 1 rfl, hs.apart (i := 3) (j := 1) rfl rfl (by decide) (.inl hf0)⟩) ?_ ?_
    · intro f' _ hJ
      exact absurd hJ (hJS _ _)
    · intro f' hfo hJx
      intro β w' hs
      exact (hs.keepB (List.nil_sublist _)).fin [0] ⟨f', [], rfl, .inr ⟨_, hJx, rfl, rfl⟩⟩
end Go.Proofs.YteenjgfbbkdlhaaGreatDoor.Sx

namespace Go.Proofs.YteenjgfbbkdlhaaGreatDoor.Sx
open Go
attribute [local irreducible] Calls
theorem pieces_c (w : World) (A B : Option Addr) (n c m d : Nat) (r : Int) : Con Tryz.prog n_hmac_pieces #[.slice A n c, .slice B m d, .int .i64 r] w [] fun v Fs => ∃ b1 b2 b3, v = .func (.func n_hmac_pieces_1) #[] #[ptrB b1, ptrB b2, ptrB b3] ∧ Fs = [bkF b1 ty_sl_uint8 [.slice A n c], bkF b2 ty_sl_uint8 [.slice B m d], bkF b3 ty_int [.int .i64 r]] := by
  refine con_of_sx (cx := cx_hmac_pieces w (Un [])) (good_hmac_pieces w (Un [])) b_hmac_pieces rfl rfl (β := Va.z) [.c (.v (.slice A n c)), .c (.v (.slice B m d)), .c (.v (.int .i64 r))] 0 [] [] rfl rfl (Sat.start rfl) ?_
  intro β w' hs
  exact hs.ofBk.ofBk.ofBk.fin [0, 1, 2] ⟨β 0, β 1, β 2, rfl, rfl⟩ rfl rfl rfl ⟨rfl, rfl, rfl, trivial⟩
theorem hsized_c (w : World) : Pu Tryz.prog n_hmac_sized #[.int .i64 32] w (.bool true) := by
  refine con_of_sx (cx := cx_hmac_sized w (Un [])) (good_hmac_sized w (Un [])) b_hmac_sized rfl rfl (β := Va.z) [.c (.v (.int .i64 32))] 0 [] [] rfl rfl (Sat.start rfl) ?_
  intro β w' hs
  exact hs.fin [] ⟨rfl, rfl⟩
set_option maxHeartbeats 1000000 in
theorem first32_c (w : World) (bx1 bx2 bx3 : Nat) (A B : Option Addr) (pass salt : List UInt8) (c d rounds : Nat) (hk : pass.length ≤ 1000000) (hn : salt.length ≤ 100000) (hr1 : 1 ≤ rounds) (hr2 : rounds ≤ 64)
    (hm : Mem w [bkF bx1 ty_sl_uint8 [.slice A pass.length c], bkF bx2 ty_sl_uint8 [.slice B salt.length d], bkF bx3 ty_int [.int .i64 rounds], bsF A pass, bsF B salt, oddF 5, firstF 2]) :
    Con Tryz.prog n_hmac_first #[.int .i64 32, .func (.func n_hmac_pieces_1) #[] #[ptrB bx1, ptrB bx2, ptrB bx3]] w [bkF bx1 ty_sl_uint8 [.slice A pass.length c], bkF bx2 ty_sl_uint8 [.slice B salt.length d], bkF bx3 ty_int [.int .i64 rounds]]
      fun v Fs => ∃ A' c', v = .slice A' 32 c' ∧ 32 ≤ c' ∧ c' ≤ maxLen ∧ Fs = [browF ty_uint8 A' (stretchL pass salt rounds) c'] := by
  obtain ⟨Gs, hGs⟩ : ∃ Gs, Gs = [bkF bx1 ty_sl_uint8 [.slice A pass.length c], bkF bx2 ty_sl_uint8 [.slice B salt.length d], bkF bx3 ty_int [.int .i64 rounds]] := ⟨_, rfl⟩
  rw [← hGs]
  have g := good_hmac_first w (Un Gs)
  have hml := maxLen_eq
  obtain ⟨T, hT⟩ : ∃ T, stretchL pass salt rounds = T := ⟨_, rfl⟩
  have hTl : T.length = 32 := by rw [← hT]; exact strX_len _ _ _
  have hs0 : Sat (cx_hmac_first w (Un Gs)) Va.z 0 [] [bkF bx1 ty_sl_uint8 [.slice A pass.length c], bkF bx2 ty_sl_uint8 [.slice B salt.length d], bkF bx3 ty_int [.int .i64 rounds], bsF A pass, bsF B salt, oddF 5, firstF 2] w := hm.sat0 rfl (fun f hf ho k hk => by
    simp only [List.mem_cons, List.not_mem_nil, or_false] at hf
    rcases hf with rfl | rfl | rfl | rfl | rfl | rfl | rfl
    · exact ⟨_, by rw [hGs]; simp, hk⟩
    · exact ⟨bkF bx2 ty_sl_uint8 [.slice B salt.length d], by rw [hGs]; simp, hk⟩
    · exact ⟨bkF bx3 ty_int [.int .i64 rounds], by rw [hGs]; simp, hk⟩
    · cases ho
    · cases ho
    · cases ho
    · cases ho)
  refine con_of_sx (cx := cx_hmac_first w (Un Gs)) g b_hmac_first rfl rfl (β := Va.z) [.c (.v (.int .i64 32)), .c (.v (.func (.func n_hmac_pieces_1) #[] #[ptrB bx1, ptrB bx2, ptrB bx3]))] 0 [] [bkF bx1 ty_sl_uint8 [.slice A pass.length c], bkF bx2 ty_sl_uint8 [.slice B salt.length d], bkF bx3 ty_int [.int .i64 rounds], bsF A pass, bsF B salt, oddF 5, firstF 2] rfl rfl hs0 ?_
  refine range_ruleP (α := List UInt8) (ι := Unit) (κ := List UInt8 × Option Addr × Nat) g rfl (cv := [ptrB bx1, ptrB bx2, ptrB bx3]) rfl (by kernel_rfl) 2 (Nat.le_refl 2)
    (fun pre _ => pre = []) (fun _ => [⟨1, ty_sl_uint8, [.v (.slice none 0 0)]⟩, ⟨0, ty_int, [.v (.int .i64 32)]⟩]) (fun _ => [browF ty_uint8 none [] 0]) (fun _ => ⟨rfl, trivial⟩)
    (fun e pre i => e = .exit 0 ∧ pre = [i.1] ∧ i.1.length = 32 ∧ 32 ≤ i.2.2 ∧ i.2.2 ≤ maxLen) (fun i => [⟨1, ty_sl_uint8, [.v (.slice i.2.1 32 i.2.2)]⟩, ⟨0, ty_int, [.v (.int .i64 32)]⟩]) (fun i => [rowF ty_uint8 1 (.slice i.2.1 32 i.2.2) 32 (i.1.map byte)]) (fun _ => ⟨rfl, trivial⟩)
    [bkF bx1 ty_sl_uint8 [.slice A pass.length c], bkF bx2 ty_sl_uint8 [.slice B salt.length d], bkF bx3 ty_int [.int .i64 rounds]] [bsF A pass, bsF B salt, oddF 5, firstF 2] [] ⟨rfl, rfl, rfl, trivial⟩ (fun g h => by cases h) () rfl (fun β w hs => ⟨β, Agr.refl _ _, (hs.nilRow ty_uint8 1).perm [1, 2, 3, 4, 5, 6, 7, 0]⟩) (fun _ => insP)
    (fun _ _ => False) (fun pre Fs' => pre = [T] ∧ Fs' = [])
    (fun l w f0 R J Jx hJ0 hJo hRo hY hP hm => by
      rw [← hT]
      exact pieces_it l w bx1 bx2 bx3 A B pass salt c d rounds f0 R J Jx hJ0 hJo hRo hY (fun x f hJ => by obtain ⟨_, hi⟩ := hP _ _ hJ; cases hi) hk hn hr1 hr2 hm) ?_ ?_ ?_
  · rintro _ pre x args X W S l bs pn pn' hbs rfl ⟨hx, Ax, cx', rfl, rfl⟩
    refine ⟨_, rfl, ?_⟩
    refine ⟨1, 0, 32, [], x.map byte, x.map byte, rfl, fun β w hs => ?_, bytes_one x, rfl, rfl, by omega, by decide, ?_⟩
    · have h : Rd 1 Ax x.length (x.map byte) w := hs.get 0 rfl
      rw [hx] at h
      exact h
    intro A' c' q1 q2 _
    exact ⟨(x, A', c'), ⟨rfl, rfl, hx, q1, q2⟩, Ent.mk' trivial rfl (fun β w hs => hs.perm [1])⟩
  · rintro xs _ Fs _ h
    exact h.elim
  · rintro e pre ⟨x, A1, c1⟩ Fs ⟨rfl, rfl, hx, h1, h2⟩ ⟨hpre, rfl⟩
    simp only at hx h1 h2
    obtain rfl : x = T := by simpa using hpre
    refine ⟨c1, 32, 0, 32, c1, A1, rfl, rfl, rfl, Nat.le_refl _, h1, Nat.zero_le _, rfl, rfl, cutA_z A1, ?_⟩
    refine call_con [] (R := fun v Fs => ∃ A' c', v = .slice A' 32 c' ∧ 32 ≤ c' ∧ c' ≤ maxLen ∧ Fs = [browF ty_uint8 A' x c']) (fun β w' hs => by
      have q := clone_c w' A1 x c1 (by show Rd 1 A1 x.length _ w'; rw [hx]; exact row_rd (hs.get 0 rfl)) (by omega)
      rw [hx] at q
      exact q) ?_
    rintro v Fs ⟨A2, c2, rfl, h5, h6, rfl⟩
    intro β w' hs
    exact (hs.keepB (List.nil_sublist _)).fin [0] ⟨A2, c2, rfl, h5, h6, by rw [hT]; rfl⟩
theorem stretch_c (w : World) (A B : Option Addr) (pass salt : List UInt8) (c d rounds : Nat) (hr : Bs w A pass) (ht : Bs w B salt) (hk : pass.length ≤ 1000000) (hn : salt.length ≤ 100000) (hr1 : 1 ≤ rounds) (hr2 : rounds ≤ 64) (h1 : (oddF 5).p w) (h0 : (firstF 2).p w) :
    Con Tryz.prog n_hmac_Stretch #[.slice A pass.length c, .slice B salt.length d, .int .i64 rounds, .int .i64 32] w [] fun v Fs => ∃ A' c', v = .tuple #[.slice A' 32 c', .int .i64 0] ∧ 32 ≤ c' ∧ c' ≤ maxLen ∧ Fs = [browF ty_uint8 A' (stretchL pass salt rounds) c'] := by
  have g := good_hmac_Stretch w (Un [])
  have hs0 : Sat (cx_hmac_Stretch w (Un [])) Va.z 0 [] [oldF w] w := old_sat rfl
  have hs1 := (((hs0.sub 0 rfl rfl (firstF 2) rfl h0 (rd_lt h0)).sub 1 rfl rfl (oddF 5) rfl h1 (rd_lt h1)).sub 2 rfl rfl (bsF B salt) rfl ht (rd_lt ht)).sub 3 rfl rfl (bsF A pass) rfl hr (rd_lt hr)
  refine con_of_sx (cx := cx_hmac_Stretch w (Un [])) g b_hmac_Stretch rfl rfl (β := Va.z) [.c (.v (.slice A pass.length c)), .c (.v (.slice B salt.length d)), .c (.v (.int .i64 rounds)), .c (.v (.int .i64 32))] 0 [] [bsF A pass, bsF B salt, oddF 5, firstF 2, oldF w] rfl rfl hs1 ?_
  refine BIf.dec (fun q => absurd (show (rounds : Int) < 1 from q) (by omega)) (fun _ => ?_)
  refine BIf.dec (fun q => absurd (show (64 : Int) < (rounds : Int) from q) (by omega)) (fun _ => ?_)
  refine call_pu (fun β w' hs => hsized_c w') ?_
  refine call_con [] (fun β w' hs => pieces_c w' A B pass.length c salt.length d rounds) ?_
  rintro v Fs ⟨b1, b2, b3, rfl, rfl⟩
  refine call_con [0, 1, 2] (fun β w' hs => first32_c w' b1 b2 b3 A B pass salt c d rounds hk hn hr1 hr2 (hs.mem.take (js := [0, 1, 2, 3, 4, 5, 6]) rfl)) ?_ ⟨rfl, rfl, rfl, trivial⟩
  rintro v Fs ⟨A', c', rfl, h5, h6, rfl⟩
  intro β w' hs
  exact hs.fin [0] ⟨A', c', rfl, h5, h6, rfl⟩
def macT (k t : List UInt8) : Bx.Term := ⟨2, k, t, 0, [], []⟩
def strT (p s : List UInt8) (r : Nat) : Bx.Term := ⟨3, p, s, r, [], []⟩
noncomputable def hashB (B : Bx.Box) (t : List UInt8) : List UInt8 × Bx.Box := if B.sym then B.tag (hashT t) else (Sha.sum t, B)
noncomputable def macB (B : Bx.Box) (k t : List UInt8) : List UInt8 × Bx.Box := if B.sym then B.tag (macT k t) else (hmL k t, B)
noncomputable def strB (B : Bx.Box) (p s : List UInt8) (r : Nat) : List UInt8 × Bx.Box := if B.sym then B.tag (strT p s r) else (stretchL p s r, B)
def boxOut (b : Nat) (r : List UInt8 × Bx.Box) (v : Value) (Fs : List Fact) : Prop :=
  ∃ A c y', v = .slice A 32 c ∧ 32 ≤ c ∧ c ≤ maxLen ∧ y'.ts.map (·.1) = r.2.L ∧ Fs = [browF ty_uint8 A r.1 c, bxF b r.2 y']
theorem Sat.unown {cx : Cx} {β : Va} {n : Nat} {H : List Bk} {F : List Fact} {w : World} (h : Sat cx β n H F w) (j : Nat) {size : Nat} {A : Option Addr} {k : Nat} {xs : List Value} (hj : nth F j = some (rdoF size A k xs)) : Sat cx β n H (putAt F j (rdF size A k xs)) w :=
  h.upd hj rfl (Chg.refl _ _) (show (rdF size A k xs).p w from rdo_rd (h.get j hj)) (fun _ hk => .inl hk)
theorem Sat.trd {cx : Cx} {β : Va} {n : Nat} {H : List Bk} {F : List Fact} {w : World} (h : Sat cx β n H F w) (js : List Nat) (t : Bx.Term) (a : TA) (hl : t.list = []) (hm : t.mask = []) (hj : takeIx F js = [bsF a.k t.key, bsF a.t t.text]) : Sat cx β n H (trdF t a :: F) w := by
  have get : ∀ f ∈ takeIx F js, f.p w := fun f hf => by obtain ⟨i, _, hi⟩ := takeIx_mem hf; exact h.fact f (List.mem_of_getElem? hi)
  refine h.subN js (fun f hf => ?_) _ rfl ⟨get (bsF a.k t.key) (by rw [hj]; simp), get (bsF a.t t.text) (by rw [hj]; simp), by rw [hl]; exact rd_nil w a.l, by rw [hm]; exact Bs.nil w a.m⟩ (fun k hk => ?_)
  · rw [hj] at hf
    simp only [List.mem_cons, List.not_mem_nil, or_false] at hf
    rcases hf with rfl | rfl <;> rfl
  · rw [hj]
    rcases hk with hk | hk | hk | hk
    · exact ⟨_, List.mem_cons_self, hk⟩
    · exact ⟨bsF a.t t.text, by simp, hk⟩
    · rw [hl] at hk
      exact absurd hk.1 (by simp)
    · rw [hm] at hk
      exact absurd hk.1 (by simp)
theorem parts_len {ps : List Part} : (ps.map (·.2.1)).flatten = partsT ps := by
  unfold partsT
  rw [List.flatMap_def]
theorem joinP_c (w : World) (b0 : Nat) (ps : List Part) (cP : Nat) (h : (partF (some ⟨b0, 0, none⟩) ps).p w) (h0 : ps ≠ []) (hc : ps.length ≤ cP) (hl : ps.length ≤ 1000) (hn : (partsT ps).length ≤ 1000000) :
    Con Tryz.prog n_bytes_Join #[.slice (some ⟨b0, 0, none⟩) ps.length cP, .slice none 0 0] w [] (readOut (partsT ps)) := by
  match ps with
  | [] => exact absurd rfl h0
  | [p] =>
    have e : partsT [p] = p.2.1 := by simp [partsT]
    rw [e] at hn ⊢
    exact join1R_c w (some ⟨b0, 0, none⟩) p.1 cP p.2.2 p.2.1 h.1 (h.2 p List.mem_cons_self) (by omega)
  | p :: q :: r =>
    have k := joinN_c w b0 cP ((p :: q :: r).map partV) ((p :: q :: r).map (·.2.1)) (by rw [List.length_map]; exact h.1) (fun i v l hv hl => by
      rw [List.getElem?_map] at hv hl
      obtain ⟨x, hx, rfl⟩ := Option.map_eq_some_iff.1 hv
      obtain ⟨x', hx', rfl⟩ := Option.map_eq_some_iff.1 hl
      rw [hx] at hx'
      obtain rfl := Option.some.inj hx'
      exact Bs.holds (h.2 x (List.mem_of_getElem? hx)) x.2.2) (by simp) (by rw [List.length_map]; exact hc) (by rw [List.length_map]; exact hl) (by rw [parts_len]; omega)
    rw [List.length_map, parts_len] at k
    exact k
theorem partOld {P : Option Addr} {ps : List Part} {W w : World} (h : (partF P ps).p W) (ho : (oldF W).p w) : (partF P ps).p w := ⟨Rd.old h.1 ho, fun p hp => Rd.old (h.2 p hp) ho⟩
theorem hashP_c (w : World) (b : Nat) (B : Bx.Box) (y : Lay) (b0 : Nat) (ps : List Part) (cP : Nat) (hts : y.ts.map (·.1) = B.L) (hL : B.L.length ≤ 4096) (h0 : ps ≠ []) (hc : ps.length ≤ cP) (hl : ps.length ≤ 1000) (hn : (partsT ps).length ≤ 1000000) (hm : Mem w [bxF b B y, partF (some ⟨b0, 0, none⟩) ps, oddF 5, firstF 2]) :
    Con Tryz.prog n_box_Box_Hash #[ptrB b, .slice (some ⟨b0, 0, none⟩) ps.length cP] w [bxF b B y] (boxOut b (hashB B (partsT ps))) := by
  have g := good_box_Box_Hash w (Un [bxF b B y])
  have hs0 : Sat (cx_box_Box_Hash w (Un [bxF b B y])) Va.z 0 [] [bxF b B y, partF (some ⟨b0, 0, none⟩) ps, oddF 5, firstF 2] w := hm.sat0 rfl (ownIn (Gs := [bxF b B y]) (fun f hf => by
    simp only [List.mem_cons, List.not_mem_nil, or_false] at hf
    rcases hf with rfl | rfl | rfl <;> rfl))
  refine con_of_sx (cx := cx_box_Box_Hash w (Un [bxF b B y])) g b_box_Box_Hash rfl rfl (β := Va.z) [.c (.v (ptrB b)), .c (.v (.slice (some ⟨b0, 0, none⟩) ps.length cP))] 0 [] [bxF b B y, partF (some ⟨b0, 0, none⟩) ps, oddF 5, firstF 2] rfl rfl hs0 ?_
  cases hsym : B.sym with
  | true =>
    refine ⟨.bool true, fun β w' hs => box_cell (bx_bk (hs.get 0 rfl)) (o := 0) (by simp [boxCells, hsym]), ?_⟩
    refine call_con [] (fun β w' hs => joinP_c w' b0 ps cP (hs.get 1 rfl) h0 hc hl hn) ?_
    rintro v Fs ⟨A1, c1, rfl, q1, q2, rfl⟩
    refine call_con [1] (R := boxOut b (B.tag (hashT (partsT ps)))) (fun β w' hs => by
      have k2 := ((hs.unown 0 rfl).noMem (bsF none []) (Bs.nil w' none) (fun k hk => absurd hk.1 (by simp))).trd [0, 1] (hashT (partsT ps)) ⟨none, A1, none, none, 0, c1, 0, 0⟩ rfl rfl rfl
      exact tag_c w' b B y (hashT (partsT ps)) ⟨none, A1, none, none, 0, c1, 0, 0⟩ hts hL (hashT_sz hn) (k2.mem.take (js := [3, 0]) rfl)) ?_
    rintro v Fs ⟨A2, c2, y2, rfl, r1, r2, r3, rfl⟩
    intro β w' hs
    have e : hashB B (partsT ps) = B.tag (hashT (partsT ps)) := by unfold hashB; rw [hsym]; rfl
    rw [e]
    exact hs.fin [0, 1] ⟨A2, c2, y2, rfl, r1, r2, r3, rfl⟩
  | false =>
    refine ⟨.bool false, fun β w' hs => box_cell (bx_bk (hs.get 0 rfl)) (o := 0) (by simp [boxCells, hsym]), ?_⟩
    refine call_con [] (fun β w' hs => sumJ_c w' (some ⟨b0, 0, none⟩) ps.length cP (partsT ps) (fun w2 ho => joinP_c w2 b0 ps cP (partOld (hs.get 1 rfl) ho) h0 hc hl hn) (by omega) (hs.get 2 rfl) (hs.get 3 rfl)) ?_
    rintro v Fs ⟨A2, c2, rfl, r1, r2, rfl⟩
    intro β w' hs
    have e : hashB B (partsT ps) = (Sha.sum (partsT ps), B) := by unfold hashB; rw [hsym]; rfl
    rw [e]
    exact hs.fin [0, 1] ⟨A2, c2, y, rfl, r1, r2, hts, rfl⟩
theorem macT_sz {k t : List UInt8} (hk : k.length ≤ 1000000) (hl : t.length ≤ 1000000) : TSz (macT k t) := ⟨by show 2 < 1000; decide, by show 0 < 1000; decide, hk, hl, Nat.zero_le _, fun _ h => (by cases h), Nat.zero_le _⟩
theorem strT_sz {k t : List UInt8} {r : Nat} (hk : k.length ≤ 1000000) (hl : t.length ≤ 1000000) (hr : r ≤ 64) : TSz (strT k t r) := ⟨by show 3 < 1000; decide, by show r < 1000; omega, hk, hl, Nat.zero_le _, fun _ h => (by cases h), Nat.zero_le _⟩
theorem macP_c (w : World) (b : Nat) (B : Bx.Box) (y : Lay) (K : Option Addr) (key : List UInt8) (cK : Nat) (b0 : Nat) (ps : List Part) (cP : Nat) (hts : y.ts.map (·.1) = B.L) (hL : B.L.length ≤ 4096) (hk : key.length ≤ 1000000) (h0 : ps ≠ []) (hc : ps.length ≤ cP) (hl : ps.length ≤ 1000) (hn : (partsT ps).length ≤ 1000000) (hm : Mem w [bxF b B y, partF (some ⟨b0, 0, none⟩) ps, bsF K key, oddF 5, firstF 2]) :
    Con Tryz.prog n_box_Box_Mac #[ptrB b, .slice K key.length cK, .slice (some ⟨b0, 0, none⟩) ps.length cP] w [bxF b B y] (boxOut b (macB B key (partsT ps))) := by
  have g := good_box_Box_Mac w (Un [bxF b B y])
  have hs0 : Sat (cx_box_Box_Mac w (Un [bxF b B y])) Va.z 0 [] [bxF b B y, partF (some ⟨b0, 0, none⟩) ps, bsF K key, oddF 5, firstF 2] w := hm.sat0 rfl (ownIn (Gs := [bxF b B y]) (fun f hf => by
    simp only [List.mem_cons, List.not_mem_nil, or_false] at hf
    rcases hf with rfl | rfl | rfl | rfl <;> rfl))
  refine con_of_sx (cx := cx_box_Box_Mac w (Un [bxF b B y])) g b_box_Box_Mac rfl rfl (β := Va.z) [.c (.v (ptrB b)), .c (.v (.slice K key.length cK)), .c (.v (.slice (some ⟨b0, 0, none⟩) ps.length cP))] 0 [] [bxF b B y, partF (some ⟨b0, 0, none⟩) ps, bsF K key, oddF 5, firstF 2] rfl rfl hs0 ?_
  cases hsym : B.sym with
  | true =>
    refine ⟨.bool true, fun β w' hs => box_cell (bx_bk (hs.get 0 rfl)) (o := 0) (by simp [boxCells, hsym]), ?_⟩
    refine call_con [] (fun β w' hs => joinP_c w' b0 ps cP (hs.get 1 rfl) h0 hc hl hn) ?_
    rintro v Fs ⟨A1, c1, rfl, q1, q2, rfl⟩
    refine call_con [1] (R := boxOut b (B.tag (macT key (partsT ps)))) (fun β w' hs => by
      have k2 := (hs.unown 0 rfl).trd [3, 0] (macT key (partsT ps)) ⟨K, A1, none, none, cK, c1, 0, 0⟩ rfl rfl rfl
      exact tag_c w' b B y (macT key (partsT ps)) ⟨K, A1, none, none, cK, c1, 0, 0⟩ hts hL (macT_sz hk hn) (k2.mem.take (js := [2, 0]) rfl)) ?_
    rintro v Fs ⟨A2, c2, y2, rfl, r1, r2, r3, rfl⟩
    intro β w' hs
    have e : macB B key (partsT ps) = B.tag (macT key (partsT ps)) := by unfold macB; rw [hsym]; rfl
    rw [e]
    exact hs.fin [0, 1] ⟨A2, c2, y2, rfl, r1, r2, r3, rfl⟩
  | false =>
    refine ⟨.bool false, fun β w' hs => box_cell (bx_bk (hs.get 0 rfl)) (o := 0) (by simp [boxCells, hsym]), ?_⟩
    refine call_con [] (fun β w' hs => hsum_c w' K (some ⟨b0, 0, none⟩) key (partsT ps) cK ps.length cP (hs.get 2 rfl) hk hn (fun w2 ho => joinP_c w2 b0 ps cP (partOld (hs.get 1 rfl) ho) h0 hc hl hn) (hs.get 3 rfl) (hs.get 4 rfl)) ?_
    rintro v Fs ⟨A2, c2, rfl, r1, r2, rfl⟩
    intro β w' hs
    have e : macB B key (partsT ps) = (hmL key (partsT ps), B) := by unfold macB; rw [hsym]; rfl
    rw [e]
    exact hs.fin [0, 1] ⟨A2, c2, y, rfl, r1, r2, hts, rfl⟩
def strOut (b : Nat) (B : Bx.Box) (y : Lay) (p s : List UInt8) (r : Int) (v : Value) (Fs : List Fact) : Prop :=
  if 1 ≤ r ∧ r ≤ 64 then ∃ A c y', v = .tuple #[.slice A 32 c, .int .i64 0] ∧ 32 ≤ c ∧ c ≤ maxLen ∧ y'.ts.map (·.1) = (strB B p s r.toNat).2.L ∧ Fs = [browF ty_uint8 A (strB B p s r.toNat).1 c, bxF b (strB B p s r.toNat).2 y']
  else v = .tuple #[.slice none 0 0, .int .i64 1] ∧ Fs = [bxF b B y]
theorem strP_c (w : World) (b : Nat) (B : Bx.Box) (y : Lay) (K S : Option Addr) (p s : List UInt8) (cK cS : Nat) (r : Int) (hts : y.ts.map (·.1) = B.L) (hL : B.L.length ≤ 4096) (hk : p.length ≤ 1000000) (hn : s.length ≤ 100000) (hm : Mem w [bxF b B y, bsF K p, bsF S s, oddF 5, firstF 2]) :
    Con Tryz.prog n_box_Box_Stretch #[ptrB b, .slice K p.length cK, .slice S s.length cS, .int .i64 r] w [bxF b B y] (strOut b B y p s r) := by
  have g := good_box_Box_Stretch w (Un [bxF b B y])
  have hs0 : Sat (cx_box_Box_Stretch w (Un [bxF b B y])) Va.z 0 [] [bxF b B y, bsF K p, bsF S s, oddF 5, firstF 2] w := hm.sat0 rfl (ownIn (Gs := [bxF b B y]) (fun f hf => by
    simp only [List.mem_cons, List.not_mem_nil, or_false] at hf
    rcases hf with rfl | rfl | rfl | rfl <;> rfl))
  refine con_of_sx (cx := cx_box_Box_Stretch w (Un [bxF b B y])) g b_box_Box_Stretch rfl rfl (β := Va.z) [.c (.v (ptrB b)), .c (.v (.slice K p.length cK)), .c (.v (.slice S s.length cS)), .c (.v (.int .i64 r))] 0 [] [bxF b B y, bsF K p, bsF S s, oddF 5, firstF 2] rfl rfl hs0 ?_
  refine BIf.dec (fun q => ?_) (fun q => ?_)
  · have q0 : r < 1 := q
    intro β w' hs
    refine hs.fin [0] ?_
    unfold strOut
    rw [if_neg (by omega)]
    exact ⟨rfl, rfl⟩
  have q0 : ¬ r < 1 := q
  refine BIf.dec (fun q2 => ?_) (fun q2 => ?_)
  · have q20 : 64 < r := q2
    intro β w' hs
    refine hs.fin [0] ?_
    unfold strOut
    rw [if_neg (by omega)]
    exact ⟨rfl, rfl⟩
  have q20 : ¬ 64 < r := q2
  obtain ⟨m, rfl⟩ : ∃ m : Nat, r = (m : Int) := ⟨r.toNat, by omega⟩
  have hso : strOut b B y p s (m : Int) = fun v Fs => ∃ A c y', v = .tuple #[.slice A 32 c, .int .i64 0] ∧ 32 ≤ c ∧ c ≤ maxLen ∧ y'.ts.map (·.1) = (strB B p s m).2.L ∧ Fs = [browF ty_uint8 A (strB B p s m).1 c, bxF b (strB B p s m).2 y'] := by
    funext v Fs
    unfold strOut
    rw [if_pos (by omega)]
    rfl
  rw [hso]
  cases hsym : B.sym with
  | true =>
    refine ⟨.bool true, fun β w' hs => box_cell (bx_bk (hs.get 0 rfl)) (o := 0) (by simp [boxCells, hsym]), ?_⟩
    refine call_con [0] (R := boxOut b (B.tag (strT p s m))) (fun β w' hs => by
      have k2 := hs.trd [1, 2] (strT p s m) ⟨K, S, none, none, cK, cS, 0, 0⟩ rfl rfl rfl
      exact tag_c w' b B y (strT p s m) ⟨K, S, none, none, cK, cS, 0, 0⟩ hts hL (strT_sz hk (by omega) (by omega)) (k2.mem.take (js := [1, 0]) rfl)) ?_
    rintro v Fs ⟨A2, c2, y2, rfl, r1, r2, r3, rfl⟩
    intro β w' hs
    have e : strB B p s m = B.tag (strT p s m) := by unfold strB; rw [hsym]; rfl
    rw [e]
    exact hs.fin [0, 1] ⟨A2, c2, y2, rfl, r1, r2, r3, rfl⟩
  | false =>
    refine ⟨.bool false, fun β w' hs => box_cell (bx_bk (hs.get 0 rfl)) (o := 0) (by simp [boxCells, hsym]), ?_⟩
    refine call_con [] (fun β w' hs => stretch_c w' K S p s cK cS m (hs.get 1 rfl) (hs.get 2 rfl) hk hn (by omega) (by omega) (hs.get 3 rfl) (hs.get 4 rfl)) ?_
    rintro v Fs ⟨A2, c2, rfl, r1, r2, rfl⟩
    intro β w' hs
    have e : strB B p s m = (stretchL p s m, B) := by unfold strB; rw [hsym]; rfl
    rw [e]
    exact hs.fin [0, 1] ⟨A2, c2, y, rfl, r1, r2, hts, rfl⟩
def symL (l1 l2 : List Nat) (k : Nat) : List Nat := (List.range' 1 k).filter fun n => decide (n ∈ l1) != decide (n ∈ l2)
theorem symL_len (l1 l2 : List Nat) (k : Nat) : (symL l1 l2 k).length ≤ k := by
  have h := List.length_filter_le (fun n => decide (n ∈ l1) != decide (n ∈ l2)) (List.range' 1 k)
  rw [List.length_range'] at h
  exact h
theorem symL_mix {l1 l2 : List Nat} {N : Nat} (d1 : l1.Nodup) (d2 : l2.Nodup) (h1 : ∀ n ∈ l1, 1 ≤ n ∧ n ≤ N) (h2 : ∀ n ∈ l2, 1 ≤ n ∧ n ≤ N) : symL l1 l2 N = mixL l1 l2 := by
  have hp : (symL l1 l2 N).Perm (notIn l1 l2 ++ notIn l2 l1) := by
    refine (List.perm_ext_iff_of_nodup ?_ ?_).2 (fun n => ?_)
    · exact List.Nodup.sublist List.filter_sublist (List.nodup_range' 1)
    · refine List.nodup_append.2 ⟨List.Nodup.sublist List.filter_sublist d1, List.Nodup.sublist List.filter_sublist d2, ?_⟩
      intro x hx y hy q
      subst q
      have a := (List.mem_filter.1 hx).2
      have b := (List.mem_filter.1 hy).1
      simp [b] at a
    · simp only [symL, notIn, List.mem_filter, List.mem_append, List.mem_range'_1]
      have k1 := h1 n
      have k2 := h2 n
      by_cases a : n ∈ l1 <;> by_cases b : n ∈ l2 <;> simp [a, b]
      · have := k1 a; omega
      · have := k2 b; omega
  have hs : (mixL l1 l2).Perm (notIn l1 l2 ++ notIn l2 l1) := List.mergeSort_perm _ _
  refine List.Perm.eq_of_pairwise (le := fun a b => a ≤ b) (fun a b _ _ p q => Nat.le_antisymm p q) ?_ ?_ (hp.trans hs.symm)
  · exact ((List.pairwise_lt_range' 1).sublist List.filter_sublist).imp (fun h => Nat.le_of_lt h)
  · have h := List.pairwise_mergeSort (le := fun x y : Nat => decide (x ≤ y)) (by simp only [decide_eq_true_eq]; omega) (by simp only [Bool.or_eq_true, decide_eq_true_eq]; omega) (notIn l1 l2 ++ notIn l2 l1)
    exact h.imp (fun h => of_decide_eq_true h)
theorem Con.grow {P : Program} {k : FuncId} {args : Array Value} {w : World} {Gs Gs' : List Fact} {R : Value → List Fact → Prop} (hsub : ∀ k, Un Gs k → Un Gs' k) (h : Con P k args w Gs R) : Con P k args w Gs' R :=
  Calls.mono h fun _ _ ⟨v, he, Fs, hR, hc, hm, ho, hD⟩ => ⟨v, he, Fs, hR, hc.mono (fun i _ => hsub i), hm, ho, fun f hf k hk => (hD f hf k hk).imp_left (hsub k)⟩
def OkN (B : Bx.Box) (l : List Nat) (m : List UInt8) : Prop := OkS l m ∧ l.Nodup ∧ ∀ n ∈ l, 1 ≤ n ∧ n ≤ B.L.length
structure Nf (B : Bx.Box) (l : List Nat) (m : List UInt8) : Prop where
  mask : m.length = 32
  sorted : l.Pairwise (· < ·)
  nums : ∀ n ∈ l, 1 ≤ n ∧ n ≤ B.L.length
  base : ∀ n ∈ l, ∀ u, B.L[n - 1]? = some u → u.kind ≠ 4
structure K4 (B : Bx.Box) (t : Bx.Term) : Prop where
  nf : Nf B t.list t.mask
  form : t = turnT t.list t.mask
  one : ¬ (t.list.length = 1 ∧ t.mask = Bx.noughts)
  raw : ¬ (t.list = [] ∧ ¬ t.mask.take 28 = Bx.front)
structure BInv (B : Bx.Box) : Prop where
  sz : ∀ t ∈ B.L, TSz t
  nodup : B.L.Nodup
  k4 : ∀ t ∈ B.L, t.kind = 4 → K4 B t
  plain : B.sym = false → B.L = []
  len : B.L.length ≤ 4096
structure Ext (B B' : Bx.Box) : Prop where
  sym : B'.sym = B.sym
  full : B'.full = B.full
  len : B'.L.length ≤ B.L.length + 1
  inv : BInv B'
  mono : ∀ h r, B.opens h = some r → B'.opens h = some r
theorem Ext.refl {B : Bx.Box} (h : BInv B) : Ext B B := ⟨rfl, rfl, Nat.le_succ _, h, fun _ _ h => h⟩
theorem Nf.grow {B : Bx.Box} {l : List Nat} {m : List UInt8} (t : Bx.Term) (h : Nf B l m) : Nf { B with L := B.L ++ [t] } l m := by
  refine ⟨h.mask, h.sorted, fun n hn => ?_, fun n hn u hu => ?_⟩
  · have := h.nums n hn
    simp only [List.length_append, List.length_cons, List.length_nil]
    omega
  · have := h.nums n hn
    refine h.base n hn u ?_
    simp only at hu
    rw [List.getElem?_append_left (by omega)] at hu
    exact hu
theorem Nf.ok {B : Bx.Box} {l : List Nat} {m : List UInt8} (hi : BInv B) (h : Nf B l m) : OkN B l m := by
  have hnd : l.Nodup := h.sorted.imp (fun q => Nat.ne_of_lt q)
  refine ⟨⟨?_, fun n hn => ?_, h.mask⟩, hnd, h.nums⟩
  · have e := symL_mix (l2 := []) hnd List.nodup_nil h.nums (fun n hn => (by cases hn))
    have e2 : (mixL l []).length = l.length := by
      rw [mixL, sortN_len]
      have e3 : notIn l [] = l := List.filter_eq_self.2 (fun a _ => by simp)
      rw [e3]
      simp [notIn]
    have := symL_len l [] B.L.length
    rw [e, e2] at this
    have := hi.len
    omega
  · have := h.nums n hn
    have := hi.len
    omega
theorem opens_grow {B : Bx.Box} {t : Bx.Term} {h : List UInt8} {r : List Nat × List UInt8} (h0 : B.opens h = some r) : ({ B with L := B.L ++ [t] } : Bx.Box).opens h = some r := by
  unfold Bx.Box.opens at h0 ⊢
  split at h0
  · rename_i h32
    rw [if_pos h32]
    split at h0
    · rename_i hs
      rw [if_pos hs]
      split at h0
      · cases h0
      · rename_i hn
        have hn' : ¬ (Bx.num (h.drop 28) < 1 ∨ (B.L ++ [t]).length < Bx.num (h.drop 28)) := by
          rw [List.length_append]
          omega
        rw [if_neg hn']
        simp only
        rw [List.getElem?_append_left (by omega)]
        exact h0
    · rename_i hs
      rw [if_neg hs]
      exact h0
  · cases h0
theorem K4.grow {B : Bx.Box} {t : Bx.Term} (u : Bx.Term) (h : K4 B t) : K4 { B with L := B.L ++ [u] } t := ⟨h.nf.grow u, h.form, h.one, h.raw⟩
theorem tag_ext {B : Bx.Box} (hi : BInv B) (hs : B.sym = true) (hl : B.L.length < 4096) {t : Bx.Term} (hz : TSz t) (h4 : t.kind = 4 → K4 B t) : Ext B (B.tag t).2 ∧ ∃ k, (B.tag t).1 = Bx.handle (k + 1) ∧ (B.tag t).2.L[k]? = some t := by
  unfold Bx.Box.tag
  cases hp : Bx.place t B.L with
  | some i => exact ⟨Ext.refl hi, i, rfl, Bx.place_some hp⟩
  | none =>
    simp only
    rw [if_neg (by omega)]
    refine ⟨⟨rfl, rfl, by simp, ⟨fun u hu => ?_, ?_, fun u hu hk => ?_, fun q => ?_, ?_⟩, fun h r q => opens_grow q⟩, B.L.length, rfl, by simp⟩
    · rcases List.mem_append.1 hu with hu | hu
      · exact hi.sz u hu
      · obtain rfl := List.mem_singleton.1 hu
        exact hz
    · refine List.nodup_append.2 ⟨hi.nodup, List.nodup_cons.2 ⟨fun q => (by cases q), List.nodup_nil⟩, fun a ha b hb q => ?_⟩
      obtain rfl := List.mem_singleton.1 hb
      exact Bx.place_none hp (q ▸ ha)
    · rcases List.mem_append.1 hu with hu | hu
      · exact (hi.k4 u hu hk).grow t
      · obtain rfl := List.mem_singleton.1 hu
        exact (h4 hk).grow u
    · rw [show ({ B with L := B.L ++ [t] } : Bx.Box).sym = B.sym from rfl, hs] at q
      cases q
    · simp only [List.length_append, List.length_cons, List.length_nil]
      omega
theorem mem_mix {l1 l2 : List Nat} {n : Nat} (h : n ∈ mixL l1 l2) : n ∈ l1 ∨ n ∈ l2 := by
  have h3 : n ∈ notIn l1 l2 ++ notIn l2 l1 := (List.mergeSort_perm _ _).mem_iff.1 h
  rcases List.mem_append.1 h3 with q | q
  · exact .inl (List.mem_filter.1 q).1
  · exact .inr (List.mem_filter.1 q).1
theorem Nf.mix {B : Bx.Box} {l1 l2 : List Nat} {m1 m2 : List UInt8} (h1 : Nf B l1 m1) (h2 : Nf B l2 m2) : Nf B (mixL l1 l2) (Bx.xorB m1 m2) := by
  have d1 : l1.Nodup := h1.sorted.imp (fun q => Nat.ne_of_lt q)
  have d2 : l2.Nodup := h2.sorted.imp (fun q => Nat.ne_of_lt q)
  refine ⟨by rw [xorB_len, h1.mask, h2.mask]; exact Nat.min_self _, ?_, fun n hn => ?_, fun n hn => ?_⟩
  · rw [← symL_mix d1 d2 h1.nums h2.nums]
    exact (List.pairwise_lt_range' 1).sublist List.filter_sublist
  · rcases mem_mix hn with q | q
    · exact h1.nums n q
    · exact h2.nums n q
  · rcases mem_mix hn with q | q
    · exact h1.base n q
    · exact h2.base n q
def mlF : Fact where
  own := false
  D := fun k => k = 1
  p := fun w => ∃ m : Int, w.cell? ⟨1, 0, none⟩ = some (.int .i64 m)
  st := fun w w' hs ⟨m, h⟩ => ⟨m, by rw [← h]; exact World.cell?_of_block (hs _ rfl)⟩
theorem cutD_c (w : World) (s : List UInt8) (d : UInt8) (hs : s.length ≤ 1000000) (hm : mlF.p w) : Pu Tryz.prog n_strings_Cut #[.string (mkS s), .string (mkS [d])] w (.tuple #[.string (mkS (hdA d s)), .string (mkS (hdB d s)), .bool (decide (d ∈ s))]) := by
  obtain ⟨m, hm⟩ := hm
  have hsz : (mkS s).size < 4294967281 := by show s.length < _; omega
  refine pu_of (Calls.mono (Tryz.strings_Cut (mkS s) (mkS [d]) m w hsz hm) ?_)
  rintro e w' ⟨rfl, q, rfl⟩
  refine ⟨_, rfl, ?_, ⟨rfl, rfl, rfl, Nat.le_refl _, fun _ _ _ => rfl⟩⟩
  rw [mkSo, mkSo, cut_one]
  rfl
theorem hdB_len {d : UInt8} : ∀ {s : List UInt8}, s ≠ [] → (hdB d s).length < s.length
  | [], h => absurd rfl h
  | c :: r, _ => by
    rw [hdB_cons]
    split
    · simp
    · cases r with
      | nil => simp [hdB]
      | cons a t =>
        have := hdB_len (d := d) (s := a :: t) (by simp)
        simp only [List.length_cons] at this ⊢
        omega
theorem Sat.endI {cx : Cx} {β : Va} {n : Nat} {H : List Bk} {F : List Fact} {w : World} {kk : IntKind} (h : Sat cx β n H F w) (j : Nat) {b r : Nat} {l ss : MLI} {cur : Option (Int × Value)} (hj : nth F j = some (itIF kk b r l ss cur)) : Sat cx β n H (putAt F j (mapIF kk b l)) w := by
  obtain ⟨es, ds, k, since, c0, seen, hb, hm, _⟩ := h.get j hj
  exact h.upd hj rfl (Chg.refl _ _) ⟨es, k, hb, hm⟩ (fun q hq => .inl (.inl hq))
theorem Sat.emptyI {cx : Cx} {β : Va} {n : Nat} {H : List Bk} {F : List Fact} {w : World} {kk : IntKind} (h : Sat cx β n H F w) (j : Nat) {b : Nat} (hj : nth F j = some (mapF b [])) : Sat cx β n H (putAt F j (mapIF kk b [])) w := by
  obtain ⟨es, k, hb, hm⟩ := h.get j hj
  obtain rfl : es = [] := List.map_eq_nil_iff.1 hm.cut
  exact h.upd hj rfl (Chg.refl _ _) ⟨[], k, hb, rfl, List.Pairwise.nil, fun _ q => by cases q⟩ (fun q hq => .inl hq)
def insK (n : Nat) (pre : List Int) (x : Int) (args : Array Value) (X : Fact) : Prop := args = #[.int .u64 x] ∧ X = noF ∧ pre.length < n
theorem keysI_c (w : World) (mb : Option Nat) : Con Tryz.prog 115 #[.map mb] w [] fun v Fs => ∃ B, v = .func (.func 172) #[] #[.pointer (some ⟨B, 0, none⟩)] ∧ Fs = [bkF B ty_map_uint64_sl_uint8 [.map mb]] := by
  refine con_of_sx (cx := cx_maps_Keys_map_uint64_byte_uint64_byte w (Un [])) (good_maps_Keys_map_uint64_byte_uint64_byte w (Un [])) b_maps_Keys_map_uint64_byte_uint64_byte rfl rfl (β := Va.z) [.c (.v (.map mb))] 0 [] [] rfl rfl (Sat.start rfl) ?_
  intro β w' hs
  exact hs.ofBk.fin [0] ⟨β 0, rfl, rfl⟩
theorem keysI_it (l : Nat) (w : World) (bx b : Nat) (lm : MLI) (f0 R : Fact) (J Jx : List Int → Fact → Prop) (hJ0 : J [] f0) (hJo : ∀ pre f, J pre f → f.own = true) (hRo : R.own = false) (hY : Yc Tryz.prog l J Jx R (insK lm.length))
    (hm : Mem w (f0 :: R :: [bkF bx ty_map_uint64_sl_uint8 [.map (some b)], mapIF .u64 b lm])) :
    Con Tryz.prog 172 #[.func (.yield l) #[] #[], .pointer (some ⟨bx, 0, none⟩)] w [f0, bkF bx ty_map_uint64_sl_uint8 [.map (some b)], mapIF .u64 b lm]
      (fun _ Fs => ∃ f Fs', Fs = f :: Fs' ∧ ((∃ xs, J xs f ∧ xs.Perm (lm.map (·.1)) ∧ Fs' = [mapIF .u64 b lm]) ∨ (∃ pre, Jx pre f ∧ Fs' = [mapIF .u64 b lm]))) := by
  have g := good_maps_Keys_map_uint64_byte_uint64_byte_1 w (Un [f0, bkF bx ty_map_uint64_sl_uint8 [.map (some b)], mapIF .u64 b lm]) [bx]
  have hs0 : Sat (cx_maps_Keys_map_uint64_byte_uint64_byte_1 w (Un [f0, bkF bx ty_map_uint64_sl_uint8 [.map (some b)], mapIF .u64 b lm]) [bx]) (Va.of fun _ => bx) 1 [] (f0 :: R :: [bkF bx ty_map_uint64_sl_uint8 [.map (some b)], mapIF .u64 b lm]) w := by
    refine hm.sat rfl (fun f hf ho k hk => ?_) ⟨Nat.le_refl 1, fun i hi => by obtain rfl : i = 0 := Nat.lt_one_iff.1 hi; rfl⟩
    simp only [List.mem_cons, List.not_mem_nil, or_false] at hf
    rcases hf with rfl | rfl | rfl | rfl
    · exact ⟨_, by simp, hk⟩
    · rw [hRo] at ho; cases ho
    · exact ⟨bkF bx ty_map_uint64_sl_uint8 [.map (some b)], by simp, hk⟩
    · exact ⟨mapIF .u64 b lm, by simp, hk⟩
  have hs1 := hs0.toBk 2 rfl 0 Nat.zero_lt_one rfl
  refine con_of_sx (cx := cx_maps_Keys_map_uint64_byte_uint64_byte_1 w (Un [f0, bkF bx ty_map_uint64_sl_uint8 [.map (some b)], mapIF .u64 b lm]) [bx]) g b_maps_Keys_map_uint64_byte_uint64_byte_1 rfl rfl (β := Va.of fun _ => bx) [.c (.v (.func (.yield l) #[] #[])), .c (.p 0 0)] 1 _ _ rfl rfl hs1 ?_
  refine ⟨Nat, fun r => .pointer (some ⟨r, 0, none⟩), fun r => [f0, R, itIF .u64 b r lm [] none], fun β w' ty hs => hs.rangeI g 2 rfl, fun r => ?_⟩
  refine loop_rule (ι := MLI × Fact × Option (Int × Value)) 1 (fun _ => [(0, .c (.v (.func (.yield l) #[] #[]))), (1, .c (.p 0 0)), (5, .c (.v (.pointer (some ⟨r, 0, none⟩))))]) (fun _ => [⟨0, ty_map_uint64_sl_uint8, [.v (.map (some b))]⟩]) (fun i => [i.2.1, R, itIF .u64 b r lm i.1 i.2.2])
    (fun i => J (i.1.map (·.1)) i.2.1) (fun i => lm.length - i.1.length) ([], f0, none) hJ0 (Ent.same ⟨rfl, rfl, rfl, trivial⟩ rfl) g ?_
  rintro ⟨ss, f, cur⟩ hJ
  simp only at hJ
  have hfo := hJo _ _ hJ
  simp only
  refine ⟨{o : Option (Int × Value) // NxtI lm ss o}, fun o => nxtV .u64 o.1, fun o => [f, R, nxtF .u64 b r lm ss cur o.1], fun β w' ty hs => hs.nextI 2 rfl ty, ?_⟩
  rintro ⟨o, ho⟩
  cases o with
  | none =>
    have hperm : ss.Perm lm := ho
    intro β w' hs
    exact ((hs.endI 2 rfl).keepB (List.nil_sublist _)).fin [0, 2] ⟨f, _, rfl, .inl ⟨_, hJ, hperm.map _, rfl⟩⟩ rfl rfl rfl ⟨hfo, rfl, trivial⟩
  | some x =>
    have hlt : ss.length < lm.length := ho.2
    refine ⟨Unit, fun _ => .tuple #[.int .u64 x.1, x.2], fun _ => [f, R, itIF .u64 b r lm (ss ++ [x]) (some x)], fun β w' ty hs => ⟨(), w', hs.entryI 2 rfl, hs⟩, fun _ => ?_⟩
    refine yield_ro (X := noF) (x := x.1) hY 0 1 rfl hJ hfo rfl hRo (by decide) (fun β => ⟨rfl, rfl, by rw [List.length_map]; exact hlt⟩) rfl (fun β w _ => ⟨trivial, fun k hk => hk.elim, fun k _ h => h.elim⟩) ?_ ?_
    · intro f2 hfo2 hJ2
      refine ⟨(ss ++ [x], f2, some x), by show J ((ss ++ [x]).map (·.1)) f2; rw [List.map_append]; exact hJ2, by show lm.length - (ss ++ [x]).length < lm.length - ss.length; rw [List.length_append]; show lm.length - (ss.length + 1) < _; omega, Ent.same ⟨rfl, rfl, rfl, trivial⟩ rfl⟩
    · intro f2 hfo2 hJ2 β w' hs
      exact ((hs.endI 2 rfl).keepB (List.nil_sublist _)).fin [0, 2] ⟨f2, _, rfl, .inr ⟨_, hJ2, rfl⟩⟩ rfl rfl rfl ⟨hfo2, rfl, trivial⟩
abbrev urowF (A : Option Addr) (l : List Int) (c : Nat) : Fact := rowF ty_uint64 1 (.slice A l.length c) l.length (l.map (Value.int .u64))
structure ColN where
  A : Option Addr
  c : Nat
  l : List Int
def GivesN (k : FuncId) (bx : Nat) (ty : TypeId) (cs : List Value) (G G' : Fact) (n : Nat) (P : List Int → Prop) : Prop :=
  ∀ (l : Nat) (w : World) (f0 R : Fact) (J Jx : List Int → Fact → Prop), J [] f0 → (∀ pre f, J pre f → f.own = true) → R.own = false → Yc Tryz.prog l J Jx R (insK n) → Mem w (f0 :: R :: [bkF bx ty cs, G]) →
    Con Tryz.prog k #[.func (.yield l) #[] #[], .pointer (some ⟨bx, 0, none⟩)] w [f0, bkF bx ty cs, G] (fun _ Fs => ∃ f Fs', Fs = f :: Fs' ∧ ((∃ xs, J xs f ∧ P xs ∧ Fs' = [G']) ∨ (∃ pre, Jx pre f ∧ Fs' = [G'])))
theorem appendN_c (w : World) (k : FuncId) (bx : Nat) (ty : TypeId) (cs : List Value) (G G' : Fact) (n : Nat) (P : List Int → Prop) (hcall : callable Tryz.prog k = true) (hG : G.own = true) (hG' : G'.own = true) (hn : n ≤ 1000) (hg : GivesN k bx ty cs G G' n P) (hm : Mem w [bkF bx ty cs, G]) :
    Con Tryz.prog 209 #[.slice none 0 0, .func (.func k) #[] #[.pointer (some ⟨bx, 0, none⟩)]] w [bkF bx ty cs, G] fun v Fs => ∃ A c l, v = .slice A l.length c ∧ P l ∧ l.length ≤ n ∧ (0 < l.length → ∃ ad, A = some ad) ∧ Fs = [urowF A l c, G'] := by
  have g := good_slices_AppendSeq_uint64_uint64 w (Un [bkF bx ty cs, G])
  have hml := maxLen_eq
  have hs0 : Sat (cx_slices_AppendSeq_uint64_uint64 w (Un [bkF bx ty cs, G])) Va.z 0 [] [bkF bx ty cs, G] w := hm.sat0 rfl (fun f hf _ k hk => ⟨f, hf, hk⟩)
  refine con_of_sx (cx := cx_slices_AppendSeq_uint64_uint64 w (Un [bkF bx ty cs, G])) g b_slices_AppendSeq_uint64_uint64 rfl rfl (β := Va.z) [.c (.v (.slice none 0 0)), .c (.v (.func (.func k) #[] #[.pointer (some ⟨bx, 0, none⟩)]))] 0 [] _ rfl rfl hs0 ?_
  refine range_rule (α := Int) (ι := ColN) (κ := Unit) g rfl (cv := [.pointer (some ⟨bx, 0, none⟩)]) rfl hcall 1 (Nat.le_refl 1)
    (fun pre i => i.l = pre ∧ pre.length ≤ n ∧ (0 < i.l.length → ∃ ad, i.A = some ad)) (fun i => [⟨0, ty_sl_uint64, [.v (.slice i.A i.l.length i.c)]⟩]) (fun i => [urowF i.A i.l i.c]) (fun i => ⟨rfl, trivial⟩)
    (fun _ _ _ => False) (fun _ => []) (fun _ => []) (fun _ => trivial)
    [bkF bx ty cs, G] [] [] ⟨rfl, hG, trivial⟩ (fun g h => by cases h) ⟨none, 0, []⟩ ⟨rfl, Nat.zero_le _, fun h => absurd h (by decide)⟩
    (fun β w hs => ⟨β, Agr.refl _ _, (hs.nilRow ty_uint64 1).perm [1, 2, 0]⟩) (insK n)
    (fun xs Fs' => P xs ∧ Fs' = [G']) (fun _ Fs' => Fs' = [G'])
    (fun l w f0 R J Jx hJ0 hJo hRo hY hm => (hg l w f0 R J Jx hJ0 hJo hRo hY hm).mono fun _ Fs h => h) ?_ ?_ ?_
  · rintro ⟨A, c, l⟩ pre x args X W S' lb bs pn pn' hbs ⟨rfl, hlen, hA⟩ ⟨rfl, rfl, hx⟩
    simp only at hA
    have hx0 : l.length < n := hx
    refine ⟨_, rfl, ?_⟩
    intro b2
    refine ⟨2, l.length, (l ++ [x]).length, l.map (Value.int .u64), [Value.int .u64 x], (l ++ [x]).map (Value.int .u64), rfl, fun β w hs => row_rd (hs.get 0 rfl), fun u hu => by obtain rfl := List.mem_singleton.1 hu; rfl, by simp, by simp, by rw [List.length_append, hml]; show l.length + 1 ≤ _; omega, by rw [List.length_append]; show (l.length + 1) * 8 ≤ _; omega, ?_⟩
    intro A' c' h1 h2 h3
    have e1 : (l ++ [x]).length = l.length + 1 := by rw [List.length_append]; rfl
    refine ⟨⟨A', c', l ++ [x]⟩, ⟨rfl, by rw [e1]; omega, fun _ => ?_⟩, Ent.mk' trivial rfl (fun β w hs => hs.perm [2])⟩
    cases A' with
    | none => exact absurd (h3 rfl).2 (by decide)
    | some ad => exact ⟨ad, rfl⟩
  · rintro xs ⟨A, c, l⟩ Fs ⟨rfl, hlen, hA⟩ ⟨hP, rfl⟩
    simp only at hA
    intro β w' hs
    exact (hs.keepB (List.nil_sublist _)).fin [1, 0] ⟨A, c, l, rfl, hP, hlen, hA, rfl⟩ rfl rfl rfl ⟨rfl, hG', trivial⟩
  · rintro e pre j Fs ⟨⟩
theorem collectN_c (w : World) (k : FuncId) (bx : Nat) (ty : TypeId) (cs : List Value) (G G' : Fact) (n : Nat) (P : List Int → Prop) (hcall : callable Tryz.prog k = true) (hG : G.own = true) (hG' : G'.own = true) (hn : n ≤ 1000) (hg : GivesN k bx ty cs G G' n P) (hm : Mem w [bkF bx ty cs, G]) :
    Con Tryz.prog 170 #[.func (.func k) #[] #[.pointer (some ⟨bx, 0, none⟩)]] w [bkF bx ty cs, G] fun v Fs => ∃ A c l, v = .slice A l.length c ∧ P l ∧ l.length ≤ n ∧ (0 < l.length → ∃ ad, A = some ad) ∧ Fs = [urowF A l c, G'] := by
  have g := good_slices_Collect_uint64 w (Un [bkF bx ty cs, G])
  have hs0 : Sat (cx_slices_Collect_uint64 w (Un [bkF bx ty cs, G])) Va.z 0 [] [bkF bx ty cs, G] w := hm.sat0 rfl (fun f hf _ k hk => ⟨f, hf, hk⟩)
  refine con_of_sx (cx := cx_slices_Collect_uint64 w (Un [bkF bx ty cs, G])) g b_slices_Collect_uint64 rfl rfl (β := Va.z) [.c (.v (.func (.func k) #[] #[.pointer (some ⟨bx, 0, none⟩)]))] 0 [] _ rfl rfl hs0 ?_
  refine call_con [0, 1] (hown := ⟨rfl, hG, trivial⟩) (fun β w' hs => appendN_c w' k bx ty cs G G' n P hcall hG hG' hn hg (hs.mem.take (js := [0, 1]) rfl)) ?_
  rintro v Fs ⟨A, c, l, rfl, hP, hlen, hA, rfl⟩
  intro β w' hs
  exact hs.fin [0, 1] ⟨A, c, l, rfl, hP, hlen, hA, rfl⟩ rfl rfl rfl ⟨rfl, hG', trivial⟩
theorem keysI_gives (bx b : Nat) (lm : MLI) : GivesN 172 bx ty_map_uint64_sl_uint8 [.map (some b)] (mapIF .u64 b lm) (mapIF .u64 b lm) lm.length (fun xs => xs.Perm (lm.map (·.1))) :=
  fun l w f0 R J Jx hJ0 hJo hRo hY hm => keysI_it l w bx b lm f0 R J Jx hJ0 hJo hRo hY hm
theorem isNaNU_c (w : World) (x : Int) : Pu Tryz.prog n_cmp_isNaN_uint64 #[.int .u64 x] w (.bool false) := by
  have g := good_cmp_isNaN_uint64 w (Un [])
  refine con_of_sx (cx := cx_cmp_isNaN_uint64 w (Un [])) g b_cmp_isNaN_uint64 rfl rfl (β := Va.z) [.c (.v (.int .u64 x))] 0 [] [] rfl rfl (Sat.start rfl) ?_
  intro β w' hs
  refine hs.fin [] ⟨?_, rfl⟩
  show Value.bool (!decide (x = x)) = _
  simp
theorem lessU_c (w : World) (x y : Int) : Pu Tryz.prog n_cmp_Less_uint64 #[.int .u64 x, .int .u64 y] w (.bool (decide (x < y))) := by
  have g := good_cmp_Less_uint64 w (Un [])
  refine con_of_sx (cx := cx_cmp_Less_uint64 w (Un [])) g b_cmp_Less_uint64 rfl rfl (β := Va.z) [.c (.v (.int .u64 x)), .c (.v (.int .u64 y))] 0 [] [] rfl rfl (Sat.start rfl) ?_
  refine call_pu (fun β w' hs => isNaNU_c w' x) ?_
  intro β w' hs
  exact hs.fin [] ⟨rfl, rfl⟩
def at0 (l : List Int) (q : Nat) : Int := l.getD q 0
def sw (l : List Int) (j : Nat) : List Int := (l.set j (at0 l (j - 1))).set (j - 1) (at0 l j)
theorem at0_some {l : List Int} {q : Nat} (h : q < l.length) : l[q]? = some (at0 l q) := by
  simp [at0, List.getD, h]
theorem sw_len (l : List Int) (j : Nat) : (sw l j).length = l.length := by simp [sw]
theorem sw_get {l : List Int} {j : Nat} (h1 : 1 ≤ j) (h2 : j < l.length) (q : Nat) : at0 (sw l j) q = if q = j - 1 then at0 l j else if q = j then at0 l (j - 1) else at0 l q := by
  unfold sw at0
  simp only [List.getD_eq_getElem?_getD, List.getElem?_set, List.length_set]
  by_cases a : j - 1 = q
  · have a' : q = j - 1 := a.symm
    rw [if_pos a, if_pos (by omega), if_pos a']
    rfl
  · have a' : ¬ q = j - 1 := fun e => a e.symm
    rw [if_neg a, if_neg a']
    by_cases b : j = q
    · have b' : q = j := b.symm
      rw [if_pos b, if_pos h2, if_pos b']
      rfl
    · have b' : ¬ q = j := fun e => b e.symm
      rw [if_neg b, if_neg b']
theorem sw_perm {l : List Int} {j : Nat} (h1 : 1 ≤ j) (h2 : j < l.length) : (sw l j).Perm l := by
  have e1 : at0 l (j - 1) = l[j - 1]'(by omega) := by simp [at0, List.getD, List.getElem?_eq_getElem (show j - 1 < l.length by omega)]
  have e2 : at0 l j = l[j] := by simp [at0, List.getD, List.getElem?_eq_getElem h2]
  unfold sw
  rw [e1, e2]
  exact List.set_set_perm h2 (by omega)
def But (l : List Int) (i j : Nat) : Prop := ∀ p q, p < q → q ≤ i → q ≠ j → at0 l p ≤ at0 l q
def Upto (l : List Int) (i : Nat) : Prop := ∀ p q, p < q → q < i → at0 l p ≤ at0 l q
theorem But.start {l : List Int} {i : Nat} (h : Upto l i) : But l i i := fun p q h1 h2 h3 => h p q h1 (by omega)
theorem But.swap {l : List Int} {i j : Nat} (h : But l i j) (h1 : 1 ≤ j) (h2 : j ≤ i) (h3 : i < l.length) (hlt : at0 l j < at0 l (j - 1)) : But (sw l j) i (j - 1) := by
  intro p q hpq hq hne
  rw [sw_get h1 (by omega), sw_get h1 (by omega), if_neg hne]
  by_cases b : q = j
  · subst b
    rw [if_pos rfl]
    by_cases a : p = q - 1
    · rw [if_pos a]
      omega
    · rw [if_neg a, if_neg (by omega)]
      exact h p (q - 1) (by omega) (by omega) (by omega)
  · rw [if_neg b]
    by_cases a : p = j - 1
    · rw [if_pos a]
      exact h j q (by omega) hq b
    · rw [if_neg a]
      by_cases c : p = j
      · rw [if_pos c]
        exact h (j - 1) q (by omega) hq b
      · rw [if_neg c]
        exact h p q hpq hq b
theorem But.done {l : List Int} {i j : Nat} (h : But l i j) (h2 : j ≤ i) (hj : 1 ≤ j → ¬ at0 l j < at0 l (j - 1)) : Upto l (i + 1) := by
  intro p q hpq hq
  by_cases b : q = j
  · subst b
    have h3 := hj (by omega)
    by_cases a : p = q - 1
    · subst a
      omega
    · have := h p (q - 1) (by omega) (by omega) (by omega)
      omega
  · exact h p q hpq (by omega) b
theorem uset (l : List Int) (j : Nat) (x : Int) : putAll (l.map (Value.int .u64)) (j * 1) [.int .u64 x] = (l.set j x).map (Value.int .u64) := by
  rw [putAll, putAll, putAt_eq, Nat.mul_one, List.map_set]
theorem insU_c (w : World) (A : Option Addr) (l : List Int) (c : Nat) (hl : l.length ≤ 12) (hm : Mem w [urowF A l c]) :
    Con Tryz.prog n_slices_insertionSortOrdered_uint64 #[.slice A l.length c, .int .i64 0, .int .i64 (l.length : Int)] w [urowF A l c] fun v Fs => v = .tuple #[] ∧ ∃ l', l'.Perm l ∧ Upto l' l.length ∧ Fs = [urowF A l' c] := by
  have g := good_slices_insertionSortOrdered_uint64 w (Un [urowF A l c])
  have hs0 : Sat (cx_slices_insertionSortOrdered_uint64 w (Un [urowF A l c])) Va.z 0 [] [urowF A l c] w := hm.sat0 rfl (fun f hf _ k hk => ⟨f, hf, hk⟩)
  have hA : 0 < l.length → ∃ g0, A = some ⟨g0, 0, none⟩ := fun h => by
    have ho : w.ownsRow 0 ty_uint64 1 (.slice A l.length c) l.length (l.map (Value.int .u64)) := hm.fact _ List.mem_cons_self
    rcases ho.2 with ⟨_, h0⟩ | ⟨g0, cap, cur, hv, _⟩
    · exact absurd h0 (by omega)
    · injection hv with q _ _
      exact ⟨g0, q⟩
  obtain ⟨N, hN⟩ : ∃ N, l.length = N := ⟨_, rfl⟩
  rw [hN] at hl hA ⊢
  refine con_of_sx (cx := cx_slices_insertionSortOrdered_uint64 w (Un [urowF A l c])) g b_slices_insertionSortOrdered_uint64 rfl rfl (β := Va.z) [.c (.v (.slice A N c)), .c (.v (.int .i64 0)), .c (.v (.int .i64 (N : Int)))] 0 [] _ rfl rfl hs0 ?_
  refine ⟨1, rfl, ?_⟩
  refine loop_rule (ι := List Int × Nat) 0 (fun i => [(0, .c (.v (.slice A N c))), (1, .c (.v (.int .i64 0))), (2, .c (.v (.int .i64 (N : Int)))), (6, .c (.v (.int .i64 (i.2 : Int))))]) (fun _ => []) (fun i => [urowF A i.1 c])
    (fun i => i.1.Perm l ∧ 1 ≤ i.2 ∧ Upto i.1 i.2 ∧ i.2 ≤ N + 1) (fun i => N + 1 - i.2) (l, 1) ⟨List.Perm.refl _, Nat.le_refl _, fun p q h1 h2 => by omega, by omega⟩ (Ent.same ⟨rfl, rfl, rfl, rfl, trivial⟩ rfl) g ?_
  rintro ⟨xs, i⟩ ⟨hp, hi1, hu, hiN⟩
  simp only at hp hi1 hu hiN
  have hxl : xs.length = N := by rw [hp.length_eq, hN]
  refine BIf.dec (fun hlt => ?_) (fun hge => ?_)
  · have hlt0 : (i : Int) < N := hlt
    have hiN2 : i < N := by omega
    obtain ⟨g0, rfl⟩ := hA (by omega)
    refine loop_rule (ι := List Int × Nat) 0 (fun y => [(0, .c (.v (.slice (some ⟨g0, 0, none⟩) N c))), (1, .c (.v (.int .i64 0))), (2, .c (.v (.int .i64 (N : Int)))), (6, .c (.v (.int .i64 (i : Int)))), (7, .c (.v (.int .i64 (y.2 : Int))))]) (fun _ => []) (fun y => [urowF (some ⟨g0, 0, none⟩) y.1 c])
      (fun y => y.1.Perm l ∧ But y.1 i y.2 ∧ y.2 ≤ i) (fun y => y.2) (xs, i) ⟨hp, But.start hu, Nat.le_refl _⟩ (Ent.same ⟨rfl, rfl, rfl, rfl, rfl, trivial⟩ rfl) g ?_
    rintro ⟨ys, j⟩ ⟨hyp, hb, hji⟩
    simp only at hyp hb hji
    have hyl : ys.length = N := by rw [hyp.length_eq, hN]
    refine draw_rule g p_slices_insertionSortOrdered_uint64_4 (by kernel_rfl) _ _ Sub.refl ?_
    have hcell : ∀ q, q < N → ∀ {cx : Cx} {β : Va} {w' : World} {n : Nat} {H : List Bk}, Sat cx β n H [urowF (some ⟨g0, 0, none⟩) ys c] w' → w'.cell? ((⟨g0, 0, none⟩ : Addr).add (q * 1)) = some (.int .u64 (at0 ys q)) := by
      intro q hq cx β w' n H hs
      have h := row_rd (hs.get 0 rfl)
      exact Rd.cell1 h (by rw [List.getElem?_map, at0_some (by omega)]; rfl)
    refine BIf.dec (fun hj => ?_) (fun hj => ?_)
    · have hj0 : (0 : Int) < j := hj
      refine ⟨⟨g0, 0, none⟩, j, rfl, rfl, by omega, .int .u64 (at0 ys j), fun β w' hs => hcell j (by omega) hs, ?_⟩
      refine ⟨((j - 1 : Nat) : Int), by rw [wrap_i64 (by omega) (by omega)]; omega, ?_⟩
      refine ⟨⟨g0, 0, none⟩, j - 1, rfl, rfl, by omega, .int .u64 (at0 ys (j - 1)), fun β w' hs => hcell (j - 1) (by omega) hs, ?_⟩
      obtain ⟨bb, hbb⟩ : ∃ bb, decide (at0 ys j < at0 ys (j - 1)) = bb := ⟨_, rfl⟩
      refine call_pu (v := .bool bb) (fun β w' hs => by rw [← hbb]; exact lessU_c w' _ _) ?_
      refine ⟨Sub.refl, ?_⟩
      cases bb with
      | true =>
        have hlt2 : at0 ys j < at0 ys (j - 1) := of_decide_eq_true hbb
        have hS : ∀ {n : Nat} {H : List Bk} {F : List Fact}, Sub (cx_slices_insertionSortOrdered_uint64 w (Un [urowF (some ⟨g0, 0, none⟩) l c])) n H F [] [] := fun {n H F} => Sub.of (List.nil_sublist _) (List.nil_sublist _)
        refine draw_rule g p_slices_insertionSortOrdered_uint64_6 (by kernel_rfl) [] [] hS ?_
        refine ⟨((j - 1 : Nat) : Int), by rw [wrap_i64 (by omega) (by omega)]; omega, ?_⟩
        refine ⟨((j - 1 : Nat) : Int), by rw [wrap_i64 (by omega) (by omega)]; omega, ?_⟩
        refine ⟨⟨g0, 0, none⟩, j - 1, rfl, rfl, by omega, ?_⟩
        refine ⟨⟨g0, 0, none⟩, j, rfl, rfl, by omega, ?_⟩
        have hsl : (sw ys j).length = N := by rw [sw_len, hyl]
        refine ⟨?_, ?_⟩
        · skip
          refine ⟨.int .u64 (at0 ys (j - 1)), fun β w' hs => hcell (j - 1) (by omega) hs, ?_⟩
          refine ⟨hS, ?_⟩
          refine ⟨.int .u64 (at0 ys j), fun β w' hs => hcell j (by omega) hs, ?_⟩
          refine ⟨hS, ?_⟩
          refine ⟨⟨g0, 0, none⟩, j, rfl, rfl, by omega, ?_⟩
          refine ⟨_, fun β w' hs => Sat.rowSet hs (j := 0) (us := [.int .u64 (at0 ys (j - 1))]) rfl (by show j * 1 + 1 ≤ ys.length * 1; omega) (fun u hu => by obtain rfl := List.mem_singleton.1 hu; rfl), ?_⟩
          refine ⟨hS, ?_⟩
          refine ⟨⟨g0, 0, none⟩, j - 1, rfl, rfl, by omega, ?_⟩
          refine ⟨_, fun β w' hs => Sat.rowSet hs (j := 0) (us := [.int .u64 (at0 ys j)]) rfl (by show (j - 1) * 1 + 1 ≤ ys.length * 1; omega) (fun u hu => by obtain rfl := List.mem_singleton.1 hu; rfl), ?_⟩
          refine ⟨hS, ?_⟩
          refine ⟨((j - 1 : Nat) : Int), by rw [wrap_i64 (by omega) (by omega)]; omega, ?_⟩
          exact ⟨(sw ys j, j - 1), ⟨(sw_perm (by omega) (by omega)).trans hyp, hb.swap (by omega) hji (by omega) hlt2, by show j - 1 ≤ i; omega⟩, by show j - 1 < j; omega, Ent.mk' ⟨rfl, rfl, rfl, rfl, rfl, trivial⟩ rfl (fun β w' hs => by
            show Sat _ _ _ _ [rowF ty_uint64 1 (.slice (some ⟨g0, 0, none⟩) (sw ys j).length c) (sw ys j).length ((sw ys j).map (Value.int .u64))] _
            rw [sw_len]
            have e : (sw ys j).map (Value.int .u64) = putAll (putAll (ys.map (Value.int .u64)) (j * 1) [.int .u64 (at0 ys (j - 1))]) ((j - 1) * 1) [.int .u64 (at0 ys j)] := by rw [uset, uset]; rfl
            rw [e]
            exact hs)⟩
        · skip
          refine ⟨.int .u64 (at0 ys j), fun β w' hs => hcell j (by omega) hs, ?_⟩
          refine ⟨hS, ?_⟩
          refine ⟨.int .u64 (at0 ys (j - 1)), fun β w' hs => hcell (j - 1) (by omega) hs, ?_⟩
          refine ⟨hS, ?_⟩
          refine ⟨⟨g0, 0, none⟩, j, rfl, rfl, by omega, ?_⟩
          refine ⟨_, fun β w' hs => Sat.rowSet hs (j := 0) (us := [.int .u64 (at0 ys (j - 1))]) rfl (by show j * 1 + 1 ≤ ys.length * 1; omega) (fun u hu => by obtain rfl := List.mem_singleton.1 hu; rfl), ?_⟩
          refine ⟨hS, ?_⟩
          refine ⟨⟨g0, 0, none⟩, j - 1, rfl, rfl, by omega, ?_⟩
          refine ⟨_, fun β w' hs => Sat.rowSet hs (j := 0) (us := [.int .u64 (at0 ys j)]) rfl (by show (j - 1) * 1 + 1 ≤ ys.length * 1; omega) (fun u hu => by obtain rfl := List.mem_singleton.1 hu; rfl), ?_⟩
          refine ⟨hS, ?_⟩
          refine ⟨((j - 1 : Nat) : Int), by rw [wrap_i64 (by omega) (by omega)]; omega, ?_⟩
          exact ⟨(sw ys j, j - 1), ⟨(sw_perm (by omega) (by omega)).trans hyp, hb.swap (by omega) hji (by omega) hlt2, by show j - 1 ≤ i; omega⟩, by show j - 1 < j; omega, Ent.mk' ⟨rfl, rfl, rfl, rfl, rfl, trivial⟩ rfl (fun β w' hs => by
            show Sat _ _ _ _ [rowF ty_uint64 1 (.slice (some ⟨g0, 0, none⟩) (sw ys j).length c) (sw ys j).length ((sw ys j).map (Value.int .u64))] _
            rw [sw_len]
            have e : (sw ys j).map (Value.int .u64) = putAll (putAll (ys.map (Value.int .u64)) (j * 1) [.int .u64 (at0 ys (j - 1))]) ((j - 1) * 1) [.int .u64 (at0 ys j)] := by rw [uset, uset]; rfl
            rw [e]
            exact hs)⟩
      | false =>
        refine ⟨((i + 1 : Nat) : Int), by rw [wrap_i64 (by omega) (by omega)]; rfl, ?_⟩
        exact ⟨(ys, i + 1), ⟨hyp, by show 1 ≤ i + 1; omega, hb.done hji (fun _ => of_decide_eq_false hbb), by show i + 1 ≤ N + 1; omega⟩, by show N + 1 - (i + 1) < N + 1 - i; omega, Ent.same ⟨rfl, rfl, rfl, rfl, trivial⟩ rfl⟩
    · have hj0 : ¬ (0 : Int) < j := hj
      refine ⟨Sub.refl, ?_⟩
      refine ⟨((i + 1 : Nat) : Int), by rw [wrap_i64 (by omega) (by omega)]; rfl, ?_⟩
      exact ⟨(ys, i + 1), ⟨hyp, by show 1 ≤ i + 1; omega, hb.done hji (fun h => by omega), by show i + 1 ≤ N + 1; omega⟩, by show N + 1 - (i + 1) < N + 1 - i; omega, Ent.same ⟨rfl, rfl, rfl, rfl, trivial⟩ rfl⟩
  · have hge0 : ¬ (i : Int) < N := hge
    intro β w' hs
    exact hs.fin [0] ⟨rfl, xs, hp, fun p q h1 h2 => hu p q h1 (by omega), rfl⟩
theorem pdqU_c (w : World) (A : Option Addr) (l : List Int) (c : Nat) (m : Int) (hl : l.length ≤ 12) (hm : Mem w [urowF A l c]) :
    Con Tryz.prog n_slices_pdqsortOrdered_uint64 #[.slice A l.length c, .int .i64 0, .int .i64 (l.length : Int), .int .i64 m] w [urowF A l c] fun v Fs => v = .tuple #[] ∧ ∃ l', l'.Perm l ∧ Upto l' l.length ∧ Fs = [urowF A l' c] := by
  have g := good_slices_pdqsortOrdered_uint64 w (Un [urowF A l c])
  have hs0 : Sat (cx_slices_pdqsortOrdered_uint64 w (Un [urowF A l c])) Va.z 0 [] [urowF A l c] w := hm.sat0 rfl (fun f hf _ k hk => ⟨f, hf, hk⟩)
  refine con_of_sx (cx := cx_slices_pdqsortOrdered_uint64 w (Un [urowF A l c])) g b_slices_pdqsortOrdered_uint64 rfl rfl (β := Va.z) [.c (.v (.slice A l.length c)), .c (.v (.int .i64 0)), .c (.v (.int .i64 (l.length : Int))), .c (.v (.int .i64 m))] 0 [] _ rfl rfl hs0 ?_
  refine loop_rule 0 (fun _ : Unit => [(0, .c (.v (.slice A l.length c))), (1, .c (.v (.int .i64 0))), (2, .c (.v (.int .i64 (l.length : Int))))]) (fun _ => []) (fun _ => [urowF A l c]) (fun _ => True) (fun _ => 0) () trivial (Ent.same ⟨rfl, rfl, rfl, trivial⟩ rfl) g ?_
  rintro ⟨⟩ -
  refine ⟨(l.length : Int), by rw [Int.sub_zero, wrap_i64 (by omega) (by omega)], ?_⟩
  refine BIf.dec (fun _ => ?_) (fun h => absurd (show (l.length : Int) ≤ 12 by omega) h)
  refine call_con [0] (fun β w' hs => insU_c w' A l c hl (hs.mem.take (js := [0]) rfl)) ?_
  rintro v Fs ⟨rfl, l', h1, h2, rfl⟩
  intro β w' hs
  exact hs.fin [0] ⟨rfl, l', h1, h2, rfl⟩
theorem bitsU_c (x : Nat) (hx : x < 18446744073709551616) : ∃ r : Int, ∀ w, Pu Tryz.prog n_math_bits_Len #[.int .u64 (x : Int)] w (.int .i64 r) := by
  refine ⟨((Lib.bitLen (x : Int).toNat : Nat) : Int), fun w => pu_of (Calls.mono (Tryz.bits_Len (x : Int) w (by omega) (by omega)) ?_)⟩
  rintro e w' ⟨rfl, rfl⟩
  exact ⟨_, rfl, rfl, Chg.refl _ _⟩
theorem sortU_c (w : World) (A : Option Addr) (l : List Int) (c : Nat) (hl : l.length ≤ 12) (hm : Mem w [urowF A l c]) :
    Con Tryz.prog n_slices_Sort_uint64_uint64 #[.slice A l.length c] w [urowF A l c] fun v Fs => v = .tuple #[] ∧ ∃ l', l'.Perm l ∧ Upto l' l.length ∧ Fs = [urowF A l' c] := by
  have g := good_slices_Sort_uint64_uint64 w (Un [urowF A l c])
  have hs0 : Sat (cx_slices_Sort_uint64_uint64 w (Un [urowF A l c])) Va.z 0 [] [urowF A l c] w := hm.sat0 rfl (fun f hf _ k hk => ⟨f, hf, hk⟩)
  refine con_of_sx (cx := cx_slices_Sort_uint64_uint64 w (Un [urowF A l c])) g b_slices_Sort_uint64_uint64 rfl rfl (β := Va.z) [.c (.v (.slice A l.length c))] 0 [] _ rfl rfl hs0 ?_
  refine ⟨(l.length : Int), by rw [wrap_u64']; omega, ?_⟩
  obtain ⟨r, hr⟩ := bitsU_c l.length (by omega)
  refine call_pu (fun β w' hs => hr w') ?_
  refine call_con [0] (fun β w' hs => pdqU_c w' A l c r hl (hs.mem.take (js := [0]) rfl)) ?_
  rintro v Fs ⟨rfl, l', h1, h2, rfl⟩
  intro β w' hs
  exact hs.fin [0] ⟨rfl, l', h1, h2, rfl⟩
theorem rising_of {l : List Int} (h : Upto l l.length) : l.Pairwise (· ≤ ·) := by
  rw [List.pairwise_iff_getElem]
  intro p q hp hq hpq
  have := h p q hpq hq
  simpa [at0, List.getD, hp, hq] using this
theorem sortedN_c (w : World) (k : FuncId) (bx : Nat) (ty : TypeId) (cs : List Value) (G G' : Fact) (n : Nat) (P : List Int → Prop) (hcall : callable Tryz.prog k = true) (hG : G.own = true) (hG' : G'.own = true) (hn : n ≤ 12) (hg : GivesN k bx ty cs G G' n P) (hm : Mem w [bkF bx ty cs, G]) :
    Con Tryz.prog 114 #[.func (.func k) #[] #[.pointer (some ⟨bx, 0, none⟩)]] w [bkF bx ty cs, G] fun v Fs => ∃ A c l, v = .slice A l.length c ∧ (∃ l0, P l0 ∧ l.Perm l0) ∧ l.length ≤ n ∧ l.Pairwise (· ≤ ·) ∧ (0 < l.length → ∃ ad, A = some ad) ∧ Fs = [urowF A l c, G'] := by
  have g := good_slices_Sorted_uint64 w (Un [bkF bx ty cs, G])
  have hs0 : Sat (cx_slices_Sorted_uint64 w (Un [bkF bx ty cs, G])) Va.z 0 [] [bkF bx ty cs, G] w := hm.sat0 rfl (fun f hf _ k hk => ⟨f, hf, hk⟩)
  refine con_of_sx (cx := cx_slices_Sorted_uint64 w (Un [bkF bx ty cs, G])) g b_slices_Sorted_uint64 rfl rfl (β := Va.z) [.c (.v (.func (.func k) #[] #[.pointer (some ⟨bx, 0, none⟩)]))] 0 [] _ rfl rfl hs0 ?_
  refine call_con [0, 1] (hown := ⟨rfl, hG, trivial⟩) (fun β w' hs => collectN_c w' k bx ty cs G G' n P hcall hG hG' (by omega) hg (hs.mem.take (js := [0, 1]) rfl)) ?_
  rintro v Fs ⟨A, c, l, rfl, hP, hlen, hA, rfl⟩
  refine call_con [0] (fun β w' hs => sortU_c w' A l c (by omega) (hs.mem.take (js := [0]) rfl)) ?_
  rintro v Fs ⟨rfl, l', h1, h2, rfl⟩
  have hl := h1.length_eq
  intro β w' hs
  refine hs.fin [0, 1] ⟨A, c, l', by rw [hl]; rfl, ⟨l, hP, h1⟩, by omega, rising_of (by rw [hl]; exact h2), by rw [hl]; exact hA, rfl⟩ rfl rfl rfl ⟨rfl, hG', trivial⟩
def decimS (u : Nat) : ByteArray := ⟨(Lib.decDigits u).toArray⟩
theorem smallU_c (w : World) (u : Nat) (hu : u < 100) : Pu Tryz.prog n_internal_strconv_small #[.int .i64 (u : Int)] w (.string (decimS u)) := by
  refine pu_of (Calls.mono (Tryz.internal_strconv_small u hu w) ?_)
  rintro e w' ⟨rfl, rfl⟩
  exact ⟨_, rfl, rfl, Chg.refl _ _⟩
theorem fmtI_c (w : World) (u : Nat) (hu : u < 100) : Pu Tryz.prog n_internal_strconv_FormatUint #[.int .u64 (u : Int), .int .i64 10] w (.string (decimS u)) := by
  obtain ⟨x, hx⟩ : ∃ x : Int, (u : Int) = x := ⟨_, rfl⟩
  rw [hx]
  refine con_of_sx (cx := cx_internal_strconv_FormatUint w (Un [])) (good_internal_strconv_FormatUint w (Un [])) b_internal_strconv_FormatUint rfl rfl (β := Va.z) [.c (.v (.int .u64 x)), .c (.v (.int .i64 10))] 0 [] [] rfl rfl (Sat.start rfl) ?_
  refine BIf.dec (fun _ => ?_) (fun h => absurd (show x < 100 by omega) h)
  refine ⟨x, by rw [wrap_i64 (by omega) (by omega)], ?_⟩
  refine call_pu (fun β w' hs => by rw [← hx]; exact smallU_c w' u hu) ?_
  intro β w' hs
  exact hs.fin [] ⟨rfl, rfl⟩
theorem fmtU_c (w : World) (u : Nat) (hu : u < 100) : Pu Tryz.prog n_strconv_FormatUint #[.int .u64 (u : Int), .int .i64 10] w (.string (decimS u)) := by
  refine con_of_sx (cx := cx_strconv_FormatUint w (Un [])) (good_strconv_FormatUint w (Un [])) b_strconv_FormatUint rfl rfl (β := Va.z) [.c (.v (.int .u64 (u : Int))), .c (.v (.int .i64 10))] 0 [] [] rfl rfl (Sat.start rfl) ?_
  refine call_pu (fun β w' hs => fmtI_c w' u hu) ?_
  intro β w' hs
  exact hs.fin [] ⟨rfl, rfl⟩
def isIf : Option TypeDesc → Bool
  | some (.interface _) => true
  | _ => false
theorem eqIn_nil {P : Program} {t : TypeId} (ht : isIf (P.underlying t) = true) (w : World) : (Op.equalIn Op.maxDepth t .nilIface .nilIface).run P w = .ok true w := by
  obtain ⟨ms, hm⟩ : ∃ ms, P.underlying t = some (.interface ms) := by
    unfold isIf at ht
    split at ht
    · rename_i ms h; exact ⟨ms, h⟩
    · cases ht
  rw [show Op.maxDepth = 9999 + 1 from rfl]
  unfold Op.equalIn
  simp [run_underlying hm]
theorem neq_nil {P : Program} {t : TypeId} (ht : isIf (P.underlying t) = true) (x : Operand) (w : World) : (binSem .neq t x (.const .nilIface) .nilIface .nilIface).run P w = .ok (.bool false) w := by
  simp [binSem, eqGuard, binOp, Op.equal, eqIn_nil ht]
theorem eql_nil {P : Program} {t : TypeId} (ht : isIf (P.underlying t) = true) (x : Operand) (w : World) : (binSem .eql t x (.const .nilIface) .nilIface .nilIface).run P w = .ok (.bool true) w := by
  simp [binSem, eqGuard, binOp, Op.equal, eqIn_nil ht]
theorem parseI_c (w : World) (t : ByteArray) (u : Nat) (ht : t.size ≤ 1000000) (h : Lib.parseUintB 64 t.data.toList = .ok u) : Pu Tryz.prog n_internal_strconv_ParseUint #[.string t, .int .i64 10, .int .i64 64] w (.tuple #[.int .u64 (u : Int), .nilIface]) := by
  refine pu_of (Calls.mono (Tryz.internal_strconv_ParseUint_10_at64 t (by omega) w) ?_)
  rintro e w' ⟨rfl, hw⟩
  refine ⟨_, rfl, by rw [h]; rfl, ?_⟩
  rcases hw with rfl | rfl
  · exact Chg.refl _ _
  · exact ⟨rfl, rfl, rfl, by rw [Lib.bytesWorld_size]; omega, fun k hk _ => Lib.bytesWorld_at_old w _ t k hk⟩
theorem parseU_c (w : World) (t : ByteArray) (u : Nat) (ht : t.size ≤ 1000000) (h : Lib.parseUintB 64 t.data.toList = .ok u) : Pu Tryz.prog n_strconv_ParseUint #[.string t, .int .i64 10, .int .i64 64] w (.tuple #[.int .u64 (u : Int), .nilIface]) := by
  have g := good_strconv_ParseUint w (Un [])
  refine con_of_sx (cx := cx_strconv_ParseUint w (Un [])) g b_strconv_ParseUint rfl rfl (β := Va.z) [.c (.v (.string t)), .c (.v (.int .i64 10)), .c (.v (.int .i64 64))] 0 [] [] rfl rfl (Sat.start rfl) ?_
  refine call_pu (v := .tuple #[.int .u64 (u : Int), .nilIface]) (fun β w' hs => parseI_c w' t u ht h) ?_
  refine ⟨false, fun w => neq_nil (by kernel_rfl) _ _, ?_⟩
  intro β w' hs
  exact hs.fin [] ⟨rfl, rfl⟩
def errF (g : Nat) : Fact where
  own := false
  D := fun k => k = g
  p := fun w => ∃ ev, w.cell? ⟨g, 0, none⟩ = some ev ∧ (ev = .nilIface ∨ ∃ te pe, ev = .iface te pe)
  st := fun w w' hs ⟨ev, h, h2⟩ => ⟨ev, by rw [← h]; exact World.cell?_of_block (hs _ rfl), h2⟩
theorem chg_of_below {w w' : World} (h : RowKit.Below w.heap.size w w') : Chg None_ w w' := ⟨h.os, h.tape, h.output, h.size, fun k hk _ => h.block k hk⟩
theorem eqIn_if {P : Program} {t : TypeId} (ht : isIf (P.underlying t) = true) (te : TypeId) (pv : Value) (w : World) : (Op.equalIn Op.maxDepth t (.iface te pv) .nilIface).run P w = .ok false w := by
  obtain ⟨ms, hm⟩ : ∃ ms, P.underlying t = some (.interface ms) := by
    unfold isIf at ht
    split at ht
    · rename_i ms h; exact ⟨ms, h⟩
    · cases ht
  rw [show Op.maxDepth = 9999 + 1 from rfl]
  unfold Op.equalIn
  simp [run_underlying hm]
theorem neq_if {P : Program} {t : TypeId} (ht : isIf (P.underlying t) = true) (x : Operand) (te : TypeId) (pv : Value) (w : World) : (binSem .neq t x (.const .nilIface) (.iface te pv) .nilIface).run P w = .ok (.bool true) w := by
  simp [binSem, eqGuard, binOp, Op.equal, eqIn_if ht]
theorem eql_if {P : Program} {t : TypeId} (ht : isIf (P.underlying t) = true) (x : Operand) (te : TypeId) (pv : Value) (w : World) : (binSem .eql t x (.const .nilIface) (.iface te pv) .nilIface).run P w = .ok (.bool false) w := by
  simp [binSem, eqGuard, binOp, Op.equal, eqIn_if ht]
theorem toErrS_c (w : World) (fn s : ByteArray) (hs : s.size ≤ 1000000) (he : (errF 6).p w) : Con Tryz.prog n_strconv_toError #[.string fn, .string s, .int .i64 10, .int .i64 64, .iface 305 (.int .i64 2)] w [] fun v Fs => (∃ te pv, v = .iface te pv) ∧ Fs = [] := by
  obtain ⟨ev, h1, h2⟩ := he
  refine con_of_calls (Calls.mono (Tryz.strconv_toError_syntax fn s 10 64 ev w (by omega) h1 h2) ?_)
  rintro e w' ⟨N, rfl, _, _, hb⟩
  exact ⟨_, rfl, [], ⟨⟨_, _, rfl⟩, rfl⟩, by rw [Un.nil]; exact chg_of_below hb, Mem.none _, trivial, fun _ h => by cases h⟩
theorem toErrR_c (w : World) (fn s : ByteArray) (hs : s.size ≤ 1000000) (he : (errF 7).p w) : Con Tryz.prog n_strconv_toError #[.string fn, .string s, .int .i64 10, .int .i64 64, .iface 305 (.int .i64 1)] w [] fun v Fs => (∃ te pv, v = .iface te pv) ∧ Fs = [] := by
  obtain ⟨ev, h1, h2⟩ := he
  refine con_of_calls (Calls.mono (Tryz.strconv_toError_range fn s 10 64 ev w (by omega) h1 h2) ?_)
  rintro e w' ⟨N, rfl, _, _, hb⟩
  exact ⟨_, rfl, [], ⟨⟨_, _, rfl⟩, rfl⟩, by rw [Un.nil]; exact chg_of_below hb, Mem.none _, trivial, fun _ h => by cases h⟩
theorem parseIG_c (w : World) (t : ByteArray) (ht : t.size ≤ 1000000) : Pu Tryz.prog n_internal_strconv_ParseUint #[.string t, .int .i64 10, .int .i64 64] w (Lib.uintTupleM 305 18446744073709551615 (Lib.parseUintB 64 t.data.toList)) := by
  refine pu_of (Calls.mono (Tryz.internal_strconv_ParseUint_10_at64 t (by omega) w) ?_)
  rintro e w' ⟨rfl, hw⟩
  refine ⟨_, rfl, rfl, ?_⟩
  rcases hw with rfl | rfl
  · exact Chg.refl _ _
  · exact ⟨rfl, rfl, rfl, by rw [Lib.bytesWorld_size]; omega, fun k hk _ => Lib.bytesWorld_at_old w _ t k hk⟩
def noNum (v : Value) : Prop := ∃ (n : Nat) (te : TypeId) (pv : Value), v = .tuple #[.int .u64 (n : Int), .iface te pv]
theorem parseUG_c (w : World) (t : ByteArray) (ht : t.size ≤ 1000000) (hm : Mem w [errF 6, errF 7]) : Con Tryz.prog n_strconv_ParseUint #[.string t, .int .i64 10, .int .i64 64] w [] fun v Fs =>
    ((∃ u, Lib.parseUintB 64 t.data.toList = .ok u ∧ v = .tuple #[.int .u64 (u : Int), .nilIface]) ∨ ((∀ u, Lib.parseUintB 64 t.data.toList ≠ .ok u) ∧ noNum v)) ∧ Fs = [] := by
  have g := good_strconv_ParseUint w (Un [])
  refine con_go (cx := cx_strconv_ParseUint w (Un [])) g b_strconv_ParseUint [.c (.v (.string t)), .c (.v (.int .i64 10)), .c (.v (.int .i64 64))] [errF 6, errF 7] hm ?_
  obtain ⟨r, hr⟩ : ∃ r, Lib.parseUintB 64 t.data.toList = r := ⟨_, rfl⟩
  rcases r with u | _ | _
  · refine call_pu (v := .tuple #[.int .u64 (u : Int), .nilIface]) (fun β w' hs => by
      have h := parseIG_c w' t ht
      rw [hr] at h
      exact h) ?_
    refine ⟨false, fun w => neq_nil (by kernel_rfl) _ _, ?_⟩
    intro β w' hs
    exact (hs.fin [] ⟨.inl ⟨u, hr, rfl⟩, rfl⟩)
  · refine call_pu (v := .tuple #[.int .u64 0, .iface 305 (.int .i64 2)]) (fun β w' hs => by
      have h := parseIG_c w' t ht
      rw [hr] at h
      exact h) ?_
    refine ⟨true, fun w => neq_if (by kernel_rfl) _ _ _ _, ?_⟩
    refine call_con [] (fun β w' hs => toErrS_c w' _ t ht (hs.get 0 rfl)) ?_
    rintro v Fs ⟨⟨te, pv, rfl⟩, rfl⟩
    intro β w' hs
    exact hs.fin [] ⟨.inr ⟨(fun u h => (by rw [hr] at h; cases h)), 0, te, pv, rfl⟩, rfl⟩
  · refine call_pu (v := .tuple #[.int .u64 18446744073709551615, .iface 305 (.int .i64 1)]) (fun β w' hs => by
      have h := parseIG_c w' t ht
      rw [hr] at h
      exact h) ?_
    refine ⟨true, fun w => neq_if (by kernel_rfl) _ _ _ _, ?_⟩
    refine call_con [] (fun β w' hs => toErrR_c w' _ t ht (hs.get 1 rfl)) ?_
    rintro v Fs ⟨⟨te, pv, rfl⟩, rfl⟩
    intro β w' hs
    exact hs.fin [] ⟨.inr ⟨(fun u h => (by rw [hr] at h; cases h)), 18446744073709551615, te, pv, rfl⟩, rfl⟩
end Go.Proofs.YteenjgfbbkdlhaaGreatDoor.Sx

namespace Go.Proofs.YteenjgfbbkdlhaaGreatDoor.Sx
open Go Go.RowKit Go.Sort
attribute [local irreducible] Calls
set_option maxRecDepth 100000 in
set_option maxHeartbeats 1000000 in
theorem fmtG (u : Nat) (h100 : 100 ≤ u) (hu64 : u < 18446744073709551616) (w : World) (htab : Lib.TabIs Tryz.prog w "internal/strconv.uint64pow10" .u64 Lib.pow10Tab) :
    Calls Tryz.prog 112 #[.int .u64 u, .int .i64 10] w fun e w' => e = .returned (.string ⟨(Lib.decDigits u).toArray⟩) ∧ ∃ k os, w' = grow (w.drewN k) os := by
  have hu1 : 1 ≤ u := by omega
  have hnd20 : Lib.nDigits u ≤ 20 := by have := Lib.numDigits_eq u hu1 hu64; split at this <;> omega
  have hb3 : Lib.nDigits u ≤ 24 := by omega
  have hal : Tryz.prog.arrayLen 268 = 24 := by simp [Program.arrayLen, Tryz.underlying268]
  have hsl1 : ∀ W, (Instr.sliceAt 268 (.pointer (some ⟨w.heap.size, 0, none⟩)) none (some (.int .i64 (Lib.nDigits u : Int))) none).run Tryz.prog W = .ok (.slice (some ⟨w.heap.size, 0, none⟩) (Lib.nDigits u) 24) W := fun W => by
    rw [run_sliceAt_array_h W 268 ⟨w.heap.size, 0, none⟩ (by simp [Program.arrayLen, Program.elem, Tryz.underlying268]) .i64 (Lib.nDigits u : Int) (by omega) (by rw [hal]; omega)]
    go_simp
  have hH0 : Holds (fun (b : UInt8) => Value.int .u8 (b.toNat : Int)) (w.alloc (.cells Lib.zeros24 268)) w.heap.size 0 (Array.replicate (Lib.nDigits u) (0 : UInt8)) := fun j hj => by
    have hj' : j < Lib.nDigits u := by simpa using hj
    refine ⟨?_, World.frozen?_alloc_new _ _ _ _⟩
    rw [World.cell?_alloc_new, Lib.zeros24_at _ (by omega), getElem!_pos _ j hj]
    simp
  have hfmt := Tryz.internal_strconv_formatBase10 w.heap.size 0 24 u (Array.replicate (Lib.nDigits u) 0) (w.alloc (.cells Lib.zeros24 268)) hH0 (by rw [Array.size_replicate]; exact Lib.lt_pow_nDigits u) hu64 (by rw [Array.size_replicate]; omega)
  rw [Array.size_replicate] at hfmt
  have HH0 := Lib.hid hH0
  clear hH0 hal
  have e1 : ∀ args w, (callFunc 167 args).run Tryz.prog w = .ok (.enter 167 args) w := enters_of Tryz.func167 (by kernel_rfl) rfl
  have e2 : ∀ args w, (callFunc 168 args).run Tryz.prog w = .ok (.enter 168 args) w := enters_of Tryz.func168 (by kernel_rfl) rfl
  go_enter Tryz.func112, Tryz.ntmps112
  go_wp2_with (first
    | (go_at_fn 167; refine (Tryz.internal_strconv_numDigits u hu1 hu64 _ (Lib.tabIs_alloc htab _)).mono ?_; rintro e w' ⟨rfl, rfl⟩))
  go_at_fn 168
  refine hfmt.mono ?_
  rintro e w' ⟨rfl, k, v', dk, rfl, hF⟩
  have hcv : (convert 102 9 (.slice (some ⟨w.heap.size, 0, none⟩) (Lib.nDigits u) 24)).run Tryz.prog ((putRow (fun (b : UInt8) => Value.int .u8 (b.toNat : Int)) (w.alloc (.cells Lib.zeros24 268)) w.heap.size 0 dk).drewN k) = .ok (.string ⟨(Lib.decDigits u).toArray⟩) ((putRow (fun (b : UInt8) => Value.int .u8 (b.toNat : Int)) (w.alloc (.cells Lib.zeros24 268)) w.heap.size 0 dk).drewN k) := by
    have h := run_convert_bytes_back (P := Tryz.prog) ((putRow (fun (b : UInt8) => Value.int .u8 (b.toNat : Int)) (w.alloc (.cells Lib.zeros24 268)) w.heap.size 0 dk).drewN k) 102 9 5 ⟨w.heap.size, 0, none⟩ 24 (Lib.decDigits u) Tryz.underlying102 Tryz.underlying5 Tryz.underlying9 (fun j hj => by
      rw [Lib.row_is_numeral hF j hj, Lib.add_plain, World.cell?_drewN]
      exact cell?_putRow (fun (b : UInt8) => Value.int .u8 (b.toNat : Int)) _ w.heap.size 0 _ dk HH0.out (by rw [hF.size, Array.size_replicate]) j (by rw [hF.size]; rw [Lib.decDigits_length] at hj; exact hj))
    rw [Lib.decDigits_length] at h
    exact h
  go_wp2
  go_ret
  have eo : ∃ os, (putRow (fun (b : UInt8) => Value.int .u8 (b.toNat : Int)) (w.alloc (.cells Lib.zeros24 268)) w.heap.size 0 dk).drewN k = grow (w.drewN k) os := by
    rw [alloc_eq_grow]
    obtain ⟨os', _, e⟩ := putRow_grow_new (fun (b : UInt8) => Value.int .u8 (b.toNat : Int)) w #[_] w.heap.size 0 dk (Nat.le_refl _)
    exact ⟨os', by rw [e]; rfl⟩
  obtain ⟨os, eo⟩ := eo
  exact ⟨rfl, k, os, eo⟩
def powF : Fact where
  own := false
  D := fun k => k = 3
  p := fun w => Lib.TabIs Tryz.prog w "internal/strconv.uint64pow10" .u64 Lib.pow10Tab
  st := fun w w' hs h => by
    have hg : Tryz.prog.globalNamed "internal/strconv.uint64pow10" = some 3 := by kernel_rfl
    unfold Lib.TabIs World.var? at h ⊢
    rw [hg] at h ⊢
    simp only [Option.bind_some] at h ⊢
    rw [hs _ rfl]
    exact h
theorem grow_chg (w : World) (k : Nat) (os : Array Obj) : Chg None_ w (grow (w.drewN k) os) := by
  refine ⟨rfl, rfl, rfl, ?_, fun i hi _ => ?_⟩
  · simp [grow]
  · simp [grow, Array.getElem?_append, hi]
theorem fmtIG_c (w : World) (u : Nat) (hu : u < 18446744073709551616) (hp : powF.p w) : Pu Tryz.prog n_internal_strconv_FormatUint #[.int .u64 (u : Int), .int .i64 10] w (.string (decimS u)) := by
  by_cases h : u < 100
  · exact fmtI_c w u h
  · refine pu_of (Calls.mono (fmtG u (by omega) hu w hp) ?_)
    rintro e w' ⟨rfl, k, os, rfl⟩
    exact ⟨_, rfl, rfl, grow_chg w k os⟩
theorem fmtUG_c (w : World) (u : Nat) (hu : u < 18446744073709551616) (hm : Mem w [powF]) : Pu Tryz.prog n_strconv_FormatUint #[.int .u64 (u : Int), .int .i64 10] w (.string (decimS u)) := by
  refine con_go (cx := cx_strconv_FormatUint w (Un [])) (good_strconv_FormatUint w (Un [])) b_strconv_FormatUint [.c (.v (.int .u64 (u : Int))), .c (.v (.int .i64 10))] [powF] hm ?_
  refine call_pu (fun β w' hs => fmtIG_c w' u hu (hs.get 0 rfl)) ?_
  intro β w' hs
  exact hs.fin [] ⟨rfl, rfl⟩
theorem powF_mem {w : World} (h : powF.p w) : Mem w [powF] := by
  refine ⟨fun f hf => by obtain rfl := List.mem_singleton.1 hf; exact h, fun f hf k hk => ?_, List.pairwise_singleton _ _⟩
  obtain rfl := List.mem_singleton.1 hf
  obtain rfl : k = 3 := hk
  have hg : Tryz.prog.globalNamed "internal/strconv.uint64pow10" = some 3 := by kernel_rfl
  have h' : w.var? Tryz.prog "internal/strconv.uint64pow10" = some _ := h
  unfold World.var? at h'
  rw [hg] at h'
  simp only [Option.bind_some] at h'
  split at h'
  · rename_i q; exact (Array.getElem?_eq_some_iff.1 q).1
  · cases h'
end Go.Proofs.YteenjgfbbkdlhaaGreatDoor.Sx

namespace Go.Proofs.YteenjgfbbkdlhaaGreatDoor.Sx
open Go
attribute [local irreducible] Calls
theorem indexB_one (s : List UInt8) (d : UInt8) : Lib.indexB (mkS s) (mkS [d]) = if d ∈ s then ((hdA d s).length : Int) else -1 := by
  rw [← idx_one]
  show Lib.index (mkS s).data.toList (mkS [d]).data.toList = _
  rw [mkSo, mkSo]
theorem splitB_one (d : UInt8) : ∀ (n : Nat) (s : List UInt8), s.length ≤ n → Lib.splitB (mkS [d]) 0 (Lib.countB (mkS s) (mkS [d])) (mkS s) = (splL d s).map mkS
  | n, s, hn => by
    by_cases h : d ∈ s
    · have hi : Lib.indexB (mkS s) (mkS [d]) = ((hdA d s).length : Nat) := by rw [indexB_one, if_pos h]
      have hs := hd_split h
      have hl : s.length = (hdA d s).length + (hdB d s).length + 1 := by
        have := congrArg List.length hs
        simp only [List.length_append, List.length_cons] at this
        omega
      have htd : ∀ a b : List UInt8, s = a ++ d :: b → s.take a.length = a ∧ s.drop (a.length + 1) = b := by
        intro a b e
        subst e
        exact ⟨by simp, by rw [← List.drop_drop, List.drop_left]; rfl⟩
      obtain ⟨t1, t2⟩ := htd _ _ hs
      have e1 : (mkS s).extract ((hdA d s).length + (mkS [d]).size) (mkS s).size = mkS (hdB d s) := by
        rw [show (mkS [d]).size = 1 from rfl, show (mkS s).size = s.length from rfl, mkS_ext s _ _ (Nat.le_refl _), List.take_length, t2]
      have e0 : (mkS s).extract 0 ((hdA d s).length + 0) = mkS (hdA d s) := by
        rw [Nat.add_zero, mkS_ext s _ _ (by omega), List.drop_zero, t1]
      rw [Lib.countB_hit (mkS s) (mkS [d]) _ (Nat.le_refl 1) hi, Nat.add_comm, Lib.splitB_hit _ _ _ _ _ hi, e0, e1]
      cases n with
      | zero => omega
      | succ n =>
        rw [splitB_one d n (hdB d s) (by omega)]
        conv => rhs; rw [hs]
        rw [splL_at _ (hdA_free d s)]
        rfl
    · have hi : Lib.indexB (mkS s) (mkS [d]) = -1 := by rw [indexB_one, if_neg h]
      rw [Lib.splitB_miss _ _ _ _ hi, splL_free h]
      rfl
theorem count_one (d : UInt8) (s : List UInt8) : Lib.countB (mkS s) (mkS [d]) + 1 = (splL d s).length := by
  have h := Lib.splitB_all (mkS [d]) (Nat.le_refl 1) 0 _ (mkS s) rfl
  rw [splitB_one d _ s (Nat.le_refl _), List.length_map] at h
  exact h.symm
theorem split_c (w : World) (s : List UInt8) (d : UInt8) (hs : s.length ≤ 1000000) (hm : mlF.p w) : Con Tryz.prog n_strings_Split #[.string (mkS s), .string (mkS [d])] w [] fun v Fs => ∃ b, v = .slice (some ⟨b, 0, none⟩) (splL d s).length (splL d s).length ∧ Fs = [prowF (some ⟨b, 0, none⟩) (splL d s) (splL d s).length] := by
  obtain ⟨m, hm⟩ := hm
  have hsz : (mkS s).size < 4294967281 := by show s.length < _; omega
  refine con_of_calls (Calls.mono (Tryz.strings_Split (mkS s) (mkS [d]) m w hsz hm (Nat.le_refl 1)) ?_)
  rintro e w' ⟨rfl, rfl⟩
  rw [count_one, splitB_one d _ s (Nat.le_refl _), List.map_map]
  have hl := splL_len d s
  generalize splL d s = L at hl ⊢
  have hw : (w.alloc (.cells (L.map (Value.string ∘ mkS)).toArray 9)).heap[w.heap.size]? = some (.cells (L.map (Value.string ∘ mkS)).toArray 9 (0, 0)) := World.alloc_heap_new w _
  refine ⟨_, rfl, [prowF (some ⟨w.heap.size, 0, none⟩) L L.length], ⟨w.heap.size, rfl, rfl⟩, ?_, ⟨fun f hf => ?_, fun f hf k hk => ?_, List.pairwise_singleton _ _⟩, ⟨rfl, trivial⟩, fun f hf k hk => ?_⟩
  · rw [Un.nil]; exact Chg.alloc w _
  · obtain rfl := List.mem_singleton.1 hf
    refine ⟨by simp, .inr ⟨w.heap.size, L.length, _, rfl, Nat.zero_le _, hw, Nat.le_refl _, by rw [maxLen_eq]; omega, by simp, ?_⟩⟩
    simp only [Nat.mul_one]
    rw [List.take_of_length_le (by rw [List.length_map]; exact Nat.le_refl _)]
    rfl
  · obtain rfl := List.mem_singleton.1 hf
    obtain rfl : k = w.heap.size := (Option.some.inj hk).symm
    rw [World.size_alloc]; omega
  · obtain rfl := List.mem_singleton.1 hf
    exact .inr (Nat.le_of_eq (Option.some.inj hk))
theorem mkS_sz1 (l : List UInt8) : (mkS l).size = l.length := by simp [mkS, ByteArray.size]
theorem hdA_le (d : UInt8) : ∀ s : List UInt8, (hdA d s).length ≤ s.length
  | [] => Nat.le_refl _
  | c :: r => by
    rw [hdA_cons]
    split
    · exact Nat.zero_le _
    · simp only [List.length_cons]
      have := hdA_le d r
      omega
theorem hdB_leS (d : UInt8) : ∀ s : List UInt8, (hdB d s).length ≤ s.length
  | [] => Nat.le_refl _
  | c :: r => by
    rw [hdB_cons]
    have := hdB_leS d r
    split
    · simp
    · simp only [List.length_cons]
      omega
theorem splL_sz (d : UInt8) : ∀ s : List UInt8, ∀ x ∈ splL d s, x.length ≤ s.length
  | [], x, h => by
    obtain rfl := List.mem_singleton.1 h
    exact Nat.le_refl _
  | c :: r, x, h => by
    have ih := splL_sz d r
    rw [splL_cons] at h
    split at h
    · rcases List.mem_cons.1 h with rfl | h
      · exact Nat.zero_le _
      · have := ih x h
        simp only [List.length_cons]
        omega
    · cases hs : splL d r with
      | nil => exact absurd hs (splL_ne d r)
      | cons a t =>
        rw [hs] at h ih
        rcases List.mem_cons.1 h with rfl | h
        · have := ih a List.mem_cons_self
          simp only [List.length_append, List.length_cons, List.length_nil]
          omega
        · have := ih x (List.mem_cons_of_mem _ h)
          simp only [List.length_cons]
          omega
def boolR (v : Value) (Fs : List Fact) : Prop := (∃ b : Bool, v = .bool b) ∧ Fs = []
theorem ruleWord_c (w : World) (s : ByteArray) (hs0 : s.size ≤ 100000) (hm : Mem w [namF]) : Con Tryz.prog n_rule_word #[.string s] w [] boolR := by
  have g := good_rule_word w (Un [])
  refine con_go (cx := cx_rule_word w (Un [])) g b_rule_word [.c (.v (.string s))] [namF] hm ?_
  have fin : ∀ b : Bool, ∀ {n : Nat} {H : List Bk} {F : List Fact} (β : Va) (w' : World), Sat (cx_rule_word w (Un [])) β n H F w' → Fin w [] boolR (.bool b) w' := fun b _ _ _ β w' hs => (hs.keepB (List.nil_sublist _)).fin [] ⟨⟨b, rfl⟩, rfl⟩
  refine BIf.dec (fun h1 => ?_) (fun h1 => ?_)
  · exact fin true
  · refine call_pu (fun β w' hs => plain_c w' s hs0) ?_
    exact fin _
theorem rulePat_c (w : World) (s : ByteArray) (hs : s.size ≤ 100000) : Con Tryz.prog n_rule_pattern #[.string s] w [] boolR := by
  have g := good_rule_pattern w (Un [])
  refine con_go (cx := cx_rule_pattern w (Un [])) g b_rule_pattern [.c (.v (.string s))] [] ⟨fun _ q => (by cases q), fun _ q => (by cases q), List.Pairwise.nil⟩ ?_
  intro b1
  intro b2
  intro q1
  intro q2
  refine loop_rule 0 (fun k : Nat => [(0, .c (.v (.string s))), (6, .c (.v (.slice (some ⟨b1, 0, none⟩) s.size b2))), (7, .c (.v (.int .i64 (s.size : Int)))), (8, .c (.v (.int .i64 (k : Int))))]) (fun _ => []) (fun _ => [rdoF 1 (some ⟨b1, 0, none⟩) s.size (s.data.toList.map byte)])
    (fun k => k ≤ s.size) (fun k => s.size - k) 0 (Nat.zero_le _) (Ent.same ⟨rfl, rfl, rfl, rfl, trivial⟩ rfl) g ?_
  intro k hk
  refine BIf.dec (fun hlt => ?_) (fun hge => ?_)
  · have hlt : k < s.size := by have h0 : (k : Int) < (s.size : Int) := hlt; omega
    obtain ⟨x, hx, _⟩ := at_lt (l := s.data.toList) (k := k) (by show k < s.data.toList.length; exact hlt)
    refine ⟨_, k, rfl, rfl, hlt, byte x, fun β w' hs => Rd.cell1 (hs.get 0 rfl) (by rw [List.getElem?_map, hx]; rfl), ?_⟩
    repeat' refine BIf.dec (fun _ => ?_) (fun _ => ?_)
    all_goals first
      | (refine ⟨(((k + 1) : Nat) : Int), by rw [wrap_i64 (by omega) (by omega)]; rfl, ?_⟩
         exact ⟨k + 1, hlt, by omega, Ent.same ⟨rfl, rfl, rfl, rfl, trivial⟩ rfl⟩)
      | exact fun β w' hs => (hs.keepB (List.nil_sublist _)).fin [] ⟨⟨false, rfl⟩, rfl⟩
  · refine BIf.mk (fun _ => ?_) (fun _ => ?_)
    · exact fun β w' hs => (hs.keepB (List.nil_sublist _)).fin [] ⟨⟨_, rfl⟩, rfl⟩
    · exact fun β w' hs => (hs.keepB (List.nil_sublist _)).fin [] ⟨⟨_, rfl⟩, rfl⟩
structure Rul where
  al : Bool
  role : ByteArray
  ten : ByteArray
  host : ByteArray
  fro : Int
  til : Int
def Rul.vs (r : Rul) : List Value := [.bool r.al, .string r.role, .string r.ten, .string r.host, .int .i64 r.fro, .int .i64 r.til]
structure Rul.Ok (r : Rul) : Prop where
  a : r.role.size ≤ 100000
  b : r.ten.size ≤ 100000
  c : r.host.size ≤ 100000
  d : -9223372036854775808 ≤ r.fro ∧ r.fro ≤ 9223372036854775807
  e : -9223372036854775808 ≤ r.til ∧ r.til ≤ 9223372036854775807
theorem ruleRight_c (w : World) (r : Rul) (hr : r.Ok) (hm : Mem w [namF]) : Con Tryz.prog n_rule_Rule_right #[.agg r.vs.toArray] w [] boolR := by
  have g := good_rule_Rule_right w (Un [])
  refine con_go (cx := cx_rule_Rule_right w (Un [])) g b_rule_Rule_right [.agg [.v (.bool r.al), .v (.string r.role), .v (.string r.ten), .v (.string r.host), .v (.int .i64 r.fro), .v (.int .i64 r.til)]] [namF] hm ?_
  have fin : ∀ b : Bool, ∀ {n : Nat} {H : List Bk} {F : List Fact} (β : Va) (w' : World), Sat (cx_rule_Rule_right w (Un [])) β n H F w' → Fin w [] boolR (.bool b) w' := fun b _ _ _ β w' hs => (hs.keepB (List.nil_sublist _)).fin [] ⟨⟨b, rfl⟩, rfl⟩
  refine call_con [] (fun β w' hs => ruleWord_c w' r.role hr.a (hs.mem.take (js := [0]) rfl)) ?_
  rintro v Fs ⟨⟨b1, rfl⟩, rfl⟩
  cases b1 with
  | false => exact fin _
  | true =>
    refine call_con [] (fun β w' hs => ruleWord_c w' r.ten hr.b (hs.mem.take (js := [0]) rfl)) ?_
    rintro v Fs ⟨⟨b1, rfl⟩, rfl⟩
    cases b1 with
    | false => exact fin _
    | true =>
      refine call_con [] (fun β w' hs => rulePat_c w' r.host hr.c) ?_
      rintro v Fs ⟨⟨b1, rfl⟩, rfl⟩
      cases b1 with
      | false => exact fin _
      | true =>
        repeat' refine BIf.dec (fun _ => ?_) (fun _ => ?_)
        all_goals exact fin _
theorem itoaG_c (w : World) (n : Int) (h0 : -9223372036854775808 ≤ n) (h1 : n ≤ 9223372036854775807) (hp : powF.p w) : Pu Tryz.prog n_strconv_Itoa #[.int .i64 n] w (.string ⟨(Lib.itoa n).toArray⟩) := by
  refine pu_of (Calls.mono (Tryz.strconv_Itoa n h0 h1 w hp) ?_)
  rintro e w' ⟨rfl, k, os, rfl⟩
  exact ⟨_, rfl, rfl, grow_chg w k os⟩
def I64 (n : Int) : Prop := -9223372036854775808 ≤ n ∧ n ≤ 9223372036854775807
theorem atoi_c (w : World) (s : ByteArray) (hs : s.size ≤ 1000000) (hm : Mem w [errF 6, errF 7]) : Con Tryz.prog n_strconv_Atoi #[.string s] w [] fun v Fs => (∃ n : Int, I64 n ∧ (v = .tuple #[.int .i64 n, .nilIface] ∨ ∃ te pv, v = .tuple #[.int .i64 n, .iface te pv])) ∧ Fs = [] := by
  cases h : Lib.atoiAll s.data.toList
  · rename_i v
    refine con_of_calls (Calls.mono (Tryz.strconv_Atoi_ok s (by omega) v h w) ?_)
    rintro e w' ⟨rfl, hw⟩
    refine ⟨_, rfl, [], ⟨⟨v, Lib.atoiAll_bounds h, .inl rfl⟩, rfl⟩, ?_, Mem.none _, trivial, fun _ h => by cases h⟩
    rw [Un.nil]
    rcases hw with rfl | ⟨t, rfl⟩
    · exact Chg.refl _ _
    · exact ⟨rfl, rfl, rfl, by rw [Lib.bytesWorld_size]; omega, fun k hk _ => Lib.bytesWorld_at_old w _ t k hk⟩
  · obtain ⟨ev, h1, h2⟩ := (hm.fact _ List.mem_cons_self : (errF 6).p w)
    refine con_of_calls (Calls.mono (P := Tryz.prog) (Any.strconv_Atoi_syntax Tryz.laysC172 s (by omega) h ev w h1 h2) ?_)
    rintro e w' ⟨N, rfl, _, _, hb⟩
    exact ⟨_, rfl, [], ⟨⟨0, ⟨by decide, by decide⟩, .inr ⟨_, _, rfl⟩⟩, rfl⟩, by rw [Un.nil]; exact chg_of_below hb, Mem.none _, trivial, fun _ h => by cases h⟩
  · obtain ⟨ev, h1, h2⟩ := (hm.fact _ (List.mem_cons_of_mem _ List.mem_cons_self) : (errF 7).p w)
    refine con_of_calls (Calls.mono (Tryz.strconv_Atoi_range s (by omega) h ev w h1 h2) ?_)
    rintro e w' ⟨N, rfl, _, _, hb⟩
    exact ⟨_, rfl, [], ⟨⟨_, Lib.atoiSat_bounds _, .inr ⟨_, _, rfl⟩⟩, rfl⟩, by rw [Un.nil]; exact chg_of_below hb, Mem.none _, trivial, fun _ h => by cases h⟩
theorem port_c (w : World) (s : List UInt8) (hs : s.length ≤ 100000) (hm : Mem w [errF 6, errF 7, powF]) : Con Tryz.prog n_rule_port #[.string (mkS s)] w [] fun v Fs => (∃ (n : Int) (b : Bool), v = .tuple #[.int .i64 n, .bool b] ∧ I64 n) ∧ Fs = [] := by
  have g := good_rule_port w (Un [])
  have hsz : (mkS s).size = s.length := by simp [mkS, ByteArray.size]
  refine con_go (cx := cx_rule_port w (Un [])) g b_rule_port [.c (.v (.string (mkS s)))] [errF 6, errF 7, powF] hm ?_
  refine call_con [] (fun β w' hs => atoi_c w' (mkS s) (by omega) (hs.mem.take (js := [0, 1]) rfl)) ?_
  rintro v Fs ⟨⟨n, hn, hv⟩, rfl⟩
  have fin : ∀ b : Bool, ∀ {k : Nat} {H : List Bk} {F : List Fact} (β : Va) (w' : World), Sat (cx_rule_port w (Un [])) β k H F w' → Fin w [] (fun v Fs => (∃ (n : Int) (b : Bool), v = .tuple #[.int .i64 n, .bool b] ∧ I64 n) ∧ Fs = []) (.tuple #[.int .i64 n, .bool b]) w' := fun b _ _ _ β w' hs => (hs.keepB (List.nil_sublist _)).fin [] ⟨⟨n, b, rfl, hn⟩, rfl⟩
  rcases hv with rfl | ⟨te, pv, rfl⟩
  · refine ⟨true, fun w => eql_nil (by kernel_rfl) _ _, ?_⟩
    refine BIf.dec (fun _ => ?_) (fun _ => ?_)
    · refine BIf.dec (fun _ => ?_) (fun _ => ?_)
      · refine call_pu (fun β w' hs => itoaG_c w' n hn.1 hn.2 (hs.get 2 rfl)) ?_
        exact fin _
      · exact fin _
    · exact fin _
  · refine ⟨false, fun w => eql_if (by kernel_rfl) _ _ _ _, ?_⟩
    exact fin _
def spanR (v : Value) (Fs : List Fact) : Prop := (∃ (n m : Int) (b : Bool), v = .tuple #[.int .i64 n, .int .i64 m, .bool b] ∧ I64 n ∧ I64 m) ∧ Fs = []
theorem span_c (w : World) (s : List UInt8) (hs : s.length ≤ 100000) (hm : Mem w [mlF, errF 6, errF 7, powF]) : Con Tryz.prog n_rule_span #[.string (mkS s)] w [] spanR := by
  have g := good_rule_span w (Un [])
  refine con_go (cx := cx_rule_span w (Un [])) g b_rule_span [.c (.v (.string (mkS s)))] [mlF, errF 6, errF 7, powF] hm ?_
  have fin : ∀ (n m : Int) (b : Bool), I64 n → I64 m → ∀ {k : Nat} {H : List Bk} {F : List Fact} (β : Va) (w' : World), Sat (cx_rule_span w (Un [])) β k H F w' → Fin w [] spanR (.tuple #[.int .i64 n, .int .i64 m, .bool b]) w' := fun n m b h1 h2 _ _ _ β w' hs => (hs.keepB (List.nil_sublist _)).fin [] ⟨⟨n, m, b, rfl, h1, h2⟩, rfl⟩
  refine BIf.dec (fun _ => ?_) (fun _ => ?_)
  · exact fin _ _ _ ⟨by decide, by decide⟩ ⟨by decide, by decide⟩
  have hA := hdA_le 45 s
  have hB := hdB_leS 45 s
  refine call_pu (fun β w' hs' => cutD_c w' s 45 (by omega) (hs'.get 0 rfl)) ?_
  generalize hdA 45 s = a at hA ⊢
  generalize hdB 45 s = b at hB ⊢
  refine call_con [] (fun β w' hs => port_c w' a (by omega) (hs.mem.take (js := [1, 2, 3]) rfl)) ?_
  rintro v Fs ⟨⟨n, b1, rfl, hn⟩, rfl⟩
  refine BIf.not (BIf.dec (fun _ => ?_) (fun _ => ?_))
  rotate_left
  · exact fin _ _ _ hn hn
  refine call_con [] (fun β w' hs => port_c w' b (by omega) (hs.mem.take (js := [1, 2, 3]) rfl)) ?_
  rintro v Fs ⟨⟨m, b2, rfl, hm2⟩, rfl⟩
  cases b1 with
  | false => exact fin _ _ _ hn hm2
  | true =>
    cases b2 with
    | false => exact fin _ _ _ hn hm2
    | true => exact fin _ _ _ hn hm2
def RulV (v : Value) (Fs : List Fact) : Prop := (∃ (r : Rul) (b : Bool), v = .tuple #[.agg r.vs.toArray, .bool b] ∧ r.Ok) ∧ Fs = []
theorem polLine_c (w : World) (s : List UInt8) (hs : s.length ≤ 100000) (hm : Mem w [namF, mlF, errF 6, errF 7, powF]) : Con Tryz.prog n_rule_line #[.string (mkS s)] w [] RulV := by
  have g := good_rule_line w (Un [])
  refine con_go (cx := cx_rule_line w (Un [])) g b_rule_line [.c (.v (.string (mkS s)))] [namF, mlF, errF 6, errF 7, powF] hm ?_
  refine call_con [] (fun β w' hs' => split_c w' s 32 (by omega) (hs'.get 1 rfl)) ?_
  rintro v Fs ⟨b, rfl, rfl⟩
  have hsz := splL_sz 32 s
  generalize splL 32 s = L at hsz ⊢
  have no : ∀ {k : Nat} {H : List Bk} {F : List Fact} (β : Va) (w' : World), Sat (cx_rule_line w (Un [])) β k H F w' → Fin w [] RulV (.tuple #[.agg #[.bool false, .string ⟨#[]⟩, .string ⟨#[]⟩, .string ⟨#[]⟩, .int .i64 0, .int .i64 0], .bool false]) w' := fun β w' hs => (hs.keepB (List.nil_sublist _)).fin [] ⟨⟨⟨false, ⟨#[]⟩, ⟨#[]⟩, ⟨#[]⟩, 0, 0⟩, false, rfl, ⟨by decide, by decide, by decide, ⟨by decide, by decide⟩, ⟨by decide, by decide⟩⟩⟩, rfl⟩
  refine BIf.not (BIf.dec (fun h5 => ?_) (fun _ => ?_))
  rotate_left
  · exact no
  obtain ⟨a0, a1, a2, a3, a4, rfl⟩ : ∃ a0 a1 a2 a3 a4, L = [a0, a1, a2, a3, a4] := by
    have h5 : L.length = 5 := by have h : (L.length : Int) = 5 := h5; omega
    match L, h5 with
    | [a0, a1, a2, a3, a4], _ => exact ⟨_, _, _, _, _, rfl⟩
  have hs1 := hsz a1 (by simp)
  have hs2 := hsz a2 (by simp)
  have hs3 := hsz a3 (by simp)
  have hs4 := hsz a4 (by simp)
  clear h5
  refine ⟨⟨b, 0, none⟩, 0, rfl, rfl, by simp, .string (mkS a0), fun β w' hs => Rd.cell1 (row_rd (hs.get 0 rfl)) rfl, ?_⟩
  refine BIf.not (BIf.dec (fun _ => ?_) (fun _ => ?_))
  · refine ⟨⟨b, 0, none⟩, 4, rfl, rfl, by simp, .string (mkS a4), fun β w' hs => Rd.cell1 (row_rd (hs.get 0 rfl)) rfl, ?_⟩
    refine call_con [] (fun β w' hs => span_c w' a4 (by omega) (hs.mem.take (js := [2, 3, 4, 5]) rfl)) ?_
    rintro v Fs ⟨⟨n, m, b1, rfl, hn, hm2⟩, rfl⟩
    refine draw_rule g p_rule_line_5 (by kernel_rfl) [] [prowF (some ⟨b, 0, none⟩) [a0, a1, a2, a3, a4] 5, namF] (Sub.of (List.nil_sublist _) (((List.nil_sublist _).cons_cons _).cons_cons _)) ?_
    refine ⟨⟨b, 0, none⟩, 0, rfl, rfl, by simp, .string (mkS a0), fun β w' hs => Rd.cell1 (row_rd (hs.get 0 rfl)) rfl, ?_⟩
    refine ⟨⟨b, 0, none⟩, 1, rfl, rfl, by simp, .string (mkS a1), fun β w' hs => Rd.cell1 (row_rd (hs.get 0 rfl)) rfl, ?_⟩
    refine ⟨⟨b, 0, none⟩, 2, rfl, rfl, by simp, .string (mkS a2), fun β w' hs => Rd.cell1 (row_rd (hs.get 0 rfl)) rfl, ?_⟩
    refine ⟨⟨b, 0, none⟩, 3, rfl, rfl, by simp, .string (mkS a3), fun β w' hs => Rd.cell1 (row_rd (hs.get 0 rfl)) rfl, ?_⟩
    refine ⟨Sub.of (List.nil_sublist _) (((List.nil_sublist _).cons_cons _).cons_cons _), ?_⟩
    refine ⟨Sub.of (List.nil_sublist _) (((List.nil_sublist _).cons_cons _).cons_cons _), ?_⟩
    have hrk : Rul.Ok ⟨decide (mkS a0 = ⟨#[97, 108, 108, 111, 119]⟩), mkS a1, mkS a2, mkS a3, n, m⟩ := ⟨by show (mkS a1).size ≤ _; rw [mkS_sz1]; omega, by show (mkS a2).size ≤ _; rw [mkS_sz1]; omega, by show (mkS a3).size ≤ _; rw [mkS_sz1]; omega, hn, hm2⟩
    refine draw_rule g p_rule_line_6 (by kernel_rfl) [⟨1, ty_rule_Rule, [.v (.bool (decide (mkS a0 = ⟨#[97, 108, 108, 111, 119]⟩))), .v (.string (mkS a1)), .v (.string (mkS a2)), .v (.string (mkS a3)), .v (.int .i64 n), .v (.int .i64 m)]⟩] [namF] (Sub.of ((List.nil_sublist _).cons_cons _) (((List.nil_sublist _).cons_cons _).cons _)) ?_
    cases b1 with
    | false =>
      repeat refine ⟨Sub.of ((List.nil_sublist _).cons_cons _) (((List.nil_sublist _).cons_cons _).cons _), ?_⟩
      intro β w' hs
      exact (hs.keepB (List.nil_sublist _)).fin [] ⟨⟨⟨decide (mkS a0 = ⟨#[97, 108, 108, 111, 119]⟩), mkS a1, mkS a2, mkS a3, n, m⟩, false, rfl, hrk⟩, rfl⟩
    | true =>
      refine call_con [] (fun β w' hs => ruleRight_c w' ⟨decide (mkS a0 = ⟨#[97, 108, 108, 111, 119]⟩), mkS a1, mkS a2, mkS a3, n, m⟩ hrk (hs.mem.take (js := [1]) rfl)) ?_
      rintro v Fs ⟨⟨b2, rfl⟩, rfl⟩
      repeat refine ⟨Sub.of ((List.nil_sublist _).cons_cons _) (((List.nil_sublist _).cons_cons _).cons _), ?_⟩
      intro β w' hs
      exact (hs.keepB (List.nil_sublist _)).fin [] ⟨⟨⟨decide (mkS a0 = ⟨#[97, 108, 108, 111, 119]⟩), mkS a1, mkS a2, mkS a3, n, m⟩, b2, rfl, hrk⟩, rfl⟩
  · refine ⟨⟨b, 0, none⟩, 0, rfl, rfl, by simp, .string (mkS a0), fun β w' hs => Rd.cell1 (row_rd (hs.get 0 rfl)) rfl, ?_⟩
    refine BIf.not (BIf.dec (fun _ => ?_) (fun _ => ?_))
    rotate_left
    · exact no
    refine ⟨⟨b, 0, none⟩, 4, rfl, rfl, by simp, .string (mkS a4), fun β w' hs => Rd.cell1 (row_rd (hs.get 0 rfl)) rfl, ?_⟩
    refine call_con [] (fun β w' hs => span_c w' a4 (by omega) (hs.mem.take (js := [2, 3, 4, 5]) rfl)) ?_
    rintro v Fs ⟨⟨n, m, b1, rfl, hn, hm2⟩, rfl⟩
    refine draw_rule g p_rule_line_5 (by kernel_rfl) [] [prowF (some ⟨b, 0, none⟩) [a0, a1, a2, a3, a4] 5, namF] (Sub.of (List.nil_sublist _) (((List.nil_sublist _).cons_cons _).cons_cons _)) ?_
    refine ⟨⟨b, 0, none⟩, 0, rfl, rfl, by simp, .string (mkS a0), fun β w' hs => Rd.cell1 (row_rd (hs.get 0 rfl)) rfl, ?_⟩
    refine ⟨⟨b, 0, none⟩, 1, rfl, rfl, by simp, .string (mkS a1), fun β w' hs => Rd.cell1 (row_rd (hs.get 0 rfl)) rfl, ?_⟩
    refine ⟨⟨b, 0, none⟩, 2, rfl, rfl, by simp, .string (mkS a2), fun β w' hs => Rd.cell1 (row_rd (hs.get 0 rfl)) rfl, ?_⟩
    refine ⟨⟨b, 0, none⟩, 3, rfl, rfl, by simp, .string (mkS a3), fun β w' hs => Rd.cell1 (row_rd (hs.get 0 rfl)) rfl, ?_⟩
    refine ⟨Sub.of (List.nil_sublist _) (((List.nil_sublist _).cons_cons _).cons_cons _), ?_⟩
    refine ⟨Sub.of (List.nil_sublist _) (((List.nil_sublist _).cons_cons _).cons_cons _), ?_⟩
    have hrk : Rul.Ok ⟨decide (mkS a0 = ⟨#[97, 108, 108, 111, 119]⟩), mkS a1, mkS a2, mkS a3, n, m⟩ := ⟨by show (mkS a1).size ≤ _; rw [mkS_sz1]; omega, by show (mkS a2).size ≤ _; rw [mkS_sz1]; omega, by show (mkS a3).size ≤ _; rw [mkS_sz1]; omega, hn, hm2⟩
    refine draw_rule g p_rule_line_6 (by kernel_rfl) [⟨1, ty_rule_Rule, [.v (.bool (decide (mkS a0 = ⟨#[97, 108, 108, 111, 119]⟩))), .v (.string (mkS a1)), .v (.string (mkS a2)), .v (.string (mkS a3)), .v (.int .i64 n), .v (.int .i64 m)]⟩] [namF] (Sub.of ((List.nil_sublist _).cons_cons _) (((List.nil_sublist _).cons_cons _).cons _)) ?_
    cases b1 with
    | false =>
      repeat refine ⟨Sub.of ((List.nil_sublist _).cons_cons _) (((List.nil_sublist _).cons_cons _).cons _), ?_⟩
      intro β w' hs
      exact (hs.keepB (List.nil_sublist _)).fin [] ⟨⟨⟨decide (mkS a0 = ⟨#[97, 108, 108, 111, 119]⟩), mkS a1, mkS a2, mkS a3, n, m⟩, false, rfl, hrk⟩, rfl⟩
    | true =>
      refine call_con [] (fun β w' hs => ruleRight_c w' ⟨decide (mkS a0 = ⟨#[97, 108, 108, 111, 119]⟩), mkS a1, mkS a2, mkS a3, n, m⟩ hrk (hs.mem.take (js := [1]) rfl)) ?_
      rintro v Fs ⟨⟨b2, rfl⟩, rfl⟩
      repeat refine ⟨Sub.of ((List.nil_sublist _).cons_cons _) (((List.nil_sublist _).cons_cons _).cons _), ?_⟩
      intro β w' hs
      exact (hs.keepB (List.nil_sublist _)).fin [] ⟨⟨⟨decide (mkS a0 = ⟨#[97, 108, 108, 111, 119]⟩), mkS a1, mkS a2, mkS a3, n, m⟩, b2, rfl, hrk⟩, rfl⟩
def textR (n : Nat) (v : Value) (Fs : List Fact) : Prop := (∃ s : ByteArray, v = .string s ∧ s.size ≤ n) ∧ Fs = []
theorem itoa_sz {n : Int} (h : I64 n) : (⟨(Lib.itoa n).toArray⟩ : ByteArray).size ≤ 21 := Lib.itoa_length_le n h.1 h.2
theorem ports_c (w : World) (r : Rul) (hr : r.Ok) (hm : Mem w [powF]) : Con Tryz.prog n_rule_Rule_ports #[.agg r.vs.toArray] w [] (textR 43) := by
  have g := good_rule_Rule_ports w (Un [])
  have hml := maxLen_eq
  have z1 := itoa_sz hr.d
  have z2 := itoa_sz hr.e
  refine con_go (cx := cx_rule_Rule_ports w (Un [])) g b_rule_Rule_ports [.agg [.v (.bool r.al), .v (.string r.role), .v (.string r.ten), .v (.string r.host), .v (.int .i64 r.fro), .v (.int .i64 r.til)]] [powF] hm ?_
  have fin : ∀ s : ByteArray, s.size ≤ 43 → ∀ {n : Nat} {H : List Bk} {F : List Fact} (β : Va) (w' : World), Sat (cx_rule_Rule_ports w (Un [])) β n H F w' → Fin w [] (textR 43) (.string s) w' := fun s h _ _ _ β w' hs => (hs.keepB (List.nil_sublist _)).fin [] ⟨⟨s, rfl, h⟩, rfl⟩
  refine BIf.dec (fun _ => BIf.dec (fun _ => fin _ (by decide)) (fun _ => ?_)) (fun _ => ?_)
  all_goals
    refine BIf.dec (fun _ => ?_) (fun _ => ?_)
    · refine call_pu (fun β w' hs => itoaG_c w' r.fro hr.d.1 hr.d.2 (hs.get 0 rfl)) ?_
      exact fin _ (by omega)
    · refine draw_rule g p_rule_Rule_ports_5 (by kernel_rfl) [⟨0, ty_rule_Rule, [.v (.bool r.al), .v (.string r.role), .v (.string r.ten), .v (.string r.host), .v (.int .i64 r.fro), .v (.int .i64 r.til)]⟩] [powF] Sub.refl ?_
      refine call_pu (fun β w' hs => itoaG_c w' r.fro hr.d.1 hr.d.2 (hs.get 0 rfl)) ?_
      refine ⟨subPerm [0], ?_⟩
      refine ⟨by show _ + 1 ≤ maxLen; omega, ?_⟩
      refine call_pu (fun β w' hs => itoaG_c w' r.til hr.e.1 hr.e.2 (hs.get 0 rfl)) ?_
      have z3 : ((⟨(Lib.itoa r.fro).toArray⟩ : ByteArray) ++ ⟨#[45]⟩).size ≤ 22 := by rw [ByteArray.size_append]; show _ + 1 ≤ 22; omega
      refine ⟨subPerm [0], ?_⟩
      refine ⟨by omega, ?_⟩
      exact fin _ (by rw [ByteArray.size_append]; omega)
theorem join5_len (a b c d e : ByteArray) : (Lib.join ([a, b, c, d, e].map (·.data.toList)) [32]).length = a.size + b.size + c.size + d.size + e.size + 4 := by
  have h : ∀ x : ByteArray, x.size = x.data.toList.length := fun _ => rfl
  simp only [List.map_cons, List.map_nil, Lib.join_cons, Lib.joinTail, List.flatten_cons, List.flatten_nil, List.length_append, List.length_cons, List.length_nil, h]
  omega
theorem ruleText_c (w : World) (r : Rul) (hr : r.Ok) (hm : Mem w [namF, powF]) : Con Tryz.prog n_rule_Rule_Text #[.agg r.vs.toArray] w [] (fun v Fs => (∃ (s : ByteArray) (e : Int), v = .tuple #[.string s, .int .i64 e] ∧ s.size ≤ 400000) ∧ Fs = []) := by
  have g := good_rule_Rule_Text w (Un [])
  have hml := maxLen_eq
  refine con_go (cx := cx_rule_Rule_Text w (Un [])) g b_rule_Rule_Text [.agg [.v (.bool r.al), .v (.string r.role), .v (.string r.ten), .v (.string r.host), .v (.int .i64 r.fro), .v (.int .i64 r.til)]] [namF, powF] hm ?_
  refine call_con [] (fun β w' hs => ruleRight_c w' r hr (hs.mem.take (js := [0]) rfl)) ?_
  rintro v Fs ⟨⟨b1, rfl⟩, rfl⟩
  cases b1 with
  | false =>
    intro β w' hs
    exact (hs.keepB (List.nil_sublist _)).fin [] ⟨⟨_, _, rfl, by decide⟩, rfl⟩
  | true =>
    obtain ⟨al, r1, r2, r3, n, m⟩ := r
    cases al
    all_goals
      refine draw_rule g p_rule_Rule_Text_6 (by kernel_rfl) [⟨0, ty_rule_Rule, [.v (.bool _), .v (.string r1), .v (.string r2), .v (.string r3), .v (.int .i64 n), .v (.int .i64 m)]⟩] [namF, powF] Sub.refl ?_
      refine call_con [] (fun β w' hs => ports_c w' ⟨_, r1, r2, r3, n, m⟩ hr (hs.mem.take (js := [1]) rfl)) ?_
      rintro v Fs ⟨⟨s, rfl, hsz⟩, rfl⟩
      refine ⟨subPerm [0, 1], ?_⟩
      intro b1
      refine ⟨subPerm [1, 2], ?_⟩
      have h1 : r1.size ≤ 100000 := hr.a
      have h2 : r2.size ≤ 100000 := hr.b
      have h3 : r3.size ≤ 100000 := hr.c
      have h5 : ∀ a : ByteArray, a.size ≤ 5 → (Lib.join ([a, r1, r2, r3, s].map (·.data.toList)) [32]).length ≤ 400000 := fun a ha => by rw [join5_len]; omega
      refine call_pu (fun β w' hs => join_c w' b1 5 [_, r1, r2, r3, s] ⟨#[32]⟩ (row_rd (hs.get 0 rfl)) (hs.getLt 0 rfl b1 rfl) (by show 5 ≤ 1000; decide) (Nat.le_refl 5) (Nat.le_trans (h5 _ (by decide)) (by decide))) ?_
      refine ⟨subPerm [1, 2], ?_⟩
      exact fun β w' hs => (hs.keepB (List.nil_sublist _)).fin [] ⟨⟨_, _, rfl, h5 _ (by decide)⟩, rfl⟩
def insRl (N : Nat) (pre : List (List UInt8)) (x : List UInt8) (args : Array Value) (X : Fact) : Prop := args = #[.int .i64 ((pre.length + 1 : Nat) : Int), .string (mkS x)] ∧ X = noF ∧ x.length ≤ N ∧ pre.length < N
def rlEnd (J Jx : List (List UInt8) → Fact → Prop) (Fs : List Fact) : Prop :=
  ∃ f Fs', Fs = f :: Fs' ∧ ((∃ xs, J xs f ∧ Fs' = []) ∨ (∃ pre, Jx pre f ∧ Fs' = []))
theorem polLines_it (l : Nat) (w : World) (bx : Nat) (s : List UInt8) (hs : s.length ≤ 100000) (f0 R : Fact) (J Jx : List (List UInt8) → Fact → Prop) (hJ0 : J [] f0) (hJo : ∀ pre f, J pre f → f.own = true) (hRo : R.own = false) (hY : Yc Tryz.prog l J Jx R (insRl s.length))
    (hm : Mem w (f0 :: R :: [bkF bx ty_string [.string (mkS s)], mlF])) :
    Con Tryz.prog n_rule_lines_1 #[.func (.yield l) #[] #[], .pointer (some ⟨bx, 0, none⟩)] w [f0, bkF bx ty_string [.string (mkS s)]] (fun _ Fs => rlEnd J Jx Fs) := by
  have g := good_rule_lines_1 w (Un [f0, bkF bx ty_string [.string (mkS s)]]) [bx]
  have hs0 : Sat (cx_rule_lines_1 w (Un [f0, bkF bx ty_string [.string (mkS s)]]) [bx]) (Va.of fun _ => bx) 1 [] (f0 :: R :: [bkF bx ty_string [.string (mkS s)], mlF]) w := by
    refine hm.sat rfl (fun f hf ho k hk => ?_) ⟨Nat.le_refl 1, fun i hi => by obtain rfl : i = 0 := Nat.lt_one_iff.1 hi; rfl⟩
    simp only [List.mem_cons, List.not_mem_nil, or_false] at hf
    rcases hf with rfl | rfl | rfl | rfl
    · exact ⟨_, by simp, hk⟩
    · rw [hRo] at ho; cases ho
    · exact ⟨bkF bx ty_string [.string (mkS s)], by simp, hk⟩
    · cases ho
  have hs1 := hs0.toBk 2 rfl 0 Nat.zero_lt_one rfl
  refine con_of_sx (cx := cx_rule_lines_1 w (Un [f0, bkF bx ty_string [.string (mkS s)]]) [bx]) g b_rule_lines_1 rfl rfl (β := Va.of fun _ => bx) [.c (.v (.func (.yield l) #[] #[])), .c (.p 0 0)] 1 _ _ rfl rfl hs1 ?_
  refine loop_rule (ι := List (List UInt8) × Fact × List UInt8) 1 (fun i => [(0, .c (.v (.func (.yield l) #[] #[]))), (1, .c (.p 0 0)), (3, .c (.v (.int .i64 ((i.1.length + 1 : Nat) : Int))))]) (fun i => [⟨0, ty_string, [.v (.string (mkS i.2.2))]⟩]) (fun i => [i.2.1, R, mlF])
    (fun i => J i.1 i.2.1 ∧ i.1.length + i.2.2.length ≤ s.length) (fun i => i.2.2.length) ([], f0, s) ⟨hJ0, by simp⟩ (Ent.mk' ⟨rfl, rfl, rfl, trivial⟩ rfl (fun β w' hs => hs)) g ?_
  rintro ⟨pre, f, t⟩ ⟨hJ, hi⟩
  simp only at hJ hi
  have hfo := hJo _ _ hJ
  simp only
  refine BIf.not (BIf.dec (fun h0 => ?_) (fun h0 => ?_))
  · intro β w' hs
    exact (hs.keepB (List.nil_sublist _)).fin [0] ⟨f, [], rfl, .inl ⟨pre, hJ, rfl⟩⟩ rfl rfl rfl ⟨hfo, trivial⟩
  have ht : t ≠ [] := fun e => h0 (by rw [e]; rfl)
  have hlt := hdB_len (d := 10) ht
  have hA := hdA_le 10 t
  have hpos : 0 < t.length := List.length_pos_iff.2 ht
  refine call_pu (v := .tuple #[.string (mkS (hdA 10 t)), .string (mkS (hdB 10 t)), .bool (decide ((10 : UInt8) ∈ t))]) (fun β w' hs' => cutD_c w' t 10 (by omega) (hs'.get 2 rfl)) ?_
  refine yield_ro (X := noF) (x := hdA 10 t) hY 0 1 rfl hJ hfo rfl hRo (by decide) (fun β => ⟨rfl, rfl, by omega, by omega⟩) rfl (fun β w _ => ⟨trivial, fun k hk => hk.elim, fun k _ h => h.elim⟩) ?_ ?_
  · intro f2 hfo2 hJ2
    refine ⟨(((pre.length + 1 + 1) : Nat) : Int), by rw [wrap_i64 (by omega) (by omega)]; rfl, ?_⟩
    have e : (pre ++ [hdA 10 t]).length = pre.length + 1 := by rw [List.length_append]; rfl
    refine ⟨(pre ++ [hdA 10 t], f2, hdB 10 t), ⟨hJ2, by show (pre ++ [hdA 10 t]).length + (hdB 10 t).length ≤ _; omega⟩, hlt, ?_⟩
    simp only [e]
    exact Ent.mk' ⟨rfl, rfl, rfl, trivial⟩ rfl (fun β w' hs => hs)
  · intro f2 hfo2 hJ2
    intro β w' hs
    exact (hs.keepB (List.nil_sublist _)).fin [0] ⟨f2, _, rfl, .inr ⟨_, hJ2, rfl⟩⟩ rfl rfl rfl ⟨hfo2, trivial⟩
theorem polLines_c (w : World) (t : ByteArray) : Con Tryz.prog n_rule_lines #[.string t] w [] (fun v Fs => ∃ bx, v = .func (.func n_rule_lines_1) #[] #[.pointer (some ⟨bx, 0, none⟩)] ∧ Fs = [bkF bx ty_string [.string t]]) := by
  refine con_of_sx (cx := cx_rule_lines w (Un [])) (good_rule_lines w (Un [])) b_rule_lines rfl rfl (β := Va.z) [.c (.v (.string t))] 0 [] [] rfl rfl (Sat.start rfl) ?_
  intro β w' hs
  exact hs.ofBk.fin [0] ⟨β 0, rfl, rfl⟩
theorem mkS_sub (l : List UInt8) (i j : Nat) : (mkS l).extract i j = mkS ((l.take j).drop i) := by
  apply ByteArray.ext
  simp [mkS, List.extract_eq_take_drop]
  rw [List.drop_take]
theorem mkS_len (l : List UInt8) : (mkS l).size = l.length := by simp [mkS, ByteArray.size]
theorem plnO_c (w : World) (x : UInt8) : Pu Tryz.prog n_order_plain #[byte x] w (.bool (plnC x)) := by
  have g := good_order_plain w (Un [])
  refine con_of_sx (cx := cx_order_plain w (Un [])) g b_order_plain rfl rfl (β := Va.z) [.c (.v (byte x))] 0 [] [] rfl rfl (Sat.start rfl) ?_
  have fin : ∀ b, plnC x = b → ∀ {n : Nat} {H : List Bk} {F : List Fact} (β : Va) (w' : World), Sat (cx_order_plain w (Un [])) β n H F w' → Fin w [] (fun u Fs => u = .bool (plnC x) ∧ Fs = []) (.bool b) w' := by
    intro b h n H F β w' hs
    rw [h]
    exact (hs.keepB (List.nil_sublist _)).fin [] ⟨rfl, rfl⟩
  refine BIf.dec (fun h1 => ?_) (fun h1 => ?_)
  · have q1 : (33 : Int) ≤ x.toNat := h1
    refine BIf.dec (fun h2 => ?_) (fun h2 => ?_)
    · have q2 : (x.toNat : Int) ≤ 126 := h2
      refine BIf.not (BIf.dec (fun h3 => ?_) (fun h3 => ?_))
      · have q3 : (x.toNat : Int) = 34 := h3
        exact fin false (by unfold plnC; rw [decide_eq_false (p := x.toNat ≠ 34) (by omega), Bool.false_and, Bool.and_false, Bool.and_false])
      · have q3 : ¬ (x.toNat : Int) = 34 := h3
        refine fin (!decide ((x.toNat : Int) = 92)) ?_
        unfold plnC
        rw [decide_eq_true (p := 33 ≤ x.toNat) (by omega), decide_eq_true (p := x.toNat ≤ 126) (by omega), decide_eq_true (p := x.toNat ≠ 34) (by omega), Bool.true_and, Bool.true_and, Bool.true_and, ← decide_not]
        exact decide_eq_decide.2 (by omega)
    · have q2 : ¬ (x.toNat : Int) ≤ 126 := h2
      exact fin false (by unfold plnC; rw [decide_eq_false (p := x.toNat ≤ 126) (by omega), Bool.false_and, Bool.and_false])
  · have q1 : ¬ (33 : Int) ≤ x.toNat := h1
    exact fin false (by unfold plnC; rw [decide_eq_false (p := 33 ≤ x.toNat) (by omega)]; rfl)
theorem insO_c (w : World) (x : UInt8) : Pu Tryz.prog n_order_inside #[byte x] w (.bool (insC x)) := by
  have g := good_order_inside w (Un [])
  refine con_of_sx (cx := cx_order_inside w (Un [])) g b_order_inside rfl rfl (β := Va.z) [.c (.v (byte x))] 0 [] [] rfl rfl (Sat.start rfl) ?_
  have fin : ∀ b, insC x = b → ∀ {n : Nat} {H : List Bk} {F : List Fact} (β : Va) (w' : World), Sat (cx_order_inside w (Un [])) β n H F w' → Fin w [] (fun u Fs => u = .bool (insC x) ∧ Fs = []) (.bool b) w' := by
    intro b h n H F β w' hs
    rw [h]
    exact (hs.keepB (List.nil_sublist _)).fin [] ⟨rfl, rfl⟩
  have yes : 32 ≤ x.toNat ∧ x.toNat ≠ 127 → insC x = true := fun h => by unfold insC; rw [decide_eq_true h.1, decide_eq_true h.2]; rfl
  have last : (x.toNat = 127 ∨ x.toNat < 32 ∨ 128 ≤ x.toNat) → insC x = decide ((128 : Int) ≤ x.toNat) := fun h => by
    by_cases h8 : 128 ≤ x.toNat
    · rw [yes (by omega), decide_eq_true (by omega)]
    · rw [decide_eq_false (by omega)]
      unfold insC
      rcases h with h | h | h
      · rw [decide_eq_false (p := x.toNat ≠ 127) (by omega), Bool.and_false]
      · rw [decide_eq_false (p := 32 ≤ x.toNat) (by omega)]; rfl
      · omega
  refine BIf.dec (fun h1 => ?_) (fun h1 => ?_)
  · have q1 : (x.toNat : Int) = 32 := h1
    exact fin true (yes (by omega))
  have q1 : ¬ (x.toNat : Int) = 32 := h1
  refine BIf.dec (fun h2 => ?_) (fun h2 => ?_)
  · have q2 : (33 : Int) ≤ x.toNat := h2
    refine BIf.dec (fun h3 => ?_) (fun h3 => ?_)
    · have q3 : (x.toNat : Int) ≤ 126 := h3
      exact fin true (yes (by omega))
    · have q3 : ¬ (x.toNat : Int) ≤ 126 := h3
      exact fin _ (last (by omega))
  · have q2 : ¬ (33 : Int) ≤ x.toNat := h2
    exact fin _ (last (by omega))
theorem tw_take (p : UInt8 → Bool) : ∀ (s : List UInt8) (k : Nat), k ≤ s.length → (s.take k).all p = true → (∀ x, s[k]? = some x → p x = false) → s.takeWhile p = s.take k ∧ s.dropWhile p = s.drop k
  | [], k, _, _, _ => by simp
  | c :: r, 0, _, _, h => by
    have := h c rfl
    simp [this]
  | c :: r, k + 1, hk, ha, h => by
    simp only [List.take_succ_cons, List.all_cons, Bool.and_eq_true] at ha
    have ih := tw_take p r k (by simpa using hk) ha.2 (fun x hx => h x (by simpa using hx))
    simp only [List.takeWhile_cons, List.dropWhile_cons, ha.1, if_true, List.take_succ_cons, List.drop_succ_cons]
    exact ⟨by rw [ih.1], ih.2⟩
theorem bareO_c (w : World) (s : List UInt8) (hl : s.length ≤ 100000) : Pu Tryz.prog n_order_bare #[.string (mkS s)] w (.tuple #[.string (mkS (s.takeWhile plnC)), .string (mkS (s.dropWhile plnC)), .bool (decide (s.takeWhile plnC ≠ []))]) := by
  have g := good_order_bare w (Un [])
  have hsz := mkS_len s
  refine con_of_sx (cx := cx_order_bare w (Un [])) g b_order_bare rfl rfl (β := Va.z) [.c (.v (.string (mkS s)))] 0 [] [] rfl rfl (Sat.start rfl) ?_
  refine tri_exit (κ := Nat) 0 (fun k => k ≤ s.length ∧ s.takeWhile plnC = s.take k ∧ s.dropWhile plnC = s.drop k) 0 (fun k => [(0, .c (.v (.string (mkS s)))), (5, .c (.v (.int .i64 (k : Int))))]) (fun _ => []) (fun _ => []) ?_ ?_
  · rintro k ⟨hk, h1, h2⟩
    rw [h1, h2]
    refine draw_rule g p_order_bare_4 (by kernel_rfl) [] [] Sub.refl ?_
    refine ⟨k, 0, rfl, rfl, by omega, Nat.zero_le _, ?_⟩
    refine ⟨(mkS s).size, k, rfl, rfl, Nat.le_refl _, by omega, ?_⟩
    intro β w' hs
    refine (hs.keepB (List.nil_sublist _)).fin [] ⟨?_, rfl⟩
    rw [mkS_sub, mkS_sub, List.drop_zero, hsz, List.take_length]
    have e : decide ((k : Int) > 0) = decide (s.take k ≠ []) := decide_eq_decide.2 (by
      rw [Ne, List.take_eq_nil_iff]
      constructor
      · intro q r
        rcases r with r | r
        · omega
        · rw [r] at hk; simp at hk; omega
      · intro q
        have : ¬ k = 0 := fun r => q (.inl r)
        omega)
    rw [← e]
    rfl
  refine loop_rule 0 (fun k : Nat => [(0, .c (.v (.string (mkS s)))), (5, .c (.v (.int .i64 (k : Int))))]) (fun _ => []) (fun _ => [])
    (fun k => k ≤ s.length ∧ (s.take k).all plnC = true) (fun k => s.length - k) 0 ⟨Nat.zero_le _, rfl⟩ (Ent.same ⟨rfl, rfl, trivial⟩ rfl) g ?_
  rintro k ⟨hk, hall⟩
  refine BIf.dec (fun hlt => ?_) (fun hge => ?_)
  · have hlt : k < s.length := by have h0 : (k : Int) < (mkS s).size := hlt; omega
    obtain ⟨x, hx, hxm⟩ := at_lt (l := s) (k := k) hlt
    refine ⟨k, x, rfl, hx, ?_⟩
    refine call_pu (fun β w' hs => plnO_c w' x) ?_
    cases hp : plnC x with
    | true =>
      refine ⟨((k + 1 : Nat) : Int), by rw [wrap_i64 (by omega) (by omega)]; rfl, ?_⟩
      exact ⟨k + 1, ⟨hlt, all_step hx hall hp⟩, by omega, Ent.same ⟨rfl, rfl, trivial⟩ rfl⟩
    | false =>
      exact EntX.of k ⟨hk, tw_take plnC s k hk hall (fun y hy => by rw [hx] at hy; obtain rfl := Option.some.inj hy; exact hp)⟩ (Ent.same ⟨rfl, rfl, trivial⟩ rfl)
  · have hkl : k = s.length := by have h0 : ¬ (k : Int) < (mkS s).size := hge; omega
    exact EntX.of k ⟨hk, tw_take plnC s k hk hall (fun y hy => by rw [hkl, List.getElem?_eq_none (Nat.le_refl _)] at hy; cases hy)⟩ (Ent.same ⟨rfl, rfl, trivial⟩ rfl)
def preQ (a : List UInt8) (q : List UInt8 × List UInt8) : List UInt8 × List UInt8 := (a ++ q.1, q.2)
theorem preQ_add (a : List UInt8) (x : UInt8) (o : Option (List UInt8 × List UInt8)) : (o.map (addQ x)).map (preQ a) = o.map (preQ (a ++ [x])) := by
  cases o <;> simp [preQ, addQ]
def quotV : Option (List UInt8 × List UInt8) → Value
  | none => .tuple #[.string (mkS []), .string (mkS []), .bool false]
  | some q => .tuple #[.string (mkS q.1), .string (mkS q.2), .bool true]
structure QuS where
  k : Nat
  p : Value
  A : Option Addr
  c : Nat
  a : List UInt8
set_option maxHeartbeats 1000000 in
theorem quotO_c (w : World) (s : List UInt8) (hl : s.length ≤ 100000) : Pu Tryz.prog n_order_quoted #[.string (mkS s)] w (quotV (quotS false s)) := by
  have g := good_order_quoted w (Un [])
  have hsz := mkS_len s
  have hml := maxLen_eq
  refine con_of_sx (cx := cx_order_quoted w (Un [])) g b_order_quoted rfl rfl (β := Va.z) [.c (.v (.string (mkS s)))] 0 [] [] rfl rfl (Sat.start rfl) ?_
  refine reify_rule g 0 (fun _ => [.pointer none, .slice none 0 0]) rfl rfl (fun _ => rfl) (fun b => ?_)
  have no : quotS false s = none → ∀ {n : Nat} {H : List Bk} {F : List Fact} (β : Va) (w' : World), Sat (cx_order_quoted w (Un [])) β n H F w' → Fin w [] (fun u Fs => u = quotV (quotS false s) ∧ Fs = []) (.tuple #[.string (mkS []), .string (mkS []), .bool false]) w' := by
    intro h n H F β w' hs
    rw [h]
    exact (hs.keepB (List.nil_sublist _)).fin [] ⟨rfl, rfl⟩
  refine loop_rule 1 (fun i : QuS => [(0, .c (.v (.string (mkS s)))), (6, .c (.v (.int .i64 i.k))), (5, .c (.v (selfV b)))]) (fun _ => []) (fun i => bldF b i.p i.A i.a i.c)
    (fun i => i.k ≤ s.length ∧ i.a.length ≤ i.k ∧ quotS false s = (quotS false (s.drop i.k)).map (preQ i.a) ∧ (i.p = .pointer none ∨ i.p = selfV b) ∧ (i.a = [] → i.A = none)) (fun i => s.length - i.k) ⟨0, .pointer none, none, 0, []⟩ ⟨Nat.zero_le _, Nat.le_refl _, by cases h : quotS false s <;> simp [h, preQ], .inl rfl, fun _ => rfl⟩ (Ent.mk' ⟨rfl, rfl, rfl, trivial⟩ rfl ?_) g ?_
  · intro β w' hs
    exact (hs.nilRow ty_uint8 1).perm [1, 0]
  rintro ⟨k, p, A1, c1, a⟩ ⟨hk, ha, hq, hp, hA0⟩
  simp only at hk ha hq hp hA0
  refine BIf.dec (fun hlt => ?_) (fun hge => ?_)
  · have hlt : k < s.length := by have h0 : (k : Int) < (mkS s).size := hlt; omega
    obtain ⟨x, hx, hxm⟩ := at_lt (l := s) (k := k) hlt
    have hdr : s.drop k = x :: s.drop (k + 1) := by
      rw [← List.getElem_cons_drop (h := hlt)]
      rw [List.getElem?_eq_getElem hlt] at hx
      rw [Option.some.inj hx]
    rw [hdr] at hq
    refine ⟨k, x, rfl, hx, ?_⟩
    refine BIf.dec (fun h34 => ?_) (fun h34 => ?_)
    · have q34 : x.toNat = 34 := by have h0 : (x.toNat : Int) = 34 := h34; omega
      have hq2 : quotS false s = some (a, s.drop (k + 1)) := by rw [hq, quotS, if_pos q34]; simp [preQ]
      rw [hq2]
      refine draw_rule g p_order_quoted_7 (by kernel_rfl) [] [] (Sub.of (List.nil_sublist _) (List.nil_sublist _)) ?_
      refine ⟨(((k + 1) : Nat) : Int), by rw [wrap_i64 (by omega) (by omega)]; rfl, ?_⟩
      refine ⟨(mkS s).size, k + 1, rfl, rfl, Nat.le_refl _, by omega, ?_⟩
      rw [mkS_sub, hsz, List.take_length]
      by_cases ha0 : a = []
      · subst ha0
        obtain rfl := hA0 rfl
        refine call_con [0] (fun β w' hs => text0_c w' b p c1 (hs.mem.take (js := [0]) rfl)) ?_
        rintro v Fs ⟨rfl, rfl⟩
        refine ⟨Sub.of (List.nil_sublist _) (List.nil_sublist _), ?_⟩
        intro β w' hs
        exact (hs.keepB (List.nil_sublist _)).fin [] ⟨rfl, rfl⟩
      · refine call_con [0, 1] (fun β w' hs => text_c w' b p A1 a c1 ha0 (hs.mem.take (js := [0, 1]) rfl)) ?_
        rintro v Fs ⟨rfl, rfl⟩
        refine ⟨Sub.of (List.nil_sublist _) (List.nil_sublist _), ?_⟩
        intro β w' hs
        exact (hs.keepB (List.nil_sublist _)).fin [] ⟨rfl, rfl⟩
    have q34 : ¬ x.toNat = 34 := fun h => h34 (by show (x.toNat : Int) = 34; omega)
    refine BIf.not (BIf.dec (fun h92 => ?_) (fun h92 => ?_))
    · have q92 : x.toNat = 92 := by have h0 : (x.toNat : Int) = 92 := h92; omega
      rw [quotS, if_neg q34, if_pos q92] at hq
      refine BIf.not (BIf.dec (fun _ => ?_) (fun h => absurd (show (↑x.toNat : Int) = 92 by omega) h))
      refine ⟨(((k + 1) : Nat) : Int), by rw [wrap_i64 (by omega) (by omega)]; rfl, ?_⟩
      refine BIf.dec (fun he => ?_) (fun he => ?_)
      · have e : k + 1 = s.length := by have h0 : ((k + 1 : Nat) : Int) = (mkS s).size := he; omega
        rw [e, List.drop_length] at hq
        exact no (by rw [hq]; rfl)
      have e : k + 1 < s.length := by have h0 : ¬ ((k + 1 : Nat) : Int) = (mkS s).size := he; omega
      obtain ⟨y, hy, hym⟩ := at_lt (l := s) (k := k + 1) e
      have hdr2 : s.drop (k + 1) = y :: s.drop (k + 2) := by
        rw [← List.getElem_cons_drop (h := e)]
        rw [List.getElem?_eq_getElem e] at hy
        rw [Option.some.inj hy]
      rw [hdr2] at hq
      refine ⟨(((k + 1) : Nat) : Int), by rw [wrap_i64 (by omega) (by omega)]; rfl, ?_⟩
      refine ⟨k + 1, y, rfl, hy, ?_⟩
      have go : ∀ (z : UInt8), quotS true (y :: s.drop (k + 2)) = (quotS false (s.drop (k + 2))).map (addQ z) → quotS false s = (quotS false (s.drop (k + 2))).map (preQ (a ++ [z])) := fun z h => by rw [hq, h, preQ_add]
      refine BIf.dec (fun h1 => ?_) (fun h1 => ?_)
      · have q1 : (y.toNat : Int) = 34 := h1
        refine BIf.dec (fun _ => ?_) (fun h => absurd h1 h)
        refine ⟨k + 1, y, rfl, hy, ?_⟩
        refine call_con [0, 1] (fun β w' hs => writeByte_c w' b p A1 a c1 y hp (by omega) (hs.mem.take (js := [0, 1]) rfl)) ?_
        rintro v Fs ⟨rfl, A2, c2, rfl⟩
        refine ⟨(((k + 2) : Nat) : Int), by rw [wrap_i64 (by omega) (by omega)]; rfl, ?_⟩
        exact ⟨⟨k + 2, selfV b, A2, c2, a ++ [y]⟩, ⟨e, by simp only [List.length_append, List.length_singleton]; omega, go y (by rw [quotS, if_pos (by omega)]), .inr rfl, fun h => by simp at h⟩, by show s.length - (k + 2) < s.length - k; omega, Ent.mk' ⟨rfl, rfl, rfl, trivial⟩ rfl (fun β w' hs => hs)⟩
      have q1 : ¬ (y.toNat : Int) = 34 := h1
      refine BIf.dec (fun h2 => ?_) (fun h2 => ?_)
      · have q2 : (y.toNat : Int) = 92 := h2
        refine ⟨k + 1, y, rfl, hy, ?_⟩
        refine call_con [0, 1] (fun β w' hs => writeByte_c w' b p A1 a c1 y hp (by omega) (hs.mem.take (js := [0, 1]) rfl)) ?_
        rintro v Fs ⟨rfl, A2, c2, rfl⟩
        refine ⟨(((k + 2) : Nat) : Int), by rw [wrap_i64 (by omega) (by omega)]; rfl, ?_⟩
        exact ⟨⟨k + 2, selfV b, A2, c2, a ++ [y]⟩, ⟨e, by simp only [List.length_append, List.length_singleton]; omega, go y (by rw [quotS, if_pos (by omega)]), .inr rfl, fun h => by simp at h⟩, by show s.length - (k + 2) < s.length - k; omega, Ent.mk' ⟨rfl, rfl, rfl, trivial⟩ rfl (fun β w' hs => hs)⟩
      have q2 : ¬ (y.toNat : Int) = 92 := h2
      refine BIf.dec (fun h3 => ?_) (fun h3 => ?_)
      · have q3 : (y.toNat : Int) = 110 := h3
        refine call_con [0, 1] (fun β w' hs => writeByte_c w' b p A1 a c1 10 hp (by omega) (hs.mem.take (js := [0, 1]) rfl)) ?_
        rintro v Fs ⟨rfl, A2, c2, rfl⟩
        refine ⟨(((k + 2) : Nat) : Int), by rw [wrap_i64 (by omega) (by omega)]; rfl, ?_⟩
        exact ⟨⟨k + 2, selfV b, A2, c2, a ++ [10]⟩, ⟨e, by simp only [List.length_append, List.length_singleton]; omega, go 10 (by rw [quotS, if_neg (by omega), if_pos (by omega)]), .inr rfl, fun h => by simp at h⟩, by show s.length - (k + 2) < s.length - k; omega, Ent.mk' ⟨rfl, rfl, rfl, trivial⟩ rfl (fun β w' hs => hs)⟩
      · have q3 : ¬ (y.toNat : Int) = 110 := h3
        exact no (by rw [hq, quotS, if_neg (by omega), if_neg (by omega)]; rfl)
    have q92 : ¬ x.toNat = 92 := fun h => h92 (by show (x.toNat : Int) = 92; omega)
    rw [quotS, if_neg q34, if_neg q92] at hq
    refine call_pu (fun β w' hs => insO_c w' x) ?_
    cases hin : insC x with
    | true =>
      rw [if_pos hin, preQ_add] at hq
      refine call_con [0, 1] (fun β w' hs => writeByte_c w' b p A1 a c1 x hp (by omega) (hs.mem.take (js := [0, 1]) rfl)) ?_
      rintro v Fs ⟨rfl, A2, c2, rfl⟩
      refine ⟨(((k + 1) : Nat) : Int), by rw [wrap_i64 (by omega) (by omega)]; rfl, ?_⟩
      exact ⟨⟨k + 1, selfV b, A2, c2, a ++ [x]⟩, ⟨hlt, by simp only [List.length_append, List.length_singleton]; omega, hq, .inr rfl, fun h => by simp at h⟩, by show s.length - (k + 1) < s.length - k; omega, Ent.mk' ⟨rfl, rfl, rfl, trivial⟩ rfl (fun β w' hs => hs)⟩
    | false =>
      refine BIf.not (BIf.dec (fun h => absurd h (show ¬ ((↑x.toNat : Int) = 92) by omega)) (fun _ => ?_))
      exact no (by rw [hq, if_neg (by rw [hin]; decide)]; rfl)
  · have hkl : k = s.length := by have h0 : ¬ (k : Int) < (mkS s).size := hge; omega
    subst hkl
    rw [List.drop_length] at hq
    exact no (by rw [hq]; rfl)
abbrev WE := List UInt8 × Bool
def toldW (q : List (List UInt8) × Bool) : List WE := q.1.map (fun w => (w, true)) ++ if q.2 = true then [] else [([], false)]
def insWd (L : List WE) (pre : List WE) (x : WE) (args : Array Value) (X : Fact) : Prop := args = #[.string (mkS x.1), .bool x.2] ∧ X = noF ∧ L[pre.length]? = some x
def wdEnd (L : List WE) (J Jx : List WE → Fact → Prop) (Fs : List Fact) : Prop :=
  ∃ f Fs', Fs = f :: Fs' ∧ ((∃ xs, J xs f ∧ xs = L ∧ Fs' = []) ∨ (∃ pre, Jx pre f ∧ Fs' = []))
theorem hasQ_c (w : World) (s : ByteArray) (b : Bool) (h : _root_.Go.Lib.hasPrefix s.data.toList [34] = b) : Pu Tryz.prog n_strings_HasPrefix #[.string s, .string ⟨#[34]⟩] w (.bool b) := by
  refine pu_of (Calls.mono (Tryz.strings_HasPrefix s ⟨#[34]⟩ w) ?_)
  rintro e w' ⟨rfl, rfl⟩
  exact ⟨_, rfl, congrArg Value.bool h, Chg.refl _ _⟩
theorem wordF_q {t : List UInt8} (h : _root_.Go.Lib.hasPrefix t [34] = true) : ∃ r, t = 34 :: r ∧ wordF t = quotS false r := by
  cases t with
  | nil => cases h
  | cons c r =>
    have hc : 34 = c := by simpa [_root_.Go.Lib.hasPrefix] using h
    subst hc
    exact ⟨r, rfl, rfl⟩
theorem wordF_b {t : List UInt8} (h : _root_.Go.Lib.hasPrefix t [34] = false) : wordF t = if t.takeWhile plnC = [] then none else some (t.takeWhile plnC, t.dropWhile plnC) := by
  cases t with
  | nil => rfl
  | cons c r =>
    have hc : ¬ c.toNat = 34 := fun q => by
      have : c = 34 := UInt8.toNat_inj.1 q
      subst this
      simp [_root_.Go.Lib.hasPrefix] at h
    rw [wordF, if_neg hc]
    cases hp : plnC c with
    | true => rw [if_pos rfl, if_neg (by simp [hp])]
    | false => rw [if_neg (by decide), if_pos (by simp [hp])]
theorem words_it (l : Nat) (w : World) (bx : Nat) (s : List UInt8) (hs : s.length ≤ 100000) (f0 R : Fact) (J Jx : List WE → Fact → Prop) (hJ0 : J [] f0) (hJo : ∀ pre f, J pre f → f.own = true) (hRo : R.own = false) (hY : Yc Tryz.prog l J Jx R (insWd (toldW (wordsF s))))
    (hm : Mem w (f0 :: R :: [bkF bx ty_string [.string (mkS s)]])) :
    Con Tryz.prog n_order_Words_1 #[.func (.yield l) #[] #[], .pointer (some ⟨bx, 0, none⟩)] w [f0, bkF bx ty_string [.string (mkS s)]] (fun _ Fs => wdEnd (toldW (wordsF s)) J Jx Fs) := by
  have g := good_order_Words_1 w (Un [f0, bkF bx ty_string [.string (mkS s)]]) [bx]
  have hs0 : Sat (cx_order_Words_1 w (Un [f0, bkF bx ty_string [.string (mkS s)]]) [bx]) (Va.of fun _ => bx) 1 [] (f0 :: R :: [bkF bx ty_string [.string (mkS s)]]) w := by
    refine hm.sat rfl (fun f hf ho k hk => ?_) ⟨Nat.le_refl 1, fun i hi => by obtain rfl : i = 0 := Nat.lt_one_iff.1 hi; rfl⟩
    simp only [List.mem_cons, List.not_mem_nil, or_false] at hf
    rcases hf with rfl | rfl | rfl
    · exact ⟨_, by simp, hk⟩
    · rw [hRo] at ho; cases ho
    · exact ⟨bkF bx ty_string [.string (mkS s)], by simp, hk⟩
  have hs1 := hs0.toBk 2 rfl 0 Nat.zero_lt_one rfl
  refine con_of_sx (cx := cx_order_Words_1 w (Un [f0, bkF bx ty_string [.string (mkS s)]]) [bx]) g b_order_Words_1 rfl rfl (β := Va.of fun _ => bx) [.c (.v (.func (.yield l) #[] #[])), .c (.p 0 0)] 1 _ _ rfl rfl hs1 ?_
  refine loop_rule (ι := List WE × Fact × List UInt8) 1 (fun _ => [(0, .c (.v (.func (.yield l) #[] #[]))), (1, .c (.p 0 0))]) (fun i => [⟨0, ty_string, [.v (.string (mkS i.2.2))]⟩]) (fun i => [i.2.1, R])
    (fun i => J i.1 i.2.1 ∧ toldW (wordsF s) = i.1 ++ toldW (wordsF i.2.2) ∧ i.2.2.length ≤ s.length) (fun i => i.2.2.length) ([], f0, s) ⟨hJ0, rfl, Nat.le_refl _⟩ (Ent.mk' ⟨rfl, rfl, trivial⟩ rfl (fun β w' hs => hs)) g ?_
  rintro ⟨pre, f, t⟩ ⟨hJ, hpre, hi⟩
  simp only at hJ hpre hi
  have hfo := hJo _ _ hJ
  have hst := wordsF_step t
  -- the last told: there is no other word
  have last : toldW (wordsF t) = [([], false)] → (toldW (wordsF s))[pre.length]? = some ([], false) := fun h => by rw [hpre, h]; simp
  simp only
  refine call_pu (v := .bool (_root_.Go.Lib.hasPrefix t [34])) (fun β w' hs' => hasQ_c w' (mkS t) _ rfl) ?_
  cases hp : _root_.Go.Lib.hasPrefix t [34] with
  | true =>
    obtain ⟨r, rfl, hw⟩ := wordF_q hp
    have hsz := mkS_len (34 :: r)
    simp only [List.length_cons] at hsz hi
    refine ⟨(mkS (34 :: r)).size, 1, rfl, rfl, Nat.le_refl _, by omega, ?_⟩
    have e1 : (mkS (34 :: r)).extract 1 (mkS (34 :: r)).size = mkS r := by rw [mkS_sub, hsz, List.take_of_length_le (by simp)]; rfl
    rw [e1]
    refine call_pu (fun β w' hs' => quotO_c w' r (by omega)) ?_
    cases hq : quotS false r with
    | none =>
      have hwn : wordF (34 :: r) = none := hw.trans hq
      rw [hwn] at hst
      refine yield_ro (X := noF) (x := ([], false)) hY 0 1 rfl hJ hfo rfl hRo (by decide) (fun β => ⟨rfl, rfl, last (by rw [hst]; rfl)⟩) rfl (fun β w _ => ⟨trivial, fun k hk => hk.elim, fun k _ h => h.elim⟩) ?_ ?_
      · intro f2 hfo2 hJ2
        intro β w' hs
        exact (hs.keepB (List.nil_sublist _)).fin [0] ⟨f2, _, rfl, .inl ⟨_, hJ2, by rw [hpre, hst]; rfl, rfl⟩⟩ rfl rfl rfl ⟨hfo2, trivial⟩
      · intro f2 hfo2 hJ2
        intro β w' hs
        exact (hs.keepB (List.nil_sublist _)).fin [0] ⟨f2, _, rfl, .inr ⟨_, hJ2, rfl⟩⟩ rfl rfl rfl ⟨hfo2, trivial⟩
    | some q =>
      obtain ⟨a, b⟩ := q
      have hwn : wordF (34 :: r) = some (a, b) := hw.trans hq
      rw [hwn] at hst
      have hwl := wordF_len hwn
      simp only at hwl
      have hx : (toldW (wordsF s))[pre.length]? = some (a, true) := by
        rw [hpre, hst]
        cases b with
        | nil => simp [toldW]
        | cons c r2 => simp only; split <;> simp [toldW]
      refine yield_ro (X := noF) (x := (a, true)) hY 0 1 rfl hJ hfo rfl hRo (by decide) (fun β => ⟨rfl, rfl, hx⟩) rfl (fun β w _ => ⟨trivial, fun k hk => hk.elim, fun k _ h => h.elim⟩) ?_ ?_
      · intro f2 hfo2 hJ2
        refine BIf.dec (p := mkS b = mkS []) (fun hb => ?_) (fun hb => ?_)
        · have hb0 := mkS_nil.1 hb
          subst hb0
          intro β w' hs
          exact (hs.keepB (List.nil_sublist _)).fin [0] ⟨f2, _, rfl, .inl ⟨_, hJ2, by rw [hpre, hst]; rfl, rfl⟩⟩ rfl rfl rfl ⟨hfo2, trivial⟩
        cases b with
        | nil => exact absurd rfl hb
        | cons c r2 =>
          refine ⟨0, c, rfl, rfl, ?_⟩
          simp only at hst
          refine BIf.not (BIf.dec (fun h32 => ?_) (fun h32 => ?_))
          · have q32 : c.toNat = 32 := by have h0 : (c.toNat : Int) = 32 := h32; omega
            rw [if_pos q32] at hst
            have hsz2 := mkS_len (c :: r2)
            simp only [List.length_cons] at hsz2 hwl
            refine ⟨(mkS (c :: r2)).size, 1, rfl, rfl, Nat.le_refl _, by omega, ?_⟩
            have e1 : (mkS (c :: r2)).extract 1 (mkS (c :: r2)).size = mkS r2 := by rw [mkS_sub, hsz2, List.take_of_length_le (by simp)]; rfl
            rw [e1]
            exact ⟨(pre ++ [(a, true)], f2, r2), ⟨hJ2, by show toldW (wordsF s) = (pre ++ [(a, true)]) ++ toldW (wordsF r2); rw [hpre, hst, List.append_assoc]; rfl, by show r2.length ≤ s.length; omega⟩, by show r2.length < (34 :: r).length; simp only [List.length_cons]; omega, Ent.mk' ⟨rfl, rfl, trivial⟩ rfl (fun β w' hs => hs)⟩
          · have q32 : ¬ c.toNat = 32 := fun h => h32 (by show (c.toNat : Int) = 32; omega)
            rw [if_neg q32] at hst
            have hx2 : (toldW (wordsF s))[(pre ++ [(a, true)]).length]? = some ([], false) := by rw [hpre, hst]; simp [toldW]
            refine yield_ro (X := noF) (x := ([], false)) hY 0 1 rfl hJ2 hfo2 rfl hRo (by decide) (fun β => ⟨rfl, rfl, hx2⟩) rfl (fun β w _ => ⟨trivial, fun k hk => hk.elim, fun k _ h => h.elim⟩) ?_ ?_
            · intro f3 hfo3 hJ3
              intro β w' hs
              exact (hs.keepB (List.nil_sublist _)).fin [0] ⟨f3, _, rfl, .inl ⟨_, hJ3, by rw [hpre, hst]; simp [toldW], rfl⟩⟩ rfl rfl rfl ⟨hfo3, trivial⟩
            · intro f3 hfo3 hJ3
              intro β w' hs
              exact (hs.keepB (List.nil_sublist _)).fin [0] ⟨f3, _, rfl, .inr ⟨_, hJ3, rfl⟩⟩ rfl rfl rfl ⟨hfo3, trivial⟩
      · intro f2 hfo2 hJ2
        intro β w' hs
        exact (hs.keepB (List.nil_sublist _)).fin [0] ⟨f2, _, rfl, .inr ⟨_, hJ2, rfl⟩⟩ rfl rfl rfl ⟨hfo2, trivial⟩
  | false =>
    refine call_pu (fun β w' hs' => bareO_c w' t (by omega)) ?_
    have hw := wordF_b hp
    refine BIf.not (BIf.dec (fun h0 => ?_) (fun h0 => ?_))
    · have hwn : wordF t = some (t.takeWhile plnC, t.dropWhile plnC) := by rw [hw, if_neg h0]
      generalize t.takeWhile plnC = a at *
      generalize t.dropWhile plnC = b at *
      rw [hwn] at hst
      have hwl := wordF_len hwn
      simp only at hwl
      have hx : (toldW (wordsF s))[pre.length]? = some (a, true) := by
        rw [hpre, hst]
        cases b with
        | nil => simp [toldW]
        | cons c r2 => simp only; split <;> simp [toldW]
      refine yield_ro (X := noF) (x := (a, true)) hY 0 1 rfl hJ hfo rfl hRo (by decide) (fun β => ⟨rfl, rfl, hx⟩) rfl (fun β w _ => ⟨trivial, fun k hk => hk.elim, fun k _ h => h.elim⟩) ?_ ?_
      · intro f2 hfo2 hJ2
        refine BIf.dec (p := mkS b = mkS []) (fun hb => ?_) (fun hb => ?_)
        · have hb0 := mkS_nil.1 hb
          subst hb0
          intro β w' hs
          exact (hs.keepB (List.nil_sublist _)).fin [0] ⟨f2, _, rfl, .inl ⟨_, hJ2, by rw [hpre, hst]; rfl, rfl⟩⟩ rfl rfl rfl ⟨hfo2, trivial⟩
        cases b with
        | nil => exact absurd rfl hb
        | cons c r2 =>
          refine ⟨0, c, rfl, rfl, ?_⟩
          simp only at hst
          refine BIf.not (BIf.dec (fun h32 => ?_) (fun h32 => ?_))
          · have q32 : c.toNat = 32 := by have h0 : (c.toNat : Int) = 32 := h32; omega
            rw [if_pos q32] at hst
            have hsz2 := mkS_len (c :: r2)
            simp only [List.length_cons] at hsz2 hwl
            refine ⟨(mkS (c :: r2)).size, 1, rfl, rfl, Nat.le_refl _, by omega, ?_⟩
            have e1 : (mkS (c :: r2)).extract 1 (mkS (c :: r2)).size = mkS r2 := by rw [mkS_sub, hsz2, List.take_of_length_le (by simp)]; rfl
            rw [e1]
            exact ⟨(pre ++ [(a, true)], f2, r2), ⟨hJ2, by show toldW (wordsF s) = (pre ++ [(a, true)]) ++ toldW (wordsF r2); rw [hpre, hst, List.append_assoc]; rfl, by show r2.length ≤ s.length; omega⟩, by show r2.length < t.length; omega, Ent.mk' ⟨rfl, rfl, trivial⟩ rfl (fun β w' hs => hs)⟩
          · have q32 : ¬ c.toNat = 32 := fun h => h32 (by show (c.toNat : Int) = 32; omega)
            rw [if_neg q32] at hst
            have hx2 : (toldW (wordsF s))[(pre ++ [(a, true)]).length]? = some ([], false) := by rw [hpre, hst]; simp [toldW]
            refine yield_ro (X := noF) (x := ([], false)) hY 0 1 rfl hJ2 hfo2 rfl hRo (by decide) (fun β => ⟨rfl, rfl, hx2⟩) rfl (fun β w _ => ⟨trivial, fun k hk => hk.elim, fun k _ h => h.elim⟩) ?_ ?_
            · intro f3 hfo3 hJ3
              intro β w' hs
              exact (hs.keepB (List.nil_sublist _)).fin [0] ⟨f3, _, rfl, .inl ⟨_, hJ3, by rw [hpre, hst]; simp [toldW], rfl⟩⟩ rfl rfl rfl ⟨hfo3, trivial⟩
            · intro f3 hfo3 hJ3
              intro β w' hs
              exact (hs.keepB (List.nil_sublist _)).fin [0] ⟨f3, _, rfl, .inr ⟨_, hJ3, rfl⟩⟩ rfl rfl rfl ⟨hfo3, trivial⟩
      · intro f2 hfo2 hJ2
        intro β w' hs
        exact (hs.keepB (List.nil_sublist _)).fin [0] ⟨f2, _, rfl, .inr ⟨_, hJ2, rfl⟩⟩ rfl rfl rfl ⟨hfo2, trivial⟩
    · have hwn : wordF t = none := by rw [hw, if_pos (Classical.not_not.1 h0)]
      rw [hwn] at hst
      refine yield_ro (X := noF) (x := ([], false)) hY 0 1 rfl hJ hfo rfl hRo (by decide) (fun β => ⟨rfl, rfl, last (by rw [hst]; rfl)⟩) rfl (fun β w _ => ⟨trivial, fun k hk => hk.elim, fun k _ h => h.elim⟩) ?_ ?_
      · intro f2 hfo2 hJ2
        intro β w' hs
        exact (hs.keepB (List.nil_sublist _)).fin [0] ⟨f2, _, rfl, .inl ⟨_, hJ2, by rw [hpre, hst]; rfl, rfl⟩⟩ rfl rfl rfl ⟨hfo2, trivial⟩
      · intro f2 hfo2 hJ2
        intro β w' hs
        exact (hs.keepB (List.nil_sublist _)).fin [0] ⟨f2, _, rfl, .inr ⟨_, hJ2, rfl⟩⟩ rfl rfl rfl ⟨hfo2, trivial⟩
theorem orWords_c (w : World) (t : ByteArray) : Con Tryz.prog n_order_Words #[.string t] w [] (fun v Fs => ∃ bx, v = .func (.func n_order_Words_1) #[] #[.pointer (some ⟨bx, 0, none⟩)] ∧ Fs = [bkF bx ty_string [.string t]]) := by
  refine con_of_sx (cx := cx_order_Words w (Un [])) (good_order_Words w (Un [])) b_order_Words rfl rfl (β := Va.z) [.c (.v (.string t))] 0 [] [] rfl rfl (Sat.start rfl) ?_
  intro β w' hs
  exact hs.ofBk.fin [0] ⟨β 0, rfl, rfl⟩
def rulF (A : Option Addr) (rs : List Rul) (c : Nat) : Fact := rowF ty_rule_Rule 6 (.slice A rs.length c) rs.length (rs.flatMap Rul.vs)
structure RlS where
  A : Option Addr
  c : Nat
  rs : List Rul
structure RlS.Ok (i : RlS) (n : Nat) : Prop where
  a : ∀ r ∈ i.rs, r.Ok
  b : i.rs.length ≤ n
def polF (b : Nat) (i : RlS) : List Fact := [bkF b ty_rule_Policy [.slice i.A i.rs.length i.c], rulF i.A i.rs i.c]
def polOut (v : Value) (Fs : List Fact) : Prop :=
  (∃ b i, RlS.Ok i 32 ∧ v = .tuple #[.pointer (some ⟨b, 0, none⟩), .int .i64 0, .int .i64 0] ∧ Fs = polF b i) ∨
  (∃ (n e : Int), 1 ≤ e ∧ e ≤ 17 ∧ v = .tuple #[.pointer none, .int .i64 n, .int .i64 e] ∧ Fs = [])
theorem hasH_c (w : World) (s : ByteArray) (b : Bool) (h : _root_.Go.Lib.hasPrefix s.data.toList [35] = b) : Pu Tryz.prog n_strings_HasPrefix #[.string s, .string ⟨#[35]⟩] w (.bool b) := by
  refine pu_of (Calls.mono (Tryz.strings_HasPrefix s ⟨#[35]⟩ w) ?_)
  rintro e w' ⟨rfl, rfl⟩
  exact ⟨_, rfl, congrArg Value.bool h, Chg.refl _ _⟩
theorem polParse_c (w : World) (s : List UInt8) (hs : s.length ≤ 100000) (hm : Mem w [mlF, namF, errF 6, errF 7, powF]) : Con Tryz.prog n_rule_Parse #[.string (mkS s)] w [] polOut := by
  have g := good_rule_Parse w (Un [])
  have hsz := mkS_sz1 s
  have hml := maxLen_eq
  refine con_go (cx := cx_rule_Parse w (Un [])) g b_rule_Parse [.c (.v (.string (mkS s)))] [mlF, namF, errF 6, errF 7, powF] hm ?_
  refine BIf.dec (fun _ => ?_) (fun _ => ?_)
  · intro β w' hs
    exact (hs.keepB (List.nil_sublist _)).fin [] (.inr ⟨_, 3, by decide, by decide, rfl, rfl⟩)
  refine call_con [] (fun β w' hs => polLines_c w' (mkS s)) ?_
  rintro v Fs ⟨bx, rfl, rfl⟩
  refine range_rule (α := List UInt8) (ι := RlS) (κ := Int) g rfl (cv := [.pointer (some ⟨bx, 0, none⟩)]) rfl (by kernel_rfl) 5 (Nat.le_refl 5)
    (fun pre i => (∀ r ∈ i.rs, r.Ok) ∧ i.rs.length ≤ pre.length) (fun i => [⟨4, ty_ptr_rule_Policy, [.p 3 0]⟩, ⟨3, ty_rule_Policy, [.v (.slice i.A i.rs.length i.c)]⟩, ⟨2, ty_api_Errno, [.v (.int .i64 0)]⟩, ⟨1, ty_int, [.v (.int .i64 0)]⟩, ⟨0, ty_ptr_rule_Policy, [.v (.pointer none)]⟩]) (fun i => [rulF i.A i.rs i.c]) (fun i => ⟨rfl, trivial⟩)
    (fun e pre n => e = .ret) (fun n => [⟨2, ty_api_Errno, [.v (.int .i64 4)]⟩, ⟨1, ty_int, [.v (.int .i64 n)]⟩, ⟨0, ty_ptr_rule_Policy, [.v (.pointer none)]⟩]) (fun _ => []) (fun i => trivial)
    [bkF bx ty_string [.string (mkS s)]] [mlF] [mlF, namF, errF 6, errF 7, powF] ⟨rfl, trivial⟩ (fun g h => by simp only [List.mem_cons, List.not_mem_nil, or_false] at h; rcases h with rfl | rfl | rfl | rfl | rfl <;> rfl) ⟨none, 0, []⟩ ⟨fun r h => (by cases h), Nat.le_refl _⟩ (fun β w hs => ⟨β, Agr.refl _ _, by
      have h1 := hs.nilRow ty_rule_Rule 6
      exact (h1.sub 2 rfl rfl mlF rfl (h1.get 2 rfl) (fun k hk => hk)).perm [2, 0, 1, 3, 4, 5, 6, 7]⟩) (insRl s.length)
    (fun xs Fs' => Fs' = []) (fun pre Fs' => Fs' = [])
    (fun l w f0 R J Jx hJ0 hJo hRo hY hm => (polLines_it l w bx s hs f0 R J Jx hJ0 hJo hRo hY hm).mono fun _ Fs h => h) ?_ ?_ ?_
  · rintro ⟨A, c, rs⟩ pre x args X W S l bs pn pn' hbs ⟨hro, hrn⟩ ⟨rfl, rfl, hx, hp⟩
    simp only at hro hrn
    have e1 : (pre ++ [x]).length = pre.length + 1 := by rw [List.length_append]; rfl
    refine ⟨_, rfl, ?_⟩
    refine BIf.dec (fun _ => ?_) (fun _ => ?_)
    · exact ⟨⟨A, c, rs⟩, ⟨hro, by rw [e1]; show rs.length ≤ _; omega⟩, Ent.mk' trivial rfl (fun β w hs => (hs.perm [1]).lower (n' := 5))⟩
    refine call_pu (v := .bool (_root_.Go.Lib.hasPrefix x [35])) (fun β w' hs' => hasH_c w' (mkS x) _ rfl) ?_
    refine BIf.mk (fun _ => ?_) (fun _ => ?_)
    · exact ⟨⟨A, c, rs⟩, ⟨hro, by rw [e1]; show rs.length ≤ _; omega⟩, Ent.mk' trivial rfl (fun β w hs => (hs.perm [1]).lower (n' := 5))⟩
    refine call_con [] (fun β w' hs => polLine_c w' x (by omega) (hs.mem.take (js := [3, 2, 4, 5, 6]) rfl)) ?_
    rintro v Fs ⟨⟨r, b1, rfl, hr⟩, rfl⟩
    cases b1 with
    | false =>
      exact ⟨((pre.length + 1 : Nat) : Int), rfl, Ent.mk' trivial rfl (fun β w hs => ((hs.keepB (((List.Sublist.refl _).cons _).cons _ |>.cons _)).perm []).lower (n' := 5))⟩
    | true =>
      refine draw_rule (rcx_good g) p_rule_Parse_11 (by kernel_rfl) [⟨5, ty_rule_Rule, r.vs.map SL.v⟩, ⟨4, ty_ptr_rule_Policy, [.p 3 0]⟩, ⟨3, ty_rule_Policy, [.v (.slice A rs.length c)]⟩] [] (Sub.of ((((List.nil_sublist _).cons_cons _).cons_cons _).cons_cons _) (List.nil_sublist _)) ?_
      intro b1
      refine ⟨Sub.of ((((List.nil_sublist _).cons_cons _).cons_cons _).cons_cons _) (List.nil_sublist _), ?_⟩
      have e2 : (rs ++ [r]).length = rs.length + 1 := by rw [List.length_append]; rfl
      refine ⟨2, rs.length, rs.length + 1, rs.flatMap Rul.vs, r.vs, (rs ++ [r]).flatMap Rul.vs, rfl, fun β w' hs => row_rd (hs.get 0 rfl), (fun u hu => by unfold Rul.vs at hu; simp only [List.mem_cons, List.not_mem_nil, or_false] at hu; rcases hu with rfl | rfl | rfl | rfl | rfl | rfl <;> rfl), rfl, by simp, by omega, by show (rs.length + 1) * 72 ≤ _; omega, ?_⟩
      intro A2 c2 p2 _ h2
      rw [← e2] at p2 ⊢
      refine ⟨Sub.of ((((List.nil_sublist _).cons_cons _).cons_cons _).cons_cons _) (List.nil_sublist _), ?_⟩
      refine ⟨Sub.of ((((List.nil_sublist _).cons_cons _).cons_cons _).cons_cons _) (List.nil_sublist _), ?_⟩
      exact ⟨⟨A2, c2, rs ++ [r]⟩, ⟨fun y hy => (List.mem_append.1 hy).elim (hro y) (fun h => by obtain rfl := List.mem_singleton.1 h; exact hr), by rw [e1]; show (rs ++ [r]).length ≤ _; omega⟩, Ent.mk' trivial rfl (fun β w hs => ((hs.keepB (List.sublist_cons_self _ _)).perm [2]).lower (n' := 5))⟩
  · rintro xs ⟨A, c, rs⟩ Fs ⟨hro, hrn⟩ rfl
    refine BIf.dec (fun _ => ?_) (fun h32 => ?_)
    · intro β w' hs
      exact (hs.keepB (List.nil_sublist _)).fin [] (.inr ⟨_, 8, by decide, by decide, rfl, rfl⟩) rfl rfl rfl ⟨⟩
    · have h32 : ¬ 32 < rs.length := fun h => h32 (by show (32 : Int) < (rs.length : Int); omega)
      intro β w' hs
      exact ((hs.keepB ((((List.nil_sublist _).cons _).cons _ |>.cons _).cons_cons _ |>.cons _)).ofBk).fin [0, 1] (.inl ⟨_, ⟨A, c, rs⟩, ⟨hro, by show rs.length ≤ 32; omega⟩, rfl, rfl⟩) rfl rfl rfl ⟨rfl, rfl, trivial⟩
  · rintro e pre n Fs rfl rfl
    intro β w' hs
    exact (hs.keepB (List.nil_sublist _)).fin [] (.inr ⟨n, 4, by decide, by decide, rfl, rfl⟩) rfl rfl rfl ⟨⟩
end Go.Proofs.YteenjgfbbkdlhaaGreatDoor.Sx

namespace Go.Proofs.YteenjgfbbkdlhaaGreatDoor.Sx
open Go
def roX (f : Fact) : Fact := ⟨false, f.D, f.p, f.st⟩
theorem Sat.asRo {cx : Cx} {β : Va} {n : Nat} {H : List Bk} {F : List Fact} {w : World} (h : Sat cx β n H F w) (j : Nat) {f : Fact} (hj : nth F j = some f) (ho : f.own = true := by rfl) : Sat cx β n H (putAt F j (roX f)) w :=
  h.upd hj ho (Chg.refl _ _) (show f.p w from h.get j hj) (fun _ hk => .inl hk)
theorem BIf.yes {P Q : Prop} {b : Bool} (hb : b = true) (h : P) : BIf P Q b := by subst hb; exact h
theorem BIf.no {P Q : Prop} {b : Bool} (hb : b = false) (h : Q) : BIf P Q b := by subst hb; exact h
end Go.Proofs.YteenjgfbbkdlhaaGreatDoor.Sx

namespace Go.Proofs.YteenjgfbbkdlhaaGreatDoor.Sx
open Go
attribute [local irreducible] Calls
structure RKey where
  e : Nat
  A : Option Addr
  c : Nat
  p : List UInt8
structure Rg where
  b : Nat
  bx : Nat
  mA : Option Addr
  mc : Nat
  master : List UInt8
  room : Nat
  m : Nat
  ks : List RKey
  epoch : Nat
def RKey.v (k : RKey) : Value := .slice k.A k.p.length k.c
def RKey.f (k : RKey) : Fact := browF ty_uint8 k.A k.p k.c
def Rg.vs (r : Rg) : List Value := [.pointer (some ⟨r.bx, 0, none⟩), .slice r.mA r.master.length r.mc, .int .i64 (r.room : Int), .map (some r.m), .int .u64 (r.epoch : Int)]
def Rg.ml (r : Rg) : MLI := r.ks.map fun k => ((k.e : Int), k.v)
def rgF (r : Rg) : Fact := sepF [bkF r.b ty_ring_Ring r.vs, browF ty_uint8 r.mA r.master r.mc, mapIF .u64 r.m r.ml, sepF (r.ks.map RKey.f)]
theorem rg_bk {r : Rg} {w : World} (h : (rgF r).p w) : (bkF r.b ty_ring_Ring r.vs).p w := h.1 _ (by simp)
theorem rg_map {r : Rg} {w : World} (h : (rgF r).p w) : mapIP .u64 r.m r.ml w := h.1 (mapIF .u64 r.m r.ml) (by simp)
def ptrR (b : Nat) : Value := .pointer (some ⟨b, 0, none⟩)
theorem cell_bk {b ty : Nat} {cs : List Value} {w : World} (h : (bkF b ty cs).p w) {o : Nat} {v : Value} (ho : cs[o]? = some v) : w.cell? ⟨b, o, none⟩ = some v := by
  have hb : w.heap[b]? = some (.cells cs.toArray ty (0, 0)) := h
  rw [cell_of_row w b o _ _ _ hb]
  simpa using ho
def Rg.es (r : Rg) : List Int := r.ks.map fun k => (k.e : Int)
theorem Rg.ml_es (r : Rg) : r.ml.map (·.1) = r.es := by simp [Rg.ml, Rg.es]
def onFst {α β : Type} (pre : List α) (a b : β) : β := match pre with | [] => a | _ :: _ => b
def insE (r : Rg) (L : List Int) (pre : List Int) (x : Int) (args : Array Value) (X : Fact) : Prop :=
  args = #[.int .u64 x] ∧ X = onFst pre (rgF r) noF ∧ L[pre.length]? = some x
def Rg.rise (r : Rg) : List Int := r.es.mergeSort fun x y => decide (x ≤ y)
theorem rise_of {r : Rg} {l : List Int} (h : l.Perm r.es) (hs : l.Pairwise (· ≤ ·)) : l = r.rise := by
  have h2 := List.pairwise_mergeSort (le := fun x y : Int => decide (x ≤ y)) (fun a b c p q => by simp only [decide_eq_true_eq] at *; omega) (fun a b => by simp only [Bool.or_eq_true, decide_eq_true_eq]; omega) r.es
  refine List.Perm.eq_of_pairwise (le := fun x y => x ≤ y) (fun a b _ _ p q => by omega) hs (h2.imp fun p => of_decide_eq_true p) (h.trans (List.mergeSort_perm _ _).symm)
theorem ep_it (l : Nat) (w : World) (bx : Nat) (r : Rg) (f0 R : Fact) (J Jx : List Int → Fact → Prop) (hL : r.ks.length ≤ 12) (hJ0 : J [] f0) (hJo : ∀ pre f, J pre f → f.own = true) (hRo : R.own = false) (hY : Yc Tryz.prog l J Jx R (insE r r.rise))
    (hm : Mem w (f0 :: R :: [bkF bx ty_ptr_ring_Ring [ptrR r.b], rgF r])) :
    Con Tryz.prog n_ring_Ring_Epochs_1 #[.func (.yield l) #[] #[], .pointer (some ⟨bx, 0, none⟩)] w [f0, bkF bx ty_ptr_ring_Ring [ptrR r.b], rgF r]
      (fun _ Fs => ∃ f Fs', Fs = f :: Fs' ∧ ((∃ xs, J xs f ∧ xs = r.rise ∧ Fs' = onFst r.rise [rgF r] []) ∨ (∃ pre, Jx pre f ∧ Fs' = []))) := by
  have g := good_ring_Ring_Epochs_1 w (Un [f0, bkF bx ty_ptr_ring_Ring [ptrR r.b], rgF r]) [bx]
  have hs0 : Sat (cx_ring_Ring_Epochs_1 w (Un [f0, bkF bx ty_ptr_ring_Ring [ptrR r.b], rgF r]) [bx]) (Va.of fun _ => bx) 1 [] (f0 :: R :: [bkF bx ty_ptr_ring_Ring [ptrR r.b], rgF r]) w := by
    refine hm.sat rfl (fun f hf ho k hk => ?_) ⟨Nat.le_refl 1, fun i hi => by obtain rfl : i = 0 := Nat.lt_one_iff.1 hi; rfl⟩
    simp only [List.mem_cons, List.not_mem_nil, or_false] at hf
    rcases hf with rfl | rfl | rfl | rfl
    · exact ⟨_, by simp, hk⟩
    · rw [hRo] at ho; cases ho
    · exact ⟨bkF bx ty_ptr_ring_Ring [ptrR r.b], by simp, hk⟩
    · exact ⟨rgF r, by simp, hk⟩
  have hs1 := ((hs0.toBk 2 rfl 0 Nat.zero_lt_one rfl).unsep 2 rfl)
  refine con_of_sx (cx := cx_ring_Ring_Epochs_1 w (Un [f0, bkF bx ty_ptr_ring_Ring [ptrR r.b], rgF r]) [bx]) g b_ring_Ring_Epochs_1 rfl rfl (β := Va.of fun _ => bx) [.c (.v (.func (.yield l) #[] #[])), .c (.p 0 0)] 1 _ _ rfl rfl hs1 ?_
  have hml : r.ml.length = r.ks.length := by rw [Rg.ml, List.length_map]
  refine ⟨.map (some r.m), fun β w' hs => cell_bk (hs.get 0 rfl) (o := 3) rfl, ?_⟩
  refine call_con [] (fun β w' hs => keysI_c w' (some r.m)) ?_
  rintro v Fs ⟨B, rfl, rfl⟩
  refine call_conS [0, 3] (fun β w' hs => sortedN_c w' _ B _ _ _ _ r.ml.length _ (by kernel_rfl) rfl rfl (by omega) (keysI_gives B r.m r.ml) (hs.mem.take (js := [0, 3]) rfl)) ?_
  rintro v Fs ⟨A, c, L, rfl, ⟨l0, hp0, hp1⟩, hLl, hris, hA0, rfl⟩
  have hLr : L = r.rise := rise_of ((hp1.trans hp0).trans (by rw [Rg.ml_es])) hris
  subst hLr
  refine ⟨_, _, fun β w' hs => (hs.sep [2, 3, 1, 4] rfl ⟨rfl, rfl, rfl, rfl, trivial⟩).perm [1, 2, 3, 0], ?_⟩
  generalize hN : r.rise = L at *
  have hL12 : L.length ≤ 12 := by omega
  refine loop_rule (ι := List Int × Fact) 1 (fun i => [(0, .c (.v (.func (.yield l) #[] #[]))), (1, .c (.p 0 0)), (12, .c (.v (.slice A L.length c))), (13, .c (.v (.int .i64 (L.length : Int)))), (14, .c (.v (.int .i64 (i.1.length : Int))))]) (fun _ => [⟨0, ty_ptr_ring_Ring, [.v (ptrR r.b)]⟩]) (fun i => urowF A L c :: i.2 :: R :: onFst i.1 [rgF r] [])
    (fun i => J i.1 i.2 ∧ i.1 = L.take i.1.length ∧ i.1.length ≤ L.length) (fun i => L.length - i.1.length) ([], f0) ⟨hJ0, rfl, Nat.zero_le _⟩ (Ent.same ⟨rfl, rfl, rfl, rfl, rfl, trivial⟩ rfl) g ?_
  rintro ⟨pre, f⟩ ⟨hJ, hpre, hi⟩
  simp only at hJ hpre hi
  have hfo := hJo _ _ hJ
  simp only
  refine BIf.dec (fun hlt => ?_) (fun hge => ?_)
  · have hlt0 : (pre.length : Int) < L.length := hlt
    have hkl : pre.length < L.length := by omega
    obtain ⟨x, hx, _⟩ := at_lt hkl
    obtain ⟨ad, hAd⟩ := hA0 (by omega)
    have hnext : pre ++ [x] = L.take (pre ++ [x]).length := by
      have e : (pre ++ [x]).length = pre.length + 1 := by rw [List.length_append]; rfl
      rw [e, List.take_add_one, hx, ← hpre]
      rfl
    have e : (pre ++ [x]).length = pre.length + 1 := by rw [List.length_append]; rfl
    refine ⟨ad, pre.length, hAd, rfl, hkl, .int .u64 x, fun β w' hs => ?_, ?_⟩
    · have h := row_rd (hs.get 0 rfl)
      rw [hAd] at h
      exact Rd.cell1 h (by simp [hx])
    cases pre with
    | nil =>
      refine yield_own (X := rgF r) (x := x) hY 1 2 3 rfl hJ hfo rfl rfl rfl (by decide) (by decide) (by decide) (fun β => ⟨rfl, rfl, hx⟩) ?_ ?_
      · intro f2 hfo2 hJ2
        refine ⟨1, by rw [wrap_i64 (by omega) (by omega)]; rfl, ?_⟩
        refine ⟨([x], f2), ⟨hJ2, hnext, by show 1 ≤ L.length; exact hkl⟩, by show L.length - 1 < L.length - 0; have : 0 < L.length := hkl; omega, ?_⟩
        exact Ent.mk' ⟨rfl, rfl, rfl, rfl, rfl, trivial⟩ rfl (fun β w' hs => hs.perm [1, 0, 2])
      · intro f2 hfo2 hJ2 β w' hs
        exact (hs.keepB (List.nil_sublist _)).fin [0] ⟨f2, _, rfl, .inr ⟨_, hJ2, rfl⟩⟩ rfl rfl rfl ⟨hfo2, trivial⟩
    | cons y ys =>
      refine yield_ro (X := noF) (x := x) hY 1 2 rfl hJ hfo rfl hRo (by decide) (fun β => ⟨rfl, rfl, hx⟩) rfl (fun β w _ => ⟨trivial, fun k hk => hk.elim, fun k _ h => h.elim⟩) ?_ ?_
      · intro f2 hfo2 hJ2
        refine ⟨(((y :: ys).length + 1 : Nat) : Int), by rw [wrap_i64 (by omega) (by omega)]; rfl, ?_⟩
        refine ⟨(y :: ys ++ [x], f2), ⟨hJ2, hnext, by show (y :: ys ++ [x]).length ≤ _; rw [e]; omega⟩, by show L.length - (y :: ys ++ [x]).length < L.length - (y :: ys).length; rw [e]; omega, ?_⟩
        simp only [e]
        exact Ent.mk' ⟨rfl, rfl, rfl, rfl, rfl, trivial⟩ rfl (fun β w' hs => hs.perm [1, 0, 2])
      · intro f2 hfo2 hJ2 β w' hs
        exact (hs.keepB (List.nil_sublist _)).fin [0] ⟨f2, _, rfl, .inr ⟨_, hJ2, rfl⟩⟩ rfl rfl rfl ⟨hfo2, trivial⟩
  · have hge0 : ¬ (pre.length : Int) < L.length := hge
    have hpl : pre = L := by rw [hpre, List.take_of_length_le (by omega)]
    subst hpl
    cases pre with
    | nil =>
      intro β w' hs
      exact (hs.keepB (List.nil_sublist _)).fin [1, 3] ⟨f, _, rfl, .inl ⟨[], hJ, rfl, rfl⟩⟩ rfl rfl rfl ⟨hfo, rfl, trivial⟩
    | cons y ys =>
      intro β w' hs
      exact (hs.keepB (List.nil_sublist _)).fin [1] ⟨f, _, rfl, .inl ⟨_, hJ, rfl, rfl⟩⟩ rfl rfl rfl ⟨hfo, trivial⟩
def insRu (rs : List Rul) (pre : List Rul) (x : Rul) (args : Array Value) (X : Fact) : Prop := args = #[.int .i64 (pre.length : Int), .agg x.vs.toArray] ∧ X = noF ∧ x ∈ rs ∧ pre.length < rs.length
def ruEnd (J Jx : List Rul → Fact → Prop) (Fs : List Fact) : Prop :=
  ∃ f Fs', Fs = f :: Fs' ∧ ((∃ xs, J xs f ∧ Fs' = []) ∨ (∃ pre, Jx pre f ∧ Fs' = []))
theorem polRules_c (w : World) (b : Nat) : Con Tryz.prog n_rule_Policy_Rules #[.pointer (some ⟨b, 0, none⟩)] w [] (fun v Fs => ∃ bx, v = .func (.func n_rule_Policy_Rules_1) #[] #[.pointer (some ⟨bx, 0, none⟩)] ∧ Fs = [bkF bx ty_ptr_rule_Policy [.pointer (some ⟨b, 0, none⟩)]]) := by
  refine con_of_sx (cx := cx_rule_Policy_Rules w (Un [])) (good_rule_Policy_Rules w (Un [])) b_rule_Policy_Rules rfl rfl (β := Va.z) [.c (.v (.pointer (some ⟨b, 0, none⟩)))] 0 [] [] rfl rfl (Sat.start rfl) ?_
  intro β w' hs
  exact hs.ofBk.fin [0] ⟨β 0, rfl, rfl⟩
theorem rul_at {w : World} {A : Option Addr} {ad : Addr} {cs : List Rul} {c : Nat} (h : (roX (rulF A cs c)).p w) (hA : A = some ad) {k : Nat} {x : Rul} (hc : cs[k]? = some x) : ∀ j u, x.vs[j]? = some u → w.cell? ((ad.add (k * 6)).add j) = some u := by
  obtain ⟨hil, hie⟩ := List.getElem?_eq_some_iff.1 hc
  have h2 := Rd.elem (f := Rul.vs) (fun _ => rfl) (row_rd (show w.ownsRow 0 _ 6 (.slice A cs.length c) cs.length (cs.flatMap Rul.vs) from h)) hA hil
  rw [hie] at h2
  exact h2
theorem polRules_it (l : Nat) (w : World) (bx b : Nat) (i : RlS) (hn : i.rs.length ≤ 100000) (f0 R : Fact) (J Jx : List Rul → Fact → Prop) (hJ0 : J [] f0) (hJo : ∀ pre f, J pre f → f.own = true) (hRo : R.own = false) (hY : Yc Tryz.prog l J Jx R (insRu i.rs))
    (hm : Mem w (f0 :: R :: [bkF bx ty_ptr_rule_Policy [.pointer (some ⟨b, 0, none⟩)], roX (bkF b ty_rule_Policy [.slice i.A i.rs.length i.c]), roX (rulF i.A i.rs i.c)])) :
    Con Tryz.prog n_rule_Policy_Rules_1 #[.func (.yield l) #[] #[], .pointer (some ⟨bx, 0, none⟩)] w [f0, bkF bx ty_ptr_rule_Policy [.pointer (some ⟨b, 0, none⟩)]] (fun _ Fs => ruEnd J Jx Fs) := by
  have g := good_rule_Policy_Rules_1 w (Un [f0, bkF bx ty_ptr_rule_Policy [.pointer (some ⟨b, 0, none⟩)]]) [bx]
  have hs0 : Sat (cx_rule_Policy_Rules_1 w (Un [f0, bkF bx ty_ptr_rule_Policy [.pointer (some ⟨b, 0, none⟩)]]) [bx]) (Va.of fun _ => bx) 1 [] (f0 :: R :: [bkF bx ty_ptr_rule_Policy [.pointer (some ⟨b, 0, none⟩)], roX (bkF b ty_rule_Policy [.slice i.A i.rs.length i.c]), roX (rulF i.A i.rs i.c)]) w := by
    refine hm.sat rfl (fun f hf ho k hk => ?_) ⟨Nat.le_refl 1, fun i hi => by obtain rfl : i = 0 := Nat.lt_one_iff.1 hi; rfl⟩
    simp only [List.mem_cons, List.not_mem_nil, or_false] at hf
    rcases hf with rfl | rfl | rfl | rfl | rfl
    · exact ⟨_, by simp, hk⟩
    · rw [hRo] at ho; cases ho
    · exact ⟨bkF bx ty_ptr_rule_Policy [.pointer (some ⟨b, 0, none⟩)], by simp, hk⟩
    · cases ho
    · cases ho
  have hs1 := hs0.toBk 2 rfl 0 Nat.zero_lt_one rfl
  refine con_of_sx (cx := cx_rule_Policy_Rules_1 w (Un [f0, bkF bx ty_ptr_rule_Policy [.pointer (some ⟨b, 0, none⟩)]]) [bx]) g b_rule_Policy_Rules_1 rfl rfl (β := Va.of fun _ => bx) [.c (.v (.func (.yield l) #[] #[])), .c (.p 0 0)] 1 _ _ rfl rfl hs1 ?_
  have hrd : (roX (rulF i.A i.rs i.c)).p w := hm.fact _ (by simp)
  have hA : 0 < i.rs.length → ∃ ad, i.A = some ad := fun h => by
    obtain ⟨ad, q, _⟩ := (row_rd (show w.ownsRow 0 _ 6 (.slice i.A i.rs.length i.c) i.rs.length (i.rs.flatMap Rul.vs) from hrd)).2 h
    exact ⟨ad, q⟩
  refine ⟨_, fun β w' hs => cell_bk (show (bkF b ty_rule_Policy [.slice i.A i.rs.length i.c]).p w' from (hs.get 2 rfl : (roX (bkF b ty_rule_Policy [.slice i.A i.rs.length i.c])).p w')) (o := 0) rfl, ?_⟩
  refine loop_rule (ι := List Rul × Fact) 1 (fun j => [(0, .c (.v (.func (.yield l) #[] #[]))), (10, .c (.v (.slice i.A i.rs.length i.c))), (11, .c (.v (.int .i64 (i.rs.length : Int)))), (12, .c (.v (.int .i64 (j.1.length : Int))))]) (fun j => []) (fun j => [j.2, R, roX (bkF b ty_rule_Policy [.slice i.A i.rs.length i.c]), roX (rulF i.A i.rs i.c)])
    (fun j => J j.1 j.2 ∧ j.1.length ≤ i.rs.length) (fun j => i.rs.length - j.1.length) ([], f0) ⟨hJ0, Nat.zero_le _⟩ (Ent.mk' ⟨rfl, rfl, rfl, rfl, trivial⟩ rfl (fun β w' hs => hs.keepB (List.nil_sublist _))) g ?_
  rintro ⟨pre, f⟩ ⟨hJ, hi⟩
  simp only at hJ hi
  have hfo := hJo _ _ hJ
  simp only
  refine BIf.dec (fun hlt => ?_) (fun hge => ?_)
  · have hlt : pre.length < i.rs.length := by have h0 : (pre.length : Int) < (i.rs.length : Int) := hlt; omega
    obtain ⟨x, hx, hxm⟩ := at_lt (l := i.rs) (k := pre.length) hlt
    obtain ⟨ad, hAd⟩ := hA (by omega)
    refine ⟨_, pre.length, hAd, rfl, by omega, ?_⟩
    refine ⟨x.vs, rfl, fun β w' hs => rul_at (hs.get 3 rfl) hAd hx, ?_⟩
    refine yield_ro (X := noF) (x := x) hY 0 1 rfl hJ hfo rfl hRo (by decide) (fun β => ⟨rfl, rfl, hxm, hlt⟩) rfl (fun β w _ => ⟨trivial, fun k hk => hk.elim, fun k _ h => h.elim⟩) ?_ ?_
    · intro f2 hfo2 hJ2
      refine ⟨(((pre.length + 1) : Nat) : Int), by rw [wrap_i64 (by omega) (by omega)]; rfl, ?_⟩
      have e : (pre ++ [x]).length = pre.length + 1 := by rw [List.length_append]; rfl
      refine ⟨(pre ++ [x], f2), ⟨hJ2, by show (pre ++ [x]).length ≤ _; omega⟩, by show i.rs.length - (pre ++ [x]).length < i.rs.length - pre.length; omega, ?_⟩
      simp only [e]
      exact Ent.mk' ⟨rfl, rfl, rfl, rfl, trivial⟩ rfl (fun β w' hs => (hs.keepB (List.nil_sublist _)).lower)
    · intro f2 hfo2 hJ2
      intro β w' hs
      exact (hs.keepB (List.nil_sublist _)).fin [0] ⟨f2, _, rfl, .inr ⟨_, hJ2, rfl⟩⟩ rfl rfl rfl ⟨hfo2, trivial⟩
  · intro β w' hs
    exact (hs.keepB (List.nil_sublist _)).fin [0] ⟨f, _, rfl, .inl ⟨pre, hJ, rfl⟩⟩ rfl rfl rfl ⟨hfo, trivial⟩
theorem nl_app (s : ByteArray) : s ++ ⟨#[10]⟩ = mkS (s.data.toList ++ [10]) := by
  obtain ⟨⟨l⟩⟩ := s
  apply ByteArray.ext
  simp [mkS]
structure PtS where
  p : Value
  A : Option Addr
  c : Nat
  l : List UInt8
theorem polText_c (w : World) (b : Nat) (i : RlS) (hok : RlS.Ok i 32) (hm : Mem w [roX (bkF b ty_rule_Policy [.slice i.A i.rs.length i.c]), roX (rulF i.A i.rs i.c), namF, powF]) :
    Con Tryz.prog n_rule_Policy_Text #[.pointer (some ⟨b, 0, none⟩)] w [] fun v Fs => (∃ s : ByteArray, v = .string s) ∧ Fs = [] := by
  have g := good_rule_Policy_Text w (Un [])
  have hml := maxLen_eq
  refine con_go (cx := cx_rule_Policy_Text w (Un [])) g b_rule_Policy_Text [.c (.v (.pointer (some ⟨b, 0, none⟩)))] [roX (bkF b ty_rule_Policy [.slice i.A i.rs.length i.c]), roX (rulF i.A i.rs i.c), namF, powF] hm ?_
  refine call_con [] (fun β w' hs => polRules_c w' b) ?_
  rintro v Fs ⟨bx, rfl, rfl⟩
  refine reify_rule g 0 (fun _ => [.pointer none, .slice none 0 0]) rfl rfl (fun _ => rfl) (fun bb => ?_)
  refine range_rule (α := Rul) (ι := PtS) (κ := Unit) g rfl (cv := [.pointer (some ⟨bx, 0, none⟩)]) rfl (by kernel_rfl) 1 (Nat.le_refl 1)
    (fun pre j => pre.length ≤ i.rs.length ∧ j.l.length ≤ pre.length * 400001 ∧ (j.p = .pointer none ∨ j.p = selfV bb) ∧ (j.l = [] → j.A = none)) (fun j => []) (fun j => bldF bb j.p j.A j.l j.c) (fun i => ⟨rfl, rfl, trivial⟩)
    (fun _ _ _ => False) (fun _ => []) (fun _ => []) (fun _ => trivial)
    [bkF bx ty_ptr_rule_Policy [.pointer (some ⟨b, 0, none⟩)]] [roX (bkF b ty_rule_Policy [.slice i.A i.rs.length i.c]), roX (rulF i.A i.rs i.c)] [namF, powF] ⟨rfl, trivial⟩ (fun g h => by simp only [List.mem_cons, List.not_mem_nil, or_false] at h; rcases h with rfl | rfl <;> rfl) ⟨.pointer none, none, 0, []⟩ ⟨Nat.zero_le _, Nat.zero_le _, .inl rfl, fun _ => rfl⟩
    (fun β w hs => ⟨β, Agr.refl _ _, (hs.nilRow ty_uint8 1).perm [2, 3, 4, 1, 0, 5, 6]⟩) (insRu i.rs)
    (fun xs Fs' => Fs' = []) (fun _ Fs' => Fs' = [])
    (fun l w f0 R J Jx hJ0 hJo hRo hY hm => (polRules_it l w bx b i (by have := hok.b; omega) f0 R J Jx hJ0 hJo hRo hY hm).mono fun _ Fs h => h) ?_ ?_ ?_
  · rintro ⟨p, A, c, l⟩ pre x args X W S lb bs pn pn' hbs ⟨hp1, hp2, hp3, hp4⟩ ⟨rfl, rfl, hx, hlt⟩
    simp only at hp2 hp3 hp4
    refine ⟨_, rfl, ?_⟩
    have hxo := hok.a x hx
    refine call_con [] (fun β w' hs => ruleText_c w' x hxo (hs.mem.take (js := [3, 4]) rfl)) ?_
    rintro v Fs ⟨⟨s, e, rfl, hsz⟩, rfl⟩
    have hb := hok.b
    refine ⟨by show s.size + 1 ≤ maxLen; omega, ?_⟩
    rw [show s ++ ⟨#[10]⟩ = mkS (s.data.toList ++ [10]) from nl_app s]
    have hsl : s.data.toList.length ≤ 400000 := hsz
    refine call_con [1, 2] (fun β w' hs => writeStr_c w' bb p A l c (s.data.toList ++ [10]) hp3 (by omega) (by rw [List.length_append]; show s.data.toList.length + 1 ≤ _; omega) (hs.mem.take (js := [1, 2]) rfl)) ?_
    rintro v Fs ⟨rfl, A', c', rfl⟩
    have e1 : (pre ++ [x]).length = pre.length + 1 := by rw [List.length_append]; rfl
    exact ⟨⟨selfV bb, A', c', l ++ (s.data.toList ++ [10])⟩, ⟨by omega, by show (l ++ (s.data.toList ++ [10])).length ≤ _; rw [List.length_append, List.length_append, e1]; show l.length + (s.data.toList.length + 1) ≤ _; omega, .inr rfl, fun h => by simp at h⟩, Ent.mk' trivial rfl (fun β w' hs => ((hs.keepB (List.nil_sublist _)).perm [0, 1]).lower (n' := 1))⟩
  · rintro xs ⟨p, A, c, l⟩ Fs ⟨hp1, hp2, hp3, hp4⟩ rfl
    simp only at hp2 hp3 hp4
    by_cases hl : l = []
    · subst hl
      obtain rfl := hp4 rfl
      refine call_con [0] (fun β w' hs => text0_c w' bb p c (hs.mem.take (js := [0]) rfl)) ?_
      rintro v Fs ⟨rfl, rfl⟩
      intro β w' hs
      exact (hs.keepB (List.nil_sublist _)).fin [] ⟨⟨_, rfl⟩, rfl⟩ rfl rfl rfl ⟨⟩
    · refine call_con [0, 1] (fun β w' hs => text_c w' bb p A l c hl (hs.mem.take (js := [0, 1]) rfl)) ?_
      rintro v Fs ⟨rfl, rfl⟩
      intro β w' hs
      exact (hs.keepB (List.nil_sublist _)).fin [] ⟨⟨_, rfl⟩, rfl⟩ rfl rfl rfl ⟨⟩
  · rintro e pre ⟨⟩ Fs ⟨⟩
theorem tabN_c (w : World) (n : Int) (h1 : 1 ≤ n) (h2 : n ≤ 4096) : Con Tryz.prog n_table_New_nonce_Entry #[.int .i64 n] w [] fun v Fs => ∃ b, v = .tuple #[.pointer (some ⟨b, 0, none⟩), .int .i64 0] ∧ Fs = [] := by
  have g := good_table_New_nonce_Entry w (Un [])
  refine con_of_sx (cx := cx_table_New_nonce_Entry w (Un [])) g b_table_New_nonce_Entry rfl rfl (β := Va.z) [.c (.v (.int .i64 n))] 0 [] [] rfl rfl (Sat.start rfl) ?_
  refine BIf.dec (fun h => absurd (show n < 1 from h) (by omega)) (fun _ => ?_)
  refine BIf.dec (fun h => absurd (show n > 4096 from h) (by omega)) (fun _ => ?_)
  intro b1 β w' hs
  exact hs.fin [] ⟨β 0, rfl, rfl⟩
theorem tabG_c (w : World) (n : Int) (h1 : 1 ≤ n) (h2 : n ≤ 4096) : Con Tryz.prog n_table_New_guard_Entry #[.int .i64 n] w [] fun v Fs => ∃ b, v = .tuple #[.pointer (some ⟨b, 0, none⟩), .int .i64 0] ∧ Fs = [] := by
  have g := good_table_New_guard_Entry w (Un [])
  refine con_of_sx (cx := cx_table_New_guard_Entry w (Un [])) g b_table_New_guard_Entry rfl rfl (β := Va.z) [.c (.v (.int .i64 n))] 0 [] [] rfl rfl (Sat.start rfl) ?_
  refine BIf.dec (fun h => absurd (show n < 1 from h) (by omega)) (fun _ => ?_)
  refine BIf.dec (fun h => absurd (show n > 4096 from h) (by omega)) (fun _ => ?_)
  intro b1 β w' hs
  exact hs.fin [] ⟨β 0, rfl, rfl⟩
theorem nonNew_c (w : World) (n : Int) (h1 : 1 ≤ n) (h2 : n ≤ 64) : Con Tryz.prog n_nonce_New #[.agg #[.int .i64 n, .int .u64 100]] w [] fun v Fs => ∃ b, v = .tuple #[.pointer (some ⟨b, 0, none⟩), .int .i64 0] ∧ Fs = [] := by
  have g := good_nonce_New w (Un [])
  refine con_of_sx (cx := cx_nonce_New w (Un [])) g b_nonce_New rfl rfl (β := Va.z) [.agg [.v (.int .i64 n), .v (.int .u64 100)]] 0 [] [] rfl rfl (Sat.start rfl) ?_
  refine BIf.dec (fun h => absurd (show n < 1 from h) (by omega)) (fun _ => ?_)
  refine BIf.dec (fun h => absurd (show n > 64 from h) (by omega)) (fun _ => ?_)
  refine call_con [] (fun β w' hs => tabN_c w' n h1 (by omega)) ?_
  rintro v Fs ⟨b, rfl, rfl⟩
  intro β w' hs
  exact hs.fin [] ⟨β 1, rfl, rfl⟩
theorem ticks_c (w : World) (A : Option Addr) (c : Nat) (hr : Rd 1 A 3 [.int .u64 2, .int .u64 100, .int .u64 50] w) : Pu Tryz.prog n_guard_ticks #[.slice A 3 c] w (.bool true) := by
  have g := good_guard_ticks w (Un [])
  refine con_of_sx (cx := cx_guard_ticks w (Un [])) g b_guard_ticks rfl rfl (β := Va.z) [.c (.v (.slice A 3 c))] 0 [] [oldF w] rfl rfl (old_sat rfl) ?_
  obtain ⟨ad, hA, _⟩ := hr.2 (by decide)
  refine loop_rule 0 (fun k : Nat => [(5, .c (.v (.slice A 3 c))), (6, .c (.v (.int .i64 3))), (7, .c (.v (.int .i64 (k : Int))))]) (fun _ => []) (fun _ => [oldF w]) (fun k => k ≤ 3) (fun k => 3 - k) 0 (Nat.zero_le _) (Ent.same ⟨rfl, rfl, rfl, trivial⟩ rfl) g ?_
  intro k hk
  refine BIf.dec (fun hlt => ?_) (fun hge => ?_)
  · have hlt0 : (k : Int) < 3 := hlt
    have hx : ∃ z : Nat, ([.int .u64 2, .int .u64 100, .int .u64 50] : List Value)[k]? = some (.int .u64 (z : Int)) ∧ 1 ≤ z ∧ z ≤ 100 := by
      have : k = 0 ∨ k = 1 ∨ k = 2 := by omega
      rcases this with rfl | rfl | rfl
      · exact ⟨2, rfl, by decide, by decide⟩
      · exact ⟨100, rfl, by decide, by decide⟩
      · exact ⟨50, rfl, by decide, by decide⟩
    obtain ⟨z, hz, hz1, hz2⟩ := hx
    refine ⟨ad, k, hA, rfl, by omega, .int .u64 (z : Int), fun β w' hs => Rd.cell1 (by have h := Rd.old hr (hs.get 0 rfl); rw [hA] at h; exact h) hz, ?_⟩
    refine BIf.dec (fun h => absurd (show (z : Int) < 1 from h) (by omega)) (fun _ => ?_)
    refine BIf.dec (fun h => absurd (show (z : Int) > 1099511627776 from h) (by omega)) (fun _ => ?_)
    refine ⟨((k + 1 : Nat) : Int), by rw [wrap_i64 (by omega) (by omega)]; rfl, ?_⟩
    exact ⟨k + 1, by omega, by omega, Ent.same ⟨rfl, rfl, rfl, trivial⟩ rfl⟩
  · intro β w' hs
    exact (hs.keepB (List.nil_sublist _)).fin [] ⟨rfl, rfl⟩
theorem grdNew_c (w : World) (n : Int) (h1 : 1 ≤ n) (h2 : n ≤ 64) : Con Tryz.prog n_guard_New #[.agg #[.int .i64 n, .int .u64 2, .int .u64 100, .int .u64 50]] w [] fun v Fs => ∃ b, v = .tuple #[.pointer (some ⟨b, 0, none⟩), .int .i64 0] ∧ Fs = [] := by
  have g := good_guard_New w (Un [])
  refine con_of_sx (cx := cx_guard_New w (Un [])) g b_guard_New rfl rfl (β := Va.z) [.agg [.v (.int .i64 n), .v (.int .u64 2), .v (.int .u64 100), .v (.int .u64 50)]] 0 [] [] rfl rfl (Sat.start rfl) ?_
  refine BIf.dec (fun h => absurd (show n < 1 from h) (by omega)) (fun _ => ?_)
  refine BIf.dec (fun h => absurd (show n > 64 from h) (by omega)) (fun _ => ?_)
  intro b1
  refine call_pu (fun β w' hs => ticks_c w' (some ⟨b1, 0, none⟩) 3 (row_rd (hs.get 0 rfl))) ?_
  refine call_con [] (fun β w' hs => tabG_c w' n h1 (by omega)) ?_
  rintro v Fs ⟨b, rfl, rfl⟩
  intro β w' hs
  exact hs.fin [] ⟨β 1, rfl, rfl⟩
def vbs : List (List UInt8 × Nat) := [([99, 111, 117, 110, 116], 0), ([103, 114, 97, 110, 116], 3), ([107, 101, 121, 45, 114, 101, 116, 105, 114, 101], 1), ([107, 101, 121, 45, 114, 111, 116, 97, 116, 101], 0), ([112, 111, 108, 105, 99, 121], 1), ([114, 101, 115, 116, 111, 114, 101], 2), ([114, 101, 118, 111, 107, 101], 2),
  ([115, 104, 111, 119, 45, 107, 101, 121, 115], 0), ([115, 104, 111, 119, 45, 112, 111, 108, 105, 99, 121], 0), ([115, 104, 111, 119, 45, 117, 115, 101, 114], 2), ([115, 111, 117, 114, 99, 101, 45, 99, 108, 101, 97, 114], 1), ([115, 119, 101, 101, 112], 0), ([116, 101, 110, 97, 110, 116, 45, 97, 100, 100], 1), ([116, 101, 110, 97, 110, 116, 45, 100, 114, 111, 112], 1),
  ([116, 105, 99, 107, 101, 116, 45, 114, 101, 118, 111, 107, 101], 1), ([117, 110, 103, 114, 97, 110, 116], 3), ([117, 115, 101, 114, 45, 97, 100, 100], 5), ([117, 115, 101, 114, 45, 100, 114, 111, 112], 2), ([117, 115, 101, 114, 45, 112, 97, 115, 115], 5)]
def vbV (v : List UInt8 × Nat) : List Value := [.string (mkS v.1), .int .i64 (v.2 : Int)]
def verbCells : List Value := vbs.flatMap vbV
theorem verb_at : ∀ (l : List (List UInt8 × Nat)) (i : Nat) (x : List UInt8 × Nat), l[i]? = some x → (((l.flatMap vbV).map SL.v).drop (i * 2)).take 2 = (vbV x).map SL.v
  | [], i, x, h => by simp at h
  | y :: r, 0, x, h => by cases h; rfl
  | y :: r, i + 1, x, h => by
    have := verb_at r i x (by simpa using h)
    rw [Nat.succ_mul]
    exact this
def verbF (g : Nat) : Fact := rdF 38 (some ⟨g, 0, none⟩) 1 verbCells
def cntE (v : List UInt8) (n : Nat) : Int := match vbs.find? (fun q => q.1 == v) with
  | some q => if q.2 = n then 0 else 1
  | none => 6
abbrev VE := List UInt8 × Nat
def insVb (pre : List VE) (x : VE) (args : Array Value) (X : Fact) : Prop := args = #[.string (mkS x.1), .int .i64 (x.2 : Int)] ∧ X = noF ∧ vbs[pre.length]? = some x
def vbEnd (J Jx : List VE → Fact → Prop) (Fs : List Fact) : Prop :=
  ∃ f Fs', Fs = f :: Fs' ∧ ((∃ xs, J xs f ∧ xs = vbs ∧ Fs' = []) ∨ (∃ pre, Jx pre f ∧ Fs' = []))
theorem verbs_it (l : Nat) (w : World) (f0 R : Fact) (J Jx : List VE → Fact → Prop) (hJ0 : J [] f0) (hJo : ∀ pre f, J pre f → f.own = true) (hRo : R.own = false) (hY : Yc Tryz.prog l J Jx R insVb)
    (hm : Mem w (f0 :: R :: [verbF 0])) :
    Con Tryz.prog n_order_Verbs_1 #[.func (.yield l) #[] #[]] w [f0] (fun _ Fs => vbEnd J Jx Fs) := by
  have g := good_order_Verbs_1 w (Un [f0])
  have hs0 : Sat (cx_order_Verbs_1 w (Un [f0])) Va.z 0 [] (f0 :: R :: [verbF 0]) w := by
    refine hm.sat0 rfl (fun f hf ho k hk => ?_)
    simp only [List.mem_cons, List.not_mem_nil, or_false] at hf
    rcases hf with rfl | rfl | rfl
    · exact ⟨_, by simp, hk⟩
    · rw [hRo] at ho; cases ho
    · cases ho
  refine con_of_sx (cx := cx_order_Verbs_1 w (Un [f0])) g b_order_Verbs_1 rfl rfl (β := Va.z) [.c (.v (.func (.yield l) #[] #[]))] 0 [] _ rfl rfl hs0 ?_
  refine ⟨verbCells, rfl, fun β w' hs => ?_, ?_⟩
  · intro j u hu
    obtain ⟨ad, q, hc⟩ := ((hs.get 2 rfl : (verbF 0).p w')).2 (by decide)
    cases q
    exact hc j u hu
  refine loop_rule (ι := List VE × Fact) 0 (fun i => [(0, .c (.v (.func (.yield l) #[] #[]))), (4, .agg (verbCells.map SL.v)), (5, .c (.v (.int .i64 (i.1.length : Int))))]) (fun _ => []) (fun i => [i.2, R, verbF 0])
    (fun i => J i.1 i.2 ∧ i.1.length ≤ 19 ∧ i.1 = vbs.take i.1.length) (fun i => 19 - i.1.length) ([], f0) ⟨hJ0, Nat.zero_le _, rfl⟩ (Ent.mk' ⟨rfl, rfl, rfl, trivial⟩ rfl (fun β w' hs => hs)) g ?_
  rintro ⟨pre, f⟩ ⟨hJ, hl, hpre⟩
  simp only at hJ hl hpre
  have hfo := hJo _ _ hJ
  simp only
  refine BIf.dec (fun hlt => ?_) (fun hge => ?_)
  · have hlt : pre.length < 19 := by have h0 : (pre.length : Int) < 19 := hlt; omega
    obtain ⟨x, hx, _⟩ := at_lt (l := vbs) (k := pre.length) hlt
    refine ⟨pre.length, (vbV x).map SL.v, rfl, hlt, verb_at vbs _ x hx, ?_⟩
    refine yield_ro (X := noF) (x := x) hY 0 1 rfl hJ hfo rfl hRo (by decide) (fun β => ⟨rfl, rfl, hx⟩) rfl (fun β w _ => ⟨trivial, fun k hk => hk.elim, fun k _ h => h.elim⟩) ?_ ?_
    · intro f2 hfo2 hJ2
      refine ⟨((pre.length + 1 : Nat) : Int), by rw [wrap_i64 (by omega) (by omega)]; rfl, ?_⟩
      have e : (pre ++ [x]).length = pre.length + 1 := by rw [List.length_append]; rfl
      refine ⟨(pre ++ [x], f2), ⟨hJ2, by show (pre ++ [x]).length ≤ 19; omega, by show pre ++ [x] = vbs.take (pre ++ [x]).length; rw [e, List.take_add_one, hx, ← hpre]; rfl⟩, by show 19 - (pre ++ [x]).length < 19 - pre.length; omega, ?_⟩
      simp only [e]
      exact Ent.mk' ⟨rfl, rfl, rfl, trivial⟩ rfl (fun β w' hs => (hs.keepB (List.nil_sublist _)).lower)
    · intro f2 hfo2 hJ2
      intro β w' hs
      exact (hs.keepB (List.nil_sublist _)).fin [0] ⟨f2, _, rfl, .inr ⟨_, hJ2, rfl⟩⟩ rfl rfl rfl ⟨hfo2, trivial⟩
  · have hp19 : pre.length = 19 := by have h0 : ¬ (pre.length : Int) < 19 := hge; omega
    have hpv : pre = vbs := by rw [hpre, hp19]; rfl
    intro β w' hs
    exact (hs.keepB (List.nil_sublist _)).fin [0] ⟨f, _, rfl, .inl ⟨pre, hJ, hpv, rfl⟩⟩ rfl rfl rfl ⟨hfo, trivial⟩
theorem orVerbs_c (w : World) : Pu Tryz.prog n_order_Verbs #[] w (.func (.func n_order_Verbs_1) #[] #[]) := by
  refine con_of_sx (cx := cx_order_Verbs w (Un [])) (good_order_Verbs w (Un [])) b_order_Verbs rfl rfl (β := Va.z) [] 0 [] [] rfl rfl (Sat.start rfl) ?_
  intro β w' hs
  exact hs.fin [] ⟨rfl, rfl⟩
theorem find_first {p : VE → Bool} {l pre : List VE} {x : VE} (hp : pre = l.take pre.length) (hx : l[pre.length]? = some x) (hn : ∀ y ∈ pre, p y = false) (h : p x = true) : l.find? p = some x := by
  obtain ⟨hlt, hx'⟩ := List.getElem?_eq_some_iff.1 hx
  have e : l = pre ++ x :: l.drop (pre.length + 1) := by
    have h1 := List.take_append_drop pre.length l
    rw [← hp, ← List.getElem_cons_drop (h := hlt), hx'] at h1
    exact h1.symm
  rw [e, List.find?_append, List.find?_eq_none.2 (fun y hy => by rw [hn y hy]; decide), Option.none_or, List.find?_cons, h]
theorem counted_c (w : World) (v : List UInt8) (A : Option Addr) (n c : Nat) (hm : Mem w [verbF 0]) : Pu Tryz.prog n_order_Command_counted #[.agg #[.string (mkS v), .slice A n c]] w (.int .i64 (cntE v n)) := by
  have g := good_order_Command_counted w (Un [])
  have hne : ∀ {x : VE}, ¬ mkS x.1 = mkS v → (x.1 == v) = false := fun h => by
    simp only [beq_eq_false_iff_ne]
    exact fun q => h (by rw [q])
  refine con_go (cx := cx_order_Command_counted w (Un [])) g b_order_Command_counted [.agg [.v (.string (mkS v)), .v (.slice A n c)]] [verbF 0] hm ?_
  refine call_pu (fun β w' hs => orVerbs_c w') ?_
  refine range_rule (α := VE) (ι := Unit) (κ := Unit) g rfl (cv := []) rfl (by kernel_rfl) 2 (Nat.le_refl 2)
    (fun pre _ => pre = vbs.take pre.length ∧ ∀ y ∈ pre, (y.1 == v) = false) (fun _ => [⟨1, ty_api_Errno, [.v (.int .i64 0)]⟩, ⟨0, ty_order_Command, [.v (.string (mkS v)), .v (.slice A n c)]⟩]) (fun _ => []) (fun _ => trivial)
    (fun e pre _ => e = .ret) (fun _ => [⟨1, ty_api_Errno, [.v (.int .i64 (cntE v n))]⟩, ⟨0, ty_order_Command, [.v (.string (mkS v)), .v (.slice A n c)]⟩]) (fun _ => []) (fun _ => trivial)
    [] [verbF 0] [] trivial (fun g h => by cases h) () ⟨rfl, fun y h => by cases h⟩ (fun β w hs => ⟨β, Agr.refl _ _, hs⟩) insVb
    (fun xs Fs' => xs = vbs ∧ Fs' = []) (fun pre Fs' => Fs' = [])
    (fun l w f0 R J Jx hJ0 hJo hRo hY hm => (verbs_it l w f0 R J Jx hJ0 hJo hRo hY hm).mono fun _ Fs h => h) ?_ ?_ ?_
  · rintro ⟨⟩ pre x args X W S l bs pn pn' hbs ⟨hpre, hno⟩ ⟨rfl, rfl, hx⟩
    refine ⟨_, rfl, ?_⟩
    refine BIf.not (BIf.dec (fun he => ?_) (fun he => ?_))
    · have hxv : x.1 = v := by
        have h := congrArg (fun s : ByteArray => s.data.toList) he
        simpa [mkS] using h
      have hf : vbs.find? (fun q => q.1 == v) = some x := find_first hpre hx hno (by rw [hxv]; exact beq_self_eq_true v)
      have hc : cntE v n = if x.2 = n then 0 else 1 := by unfold cntE; rw [hf]
      refine BIf.not (BIf.dec (fun hn => ?_) (fun hn => ?_))
      · have hn0 : x.2 = n := by have h0 : (x.2 : Int) = n := hn; omega
        rw [if_pos hn0] at hc
        rw [hc]
        exact ⟨(), rfl, Ent.mk' trivial rfl (fun β w hs => (hs.perm []).lower (n' := 2))⟩
      · have hn0 : ¬ x.2 = n := fun h => hn (by show (x.2 : Int) = n; omega)
        rw [if_neg hn0] at hc
        rw [hc]
        exact ⟨(), rfl, Ent.mk' trivial rfl (fun β w hs => (hs.perm []).lower (n' := 2))⟩
    · refine ⟨(), ⟨by rw [List.length_append]; show pre ++ [x] = vbs.take (pre.length + 1); rw [List.take_add_one, hx, ← hpre]; rfl, fun y hy => ?_⟩, Ent.mk' trivial rfl (fun β w hs => (hs.perm []).lower (n' := 2))⟩
      rcases List.mem_append.1 hy with hy | hy
      · exact hno y hy
      · obtain rfl := List.mem_singleton.1 hy
        exact hne he
  · rintro xs ⟨⟩ Fs ⟨hpre, hno⟩ ⟨rfl, rfl⟩
    have e : cntE v n = 6 := by
      unfold cntE
      rw [List.find?_eq_none.2 (fun y hy => by rw [hno y hy]; decide)]
    intro β w' hs
    refine (hs.keepB (List.nil_sublist _)).fin [] ⟨?_, rfl⟩
    rw [e]
    rfl
  · rintro e pre ⟨⟩ Fs rfl rfl
    intro β w' hs
    exact (hs.keepB (List.nil_sublist _)).fin [] ⟨rfl, rfl⟩
def tx (l : List (List UInt8)) : List Value := l.map fun s => .string (mkS s)
def txF (A : Option Addr) (l : List (List UInt8)) (c : Nat) : Fact := rowF ty_string 1 (.slice A l.length c) l.length (tx l)
theorem tx_one (l : List (List UInt8)) : ∀ u ∈ tx l, ∃ s, u = .string s := by
  intro u hu
  obtain ⟨s, _, rfl⟩ := List.mem_map.1 hu
  exact ⟨_, rfl⟩
def parF (s : List UInt8) : List UInt8 × List (List UInt8) × Int :=
  if 4096 < s.length then ([], [], 3) else match wordsF s with
    | (v :: a, true) => if cntE v a.length = 0 then (v, a, 0) else ([], [], cntE v a.length)
    | _ => ([], [], 4)
def parOut (s : List UInt8) (v : Value) (Fs : List Fact) : Prop :=
  (∃ A0 c0 v0 a, 4096 ≥ s.length ∧ wordsF s = (v0 :: a, true) ∧ cntE v0 a.length = 0 ∧ parF s = (v0, a, 0) ∧ v = .tuple #[.agg #[.string (mkS v0), .slice (cutA A0 c0 1 1) a.length (c0 - 1)], .int .i64 0] ∧ a.length + 1 ≤ c0 ∧ Fs = [txF A0 (v0 :: a) c0]) ∨
  (∃ e : Int, parF s = ([], [], e) ∧ e ≠ 0 ∧ 0 ≤ e ∧ e ≤ 6 ∧ v = .tuple #[.agg #[.string (mkS []), .slice none 0 0], .int .i64 e] ∧ Fs = [])
theorem cntE_le (v : List UInt8) (n : Nat) : 0 ≤ cntE v n ∧ cntE v n ≤ 6 := by
  unfold cntE
  split
  · split <;> decide
  · decide
theorem toldW_len (s : List UInt8) : (toldW (wordsF s)).length ≤ s.length + 1 := by
  have := (wordsF_len s).1
  unfold toldW
  split <;> simp <;> omega
theorem told_pre {s : List UInt8} {ws : List (List UInt8)} {x : WE} (h : (toldW (wordsF s))[ws.length]? = some x) : x.2 = false → (wordsF s).2 = false := by
  intro hx
  cases hb : (wordsF s).2 with
  | false => rfl
  | true =>
    unfold toldW at h
    rw [hb, if_pos rfl, List.append_nil, List.getElem?_map] at h
    cases hg : (wordsF s).1[ws.length]? with
    | none => rw [hg] at h; cases h
    | some y => rw [hg] at h; cases h; cases hx
theorem told_all {q : List (List UInt8) × Bool} {ws : List (List UInt8)} (h : ws.map (fun w => (w, true)) = toldW q) : q = (ws, true) := by
  obtain ⟨l, b⟩ := q
  unfold toldW at h
  cases b with
  | false =>
    have : (([], false) : WE) ∈ ws.map (fun w => (w, true)) := by rw [h]; simp
    obtain ⟨y, _, hy⟩ := List.mem_map.1 this
    cases hy
  | true =>
    rw [if_pos rfl, List.append_nil] at h
    have : l = ws := by
      have h2 := congrArg (List.map Prod.fst) h
      simpa [Function.comp_def] using h2.symm
    rw [this]
theorem parse_c (w : World) (s : List UInt8) (hs : s.length ≤ 100000) (hm : Mem w [verbF 0]) : Con Tryz.prog n_order_Parse #[.string (mkS s)] w [] (parOut s) := by
  have g := good_order_Parse w (Un [])
  have hsz := mkS_len s
  have hml := maxLen_eq
  have htl := toldW_len s
  refine con_go (cx := cx_order_Parse w (Un [])) g b_order_Parse [.c (.v (.string (mkS s)))] [verbF 0] hm ?_
  refine BIf.dec (fun hlt => ?_) (fun hge => ?_)
  · have hlt : 4096 < s.length := by have h0 : (4096 : Int) < (mkS s).size := hlt; omega
    intro β w' hs
    exact (hs.keepB (List.nil_sublist _)).fin [] (.inr ⟨3, if_pos hlt, by decide, by decide, by decide, rfl, rfl⟩)
  have hle : ¬ 4096 < s.length := by have h0 : ¬ (4096 : Int) < (mkS s).size := hge; omega
  refine call_con [] (fun β w' hs' => orWords_c w' (mkS s)) ?_
  rintro v Fs ⟨bx, rfl, rfl⟩
  refine range_rule (α := WE) (ι := Option Addr × Nat × List (List UInt8)) (κ := Option Addr × Nat × List (List UInt8)) g rfl (cv := [.pointer (some ⟨bx, 0, none⟩)]) rfl (by kernel_rfl) 3 (Nat.le_refl 3)
    (fun pre i => pre = i.2.2.map (fun w => (w, true)) ∧ i.2.2.length ≤ i.2.1 ∧ (0 < i.2.2.length → ∃ ad, i.1 = some ad)) (fun i => [⟨2, ty_sl_string, [.v (.slice i.1 i.2.2.length i.2.1)]⟩, ⟨1, ty_api_Errno, [.v (.int .i64 0)]⟩, ⟨0, ty_order_Command, [.v (.string (mkS [])), .v (.slice none 0 0)]⟩]) (fun i => [txF i.1 i.2.2 i.2.1]) (fun i => ⟨rfl, trivial⟩)
    (fun e pre _ => e = .ret ∧ (wordsF s).2 = false) (fun i => [⟨2, ty_sl_string, [.v (.slice i.1 i.2.2.length i.2.1)]⟩, ⟨1, ty_api_Errno, [.v (.int .i64 4)]⟩, ⟨0, ty_order_Command, [.v (.string (mkS [])), .v (.slice none 0 0)]⟩]) (fun i => [txF i.1 i.2.2 i.2.1]) (fun i => ⟨rfl, trivial⟩)
    [bkF bx ty_string [.string (mkS s)]] [] [verbF 0] ⟨rfl, trivial⟩ (fun g h => by obtain rfl := List.mem_singleton.1 h; rfl) (none, 0, []) ⟨rfl, Nat.le_refl _, fun h => absurd h (Nat.lt_irrefl 0)⟩ (fun β w hs => ⟨β, Agr.refl _ _, (hs.nilRow ty_string 1).perm [1, 0, 2]⟩) (insWd (toldW (wordsF s)))
    (fun xs Fs' => xs = toldW (wordsF s) ∧ Fs' = []) (fun pre Fs' => Fs' = [])
    (fun l w f0 R J Jx hJ0 hJo hRo hY hm => (words_it l w bx s hs f0 R J Jx hJ0 hJo hRo hY hm).mono fun _ Fs h => h) ?_ ?_ ?_
  · rintro ⟨A, c, ws⟩ pre ⟨x, xb⟩ args X W S l bs pn pn' hbs ⟨hpre, hwc, hwA⟩ ⟨rfl, rfl, hx⟩
    simp only at hpre hwc hwA hx
    subst hpre
    rw [List.length_map] at hx
    have hlt := (List.getElem?_eq_some_iff.1 hx).1
    refine ⟨_, rfl, ?_⟩
    cases xb with
    | false =>
      exact ⟨(A, c, ws), ⟨rfl, told_pre hx rfl⟩, Ent.mk' trivial rfl (fun β w hs => (hs.perm [1]).lower (n' := 3))⟩
    | true =>
      intro b1
      refine ⟨2, ws.length, ws.length + 1, tx ws, [.string (mkS x)], tx (ws ++ [x]), rfl, fun β w' hs => row_rd (hs.get 0 rfl), (fun u hu => by obtain rfl := List.mem_singleton.1 hu; rfl), rfl, by simp [tx], by omega, by show (ws.length + 1) * 16 ≤ _; omega, ?_⟩
      intro A2 c2 p2 _ h2
      have e1 : (ws ++ [x]).length = ws.length + 1 := by simp
      obtain ⟨ad2, rfl⟩ : ∃ ad, A2 = some ad := by
        cases A2 with
        | none => exact absurd (h2 rfl).2 (by decide)
        | some ad => exact ⟨ad, rfl⟩
      exact ⟨(some ad2, c2, ws ++ [x]), ⟨by simp, by show (ws ++ [x]).length ≤ c2; omega, fun _ => ⟨_, rfl⟩⟩, Ent.mk' trivial rfl (fun β w hs => by
        show Sat _ _ _ [⟨2, ty_sl_string, [.v (.slice (some ad2) (ws ++ [x]).length c2)]⟩, ⟨1, ty_api_Errno, [.v (.int .i64 0)]⟩, ⟨0, ty_order_Command, [.v (.string (mkS [])), .v (.slice none 0 0)]⟩] [rowF ty_string 1 (.slice (some ad2) (ws ++ [x]).length c2) (ws ++ [x]).length (tx (ws ++ [x]))] _
        rw [e1]
        exact (hs.perm [2]).lower (n' := 3))⟩
  · rintro xs ⟨A, c, ws⟩ Fs ⟨hpre, hwc, hwA⟩ ⟨rfl, rfl⟩
    simp only at hpre hwc hwA
    have hq := told_all hpre.symm
    cases ws with
    | nil => exact absurd rfl (by have := wordsF_ne (s := s) (by rw [hq]); rw [hq] at this; exact this)
    | cons v0 a =>
      simp only [List.length_cons] at hwc
      obtain ⟨ad, rfl⟩ := hwA (Nat.succ_pos _)
      refine draw_rule g p_order_Parse_10 (by kernel_rfl) [⟨2, ty_sl_string, [.v (.slice (some ad) (v0 :: a).length c)]⟩] [txF (some ad) (v0 :: a) c] (Sub.of (((List.nil_sublist _).cons_cons _)) (((List.nil_sublist _).cons_cons _))) ?_
      refine ⟨ad, 0, rfl, rfl, Nat.succ_pos _, ?_⟩
      refine ⟨.string (mkS v0), fun β w' hs => Rd.cell1 (row_rd (hs.get 0 rfl)) rfl, ?_⟩
      refine ⟨c, a.length + 1, 1, a.length, c - 1, _, rfl, rfl, rfl, Nat.le_refl _, hwc, by omega, by omega, rfl, rfl, ?_⟩
      refine ⟨Sub.of (((List.nil_sublist _).cons_cons _).cons _) ((List.nil_sublist _).cons_cons _), ?_⟩
      refine ⟨Sub.of (((List.nil_sublist _).cons_cons _).cons _) ((List.nil_sublist _).cons_cons _), ?_⟩
      refine call_pu (fun β w' hs => counted_c w' v0 (cutA (some ad) c 1 1) a.length (c - 1) (hs.mem.take (js := [1]) rfl)) ?_
      obtain ⟨e, he⟩ : ∃ e, cntE v0 a.length = e := ⟨_, rfl⟩
      have hce := cntE_le v0 a.length
      rw [he] at hce
      have hp : parF s = if e = 0 then (v0, a, 0) else ([], [], e) := by
        unfold parF
        rw [if_neg hle, hq]
        simp only [he]
      rw [he]
      refine BIf.not (BIf.dec (fun h0 => ?_) (fun h0 => ?_))
      · have h0 : e = 0 := h0
        subst h0
        intro β w' hs
        exact (hs.keepB (List.nil_sublist _)).fin [0] (.inl ⟨some ad, c, v0, a, by omega, hq, he, hp, rfl, hwc, rfl⟩) rfl rfl rfl ⟨rfl, trivial⟩
      · have h0 : ¬ e = 0 := h0
        rw [if_neg h0] at hp
        intro β w' hs
        exact (hs.keepB (List.nil_sublist _)).fin [] (.inr ⟨e, hp, h0, hce.1, hce.2, rfl, rfl⟩)
  · rintro e pre ⟨A, c, ws⟩ Fs ⟨rfl, hb⟩ rfl
    have hp : parF s = ([], [], 4) := by
      unfold parF
      rw [if_neg hle]
      generalize wordsF s = q at hb
      obtain ⟨l, b⟩ := q
      simp only at hb
      subst hb
      cases l <;> rfl
    intro β w' hs
    exact (hs.keepB (List.nil_sublist _)).fin [] (.inr ⟨4, hp, by decide, by decide, by decide, rfl, rfl⟩)
theorem epochs_c (w : World) (r : Rg) : Con Tryz.prog n_ring_Ring_Epochs #[ptrR r.b] w [] (fun v Fs => ∃ bx, v = .func (.func n_ring_Ring_Epochs_1) #[] #[.pointer (some ⟨bx, 0, none⟩)] ∧ Fs = [bkF bx ty_ptr_ring_Ring [ptrR r.b]]) := by
  refine con_of_sx (cx := cx_ring_Ring_Epochs w (Un [])) (good_ring_Ring_Epochs w (Un [])) b_ring_Ring_Epochs rfl rfl (β := Va.z) [.c (.v (ptrR r.b))] 0 [] [] rfl rfl (Sat.start rfl) ?_
  intro β w' hs
  exact hs.ofBk.fin [0] ⟨β 0, rfl, rfl⟩
def Rg.key (r : Rg) (e : Int) : Option RKey := r.ks.find? fun k => decide ((k.e : Int) = e)
theorem key_look (e : Int) : ∀ ks : List RKey, ilook (ks.map fun k => ((k.e : Int), k.v)) e = (ks.find? fun k => decide ((k.e : Int) = e)).map RKey.v
  | [] => rfl
  | k :: t => by
    by_cases h : (k.e : Int) = e
    · simp [ilook, List.find?, h]
    · simp only [List.map_cons, ilook, if_neg h, List.find?, decide_eq_false h]
      exact key_look e t
end Go.Proofs.YteenjgfbbkdlhaaGreatDoor.Sx

namespace Go.Proofs.YteenjgfbbkdlhaaGreatDoor.Sx
open Go
theorem Sat.mapPutI {cx : Cx} {β : Va} {n : Nat} {H : List Bk} {F : List Fact} {w : World} (h : Sat cx β n H F w) (g : Good cx) (j : Nat) {b : Nat} {l : MLI} {kk : IntKind} (hj : nth F j = some (mapIF kk b l)) {t kt et : TypeId} {i ik : TI} (s : Int) (v : Value) (hi : lk cx.tt t = some i := by rfl) (hd : i.desc = .map kt et := by rfl) (hik : lk cx.tt kt = some ik := by rfl) (hdk : ik.desc = .int kk := by rfl) :
    ∃ w', (Instr.mapUpdate t (.map (some b)) (.int kk s) v).run cx.P w = .ok () w' ∧ Sat cx β n H (putAt F j (mapIF kk b (iput l s v))) w' := by
  obtain ⟨o, e1, e2⟩ := run_putI (P := cx.P) ((g.ti hi).real (d := .map _ _) hd rfl) ((g.ti hik).real (d := .int kk) hdk rfl) (h.get j hj) s v
  exact ⟨_, e1, h.upd hj rfl (chg_put o) e2 (fun k hk => .inl hk)⟩
theorem Sat.mapPutIY {cx : Cx} {β : Va} {n : Nat} {H : List Bk} {F : List Fact} {w : World} (h : Sat cx β n H F w) (g : Good cx) (j : Nat) {b : Nat} {l : MLI} {kk : IntKind} (hj : nth F j = some (mapIF kk b l)) {t kt et : TypeId} {i ik : TI} (s : Int) (v : Value) (hi : lk cx.tt t = some i := by rfl) (hd : i.desc = .map kt et := by rfl) (hik : lk cx.tt kt = some ik := by rfl) (hdk : ik.desc = .int kk := by rfl) :
    ∃ (w' : World) (y : Nat), (Instr.mapUpdate t (.map (some b)) (.int kk s) v).run cx.P w = .ok () w' ∧ Sat cx β n H ((fun _ => putAt F j (mapIF kk b (iput l s v))) y) w' := by
  obtain ⟨w', e1, e2⟩ := h.mapPutI g j hj s v hi hd hik hdk
  exact ⟨w', 0, e1, e2⟩
theorem Sat.mapDelI {cx : Cx} {β : Va} {n : Nat} {H : List Bk} {F : List Fact} {w : World} (h : Sat cx β n H F w) (g : Good cx) (j : Nat) {b : Nat} {l : MLI} {kk : IntKind} (hj : nth F j = some (mapIF kk b l)) {t tk kt et : TypeId} {i ik : TI} (s : Int) (ty : TypeId) (cst : Array Bool) (hi : lk cx.tt t = some i := by rfl) (hd : i.desc = .map kt et := by rfl) (hik : lk cx.tt kt = some ik := by rfl) (hdk : ik.desc = .int kk := by rfl) :
    ∃ w', (builtin .delete #[t, tk] ty cst #[.map (some b), .int kk s]).run cx.P w = .ok (.value (.tuple #[])) w' ∧ Sat cx β n H (putAt F j (mapIF kk b (idel l s))) w' := by
  obtain ⟨o, e1, e2⟩ := run_delI (P := cx.P) (tk := tk) ((g.ti hi).real (d := .map _ _) hd rfl) ((g.ti hik).real (d := .int kk) hdk rfl) (h.get j hj) s ty cst
  exact ⟨_, e1, h.upd hj rfl (chg_put o) e2 (fun k hk => .inl hk)⟩
end Go.Proofs.YteenjgfbbkdlhaaGreatDoor.Sx

namespace Go.Proofs.YteenjgfbbkdlhaaGreatDoor.Sx
open Go
attribute [local irreducible] Calls
theorem len_cons {l : List Value} {n : Nat} (h : l.length = n + 1) : ∃ a r, l = a :: r ∧ r.length = n := by
  cases l with
  | nil => cases h
  | cons a r => exact ⟨a, r, rfl, by simpa using h⟩
def GoodT (B : Bx.Box) (r : List UInt8 × Bx.Box) : Prop := Ext B r.2 ∧ r.1.length = 32 ∧ ∃ q, r.2.opens r.1 = some q
theorem tag_good {B : Bx.Box} (hi : BInv B) (hs : B.sym = true) (hl : B.L.length < 4096) {t : Bx.Term} (hz : TSz t) (h4 : t.kind ≠ 4) : GoodT B (B.tag t) := by
  obtain ⟨he, k, hk, hkt⟩ := tag_ext hi hs hl hz (fun q => absurd q h4)
  refine ⟨he, by rw [hk]; rfl, ?_⟩
  rw [hk]
  have hlen := he.inv.len
  have hlt := (List.getElem?_eq_some_iff.1 hkt).1
  exact ⟨_, (opens_h (he.sym.trans hs) (by omega) (by omega) (by omega) hkt).trans (if_neg h4)⟩
theorem raw_good {B : Bx.Box} (hi : BInv B) (hs : B.sym = false) {h : List UInt8} (hh : h.length = 32) : GoodT B (h, B) :=
  ⟨Ext.refl hi, hh, _, Bx.opens_raw hh (fun q => by rw [hs] at q; cases q.1)⟩
theorem hash_good {B : Bx.Box} (hi : BInv B) (hl : B.L.length < 4096) {t : List UInt8} (ht : t.length ≤ 1000000) : GoodT B (hashB B t) := by
  cases hs : B.sym with
  | true => rw [show hashB B t = B.tag (hashT t) by unfold hashB; rw [hs]; rfl]; exact tag_good hi hs hl (hashT_sz ht) (by show ¬ 1 = 4; decide)
  | false => rw [show hashB B t = (Sha.sum t, B) by unfold hashB; rw [hs]; rfl]; exact raw_good hi hs (sum_len t)
theorem mac_good {B : Bx.Box} (hi : BInv B) (hl : B.L.length < 4096) {k t : List UInt8} (hk : k.length ≤ 1000000) (ht : t.length ≤ 1000000) : GoodT B (macB B k t) := by
  cases hs : B.sym with
  | true => rw [show macB B k t = B.tag (macT k t) by unfold macB; rw [hs]; rfl]; exact tag_good hi hs hl (macT_sz hk ht) (by show ¬ 2 = 4; decide)
  | false => rw [show macB B k t = (hmL k t, B) by unfold macB; rw [hs]; rfl]; exact raw_good hi hs (hmL_len k t)
theorem str_good {B : Bx.Box} (hi : BInv B) (hl : B.L.length < 4096) {k t : List UInt8} {r : Nat} (hk : k.length ≤ 1000000) (ht : t.length ≤ 1000000) (hr : r ≤ 64) : GoodT B (strB B k t r) := by
  cases hs : B.sym with
  | true => rw [show strB B k t r = B.tag (strT k t r) by unfold strB; rw [hs]; rfl]; exact tag_good hi hs hl (strT_sz hk ht hr) (by show ¬ 3 = 4; decide)
  | false => rw [show strB B k t r = (stretchL k t r, B) by unfold strB; rw [hs]; rfl]; exact raw_good hi hs (strX_len _ _ _)
def outL (F : Bx.Box → Lay → Fact) (r : List UInt8 × Bx.Box) (v : Value) (Fs : List Fact) : Prop :=
  ∃ A c y', v = .slice A r.1.length c ∧ r.1.length ≤ c ∧ c ≤ maxLen ∧ y'.ts.map (·.1) = r.2.L ∧ Fs = [browF ty_uint8 A r.1 c, F r.2 y']
theorem boxOut_L {b : Nat} {r : List UInt8 × Bx.Box} {v : Value} {Fs : List Fact} (h : r.1.length = 32) (k : boxOut b r v Fs) : outL (bxF b) r v Fs := by
  obtain ⟨A, c, y', rfl, h1, h2, h3, rfl⟩ := k
  exact ⟨A, c, y', by rw [h], by rw [h]; exact h1, h2, h3, rfl⟩
theorem one_part (A : Option Addr) (l : List UInt8) (c : Nat) : partsT [(A, l, c)] = l := by simp [partsT]
theorem hashL_c (w : World) (b : Nat) (B : Bx.Box) (y : Lay) (b0 : Nat) (A : Option Addr) (l : List UInt8) (c : Nat) (hts : y.ts.map (·.1) = B.L) (hi : BInv B) (hL : B.L.length < 4096) (hn : l.length ≤ 1000000) (hm : Mem w [bxF b B y, partF (some ⟨b0, 0, none⟩) [(A, l, c)], oddF 5, firstF 2]) :
    Con Tryz.prog n_box_Box_Hash #[ptrB b, .slice (some ⟨b0, 0, none⟩) 1 1] w [bxF b B y] (outL (bxF b) (hashB B l)) := by
  have k := hashP_c w b B y b0 [(A, l, c)] 1 hts (by omega) (by simp) (Nat.le_refl 1) (by show 1 ≤ 1000; decide) (by rw [one_part]; exact hn) hm
  rw [one_part] at k
  exact k.mono fun v Fs h => boxOut_L (hash_good hi hL hn).2.1 h
theorem macL_c (w : World) (b : Nat) (B : Bx.Box) (y : Lay) (K : Option Addr) (key : List UInt8) (cK : Nat) (b0 : Nat) (A : Option Addr) (l : List UInt8) (c : Nat) (hts : y.ts.map (·.1) = B.L) (hi : BInv B) (hL : B.L.length < 4096) (hk : key.length ≤ 1000000) (hn : l.length ≤ 1000000) (hm : Mem w [bxF b B y, partF (some ⟨b0, 0, none⟩) [(A, l, c)], bsF K key, oddF 5, firstF 2]) :
    Con Tryz.prog n_box_Box_Mac #[ptrB b, .slice K key.length cK, .slice (some ⟨b0, 0, none⟩) 1 1] w [bxF b B y] (outL (bxF b) (macB B key l)) := by
  have k := macP_c w b B y K key cK b0 [(A, l, c)] 1 hts (by omega) hk (by simp) (Nat.le_refl 1) (by show 1 ≤ 1000; decide) (by rw [one_part]; exact hn) hm
  rw [one_part] at k
  exact k.mono fun v Fs h => boxOut_L (mac_good hi hL hk hn).2.1 h
def strL (F : Bx.Box → Lay → Fact) (r : List UInt8 × Bx.Box) (v : Value) (Fs : List Fact) : Prop :=
  ∃ A c y', v = .tuple #[.slice A r.1.length c, .int .i64 0] ∧ r.1.length ≤ c ∧ c ≤ maxLen ∧ y'.ts.map (·.1) = r.2.L ∧ Fs = [browF ty_uint8 A r.1 c, F r.2 y']
theorem strL_c (w : World) (b : Nat) (B : Bx.Box) (y : Lay) (K S : Option Addr) (p s : List UInt8) (cK cS : Nat) (r : Int) (hr : 1 ≤ r ∧ r ≤ 64) (hts : y.ts.map (·.1) = B.L) (hi : BInv B) (hL : B.L.length < 4096) (hk : p.length ≤ 1000000) (hn : s.length ≤ 100000) (hm : Mem w [bxF b B y, bsF K p, bsF S s, oddF 5, firstF 2]) :
    Con Tryz.prog n_box_Box_Stretch #[ptrB b, .slice K p.length cK, .slice S s.length cS, .int .i64 r] w [bxF b B y] (strL (bxF b) (strB B p s r.toNat)) := by
  refine (strP_c w b B y K S p s cK cS r hts (by omega) hk hn hm).mono fun v Fs h => ?_
  unfold strOut at h
  rw [if_pos hr] at h
  obtain ⟨A, c, y', rfl, h1, h2, h3, rfl⟩ := h
  have e := (str_good (r := r.toNat) hi hL hk (by omega : s.length ≤ 1000000) (by omega)).2.1
  exact ⟨A, c, y', by rw [e], by rw [e]; exact h1, h2, h3, rfl⟩
end Go.Proofs.YteenjgfbbkdlhaaGreatDoor.Sx
