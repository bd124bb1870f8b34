/- Texts joined: BxP, Rf5, Rt1, Rt2, Rt3, Rt4, Rt5, Tl1, Tl2, Tl3, Tl4, BxL, Sto3, Mk2, Mk3, Ha, Aw1, Aw2, Aw3, Sto4, Sto5, Sto6, Sto7, Sto8, Aw14, Tl5, Tl7, BxS, Pck, Pck2, Tl6, Pck3, Tabs, SxArg, Laid, Laid2. -/
import Derived.Test.YthkjfepbmnabkaaGreatDoorMPC3
import Derived.Test.YthkjfepbmnabkaaGreatDoorMPC2
import Derived.Below
import Derived.OpenShut
import Derived.ChangeArms
import Derived.LaidMore
set_option linter.unusedVariables false
set_option linter.unusedSimpArgs false
/- The program's box: hashes, sums with a key, stretched passwords; plain and symbolic. -/
namespace Go.Proofs.YthkjfepbmnabkaaGreatDoor.Sx
open Go
attribute [local irreducible] Calls

def macT (k t : List UInt8) : Bx.Term := ⟨2, k, t, 0, [], []⟩
def strT (p s : List UInt8) (r : Nat) : Bx.Term := ⟨3, p, s, r, [], []⟩
noncomputable def hashB (B : Bx.Box) (t : List UInt8) : List UInt8 × Bx.Box := if B.sym then B.tag (hashT t) else (Sha.sum t, B)
noncomputable def macB (B : Bx.Box) (k t : List UInt8) : List UInt8 × Bx.Box := if B.sym then B.tag (macT k t) else (hmL k t, B)
noncomputable def strB (B : Bx.Box) (p s : List UInt8) (r : Nat) : List UInt8 × Bx.Box := if B.sym then B.tag (strT p s r) else (stretchL p s r, B)
/-- What a box tells, in memory; the box behind it. -/
def boxOut (b : Nat) (r : List UInt8 × Bx.Box) (v : Value) (Fs : List Fact) : Prop :=
  ∃ A c y', v = .slice A 32 c ∧ 32 ≤ c ∧ c ≤ maxLen ∧ y'.ts.map (·.1) = r.2.L ∧ Fs = [browF ty_uint8 A r.1 c, bxF b r.2 y']
theorem Sat.unown {cx : Cx} {β : Va} {n : Nat} {H : List Bk} {F : List Fact} {w : World} (h : Sat cx β n H F w) (j : Nat) {size : Nat} {A : Option Addr} {k : Nat} {xs : List Value} (hj : nth F j = some (rdoF size A k xs)) : Sat cx β n H (putAt F j (rdF size A k xs)) w :=
  h.upd hj rfl (Chg.refl _ _) (show (rdF size A k xs).p w from rdo_rd (h.get j hj)) (fun _ hk => .inl hk)
theorem Sat.trd {cx : Cx} {β : Va} {n : Nat} {H : List Bk} {F : List Fact} {w : World} (h : Sat cx β n H F w) (js : List Nat) (t : Bx.Term) (a : TA) (hl : t.list = []) (hm : t.mask = []) (hj : takeIx F js = [bsF a.k t.key, bsF a.t t.text]) : Sat cx β n H (trdF t a :: F) w := by
  have get : ∀ f ∈ takeIx F js, f.p w := fun f hf => by obtain ⟨i, _, hi⟩ := takeIx_mem hf; exact h.fact f (List.mem_of_getElem? hi)
  refine h.subN js (fun f hf => ?_) _ rfl ⟨get (bsF a.k t.key) (by rw [hj]; simp), get (bsF a.t t.text) (by rw [hj]; simp), by rw [hl]; exact rd_nil w a.l, by rw [hm]; exact Bs.nil w a.m⟩ (fun k hk => ?_)
  · rw [hj] at hf
    simp only [List.mem_cons, List.not_mem_nil, or_false] at hf
    rcases hf with rfl | rfl <;> rfl
  · rw [hj]
    rcases hk with hk | hk | hk | hk
    · exact ⟨_, List.mem_cons_self, hk⟩
    · exact ⟨bsF a.t t.text, by simp, hk⟩
    · rw [hl] at hk
      exact absurd hk.1 (by simp)
    · rw [hm] at hk
      exact absurd hk.1 (by simp)
theorem parts_len {ps : List Part} : (ps.map (·.2.1)).flatten = partsT ps := by
  unfold partsT
  rw [List.flatMap_def]
/-- Parts, joined. -/
theorem joinP_c (w : World) (b0 : Nat) (ps : List Part) (cP : Nat) (h : (partF (some ⟨b0, 0, none⟩) ps).p w) (h0 : ps ≠ []) (hc : ps.length ≤ cP) (hl : ps.length ≤ 1000) (hn : (partsT ps).length ≤ 1000000) :
    Con Tryz.prog n_bytes_Join #[.slice (some ⟨b0, 0, none⟩) ps.length cP, .slice none 0 0] w [] (readOut (partsT ps)) := by
  match ps with
  | [] => exact absurd rfl h0
  | [p] =>
    have e : partsT [p] = p.2.1 := by simp [partsT]
    rw [e] at hn ⊢
    exact join1R_c w (some ⟨b0, 0, none⟩) p.1 cP p.2.2 p.2.1 h.1 (h.2 p List.mem_cons_self) (by omega)
  | p :: q :: r =>
    have k := joinN_c w b0 cP ((p :: q :: r).map partV) ((p :: q :: r).map (·.2.1)) (by rw [List.length_map]; exact h.1) (fun i v l hv hl => by
      rw [List.getElem?_map] at hv hl
      obtain ⟨x, hx, rfl⟩ := Option.map_eq_some_iff.1 hv
      obtain ⟨x', hx', rfl⟩ := Option.map_eq_some_iff.1 hl
      rw [hx] at hx'
      obtain rfl := Option.some.inj hx'
      exact Bs.holds (h.2 x (List.mem_of_getElem? hx)) x.2.2) (by simp) (by rw [List.length_map]; exact hc) (by rw [List.length_map]; exact hl) (by rw [parts_len]; omega)
    rw [List.length_map, parts_len] at k
    exact k
theorem partOld {P : Option Addr} {ps : List Part} {W w : World} (h : (partF P ps).p W) (ho : (oldF W).p w) : (partF P ps).p w := ⟨Rd.old h.1 ho, fun p hp => Rd.old (h.2 p hp) ho⟩
theorem hashP_c (w : World) (b : Nat) (B : Bx.Box) (y : Lay) (b0 : Nat) (ps : List Part) (cP : Nat) (hts : y.ts.map (·.1) = B.L) (hL : B.L.length ≤ 4096) (h0 : ps ≠ []) (hc : ps.length ≤ cP) (hl : ps.length ≤ 1000) (hn : (partsT ps).length ≤ 1000000) (hm : Mem w [bxF b B y, partF (some ⟨b0, 0, none⟩) ps, oddF 2, firstF 0]) :
    Con Tryz.prog n_box_Box_Hash #[ptrB b, .slice (some ⟨b0, 0, none⟩) ps.length cP] w [bxF b B y] (boxOut b (hashB B (partsT ps))) := by
  have g := good_box_Box_Hash w (Un [bxF b B y])
  have hs0 : Sat (cx_box_Box_Hash w (Un [bxF b B y])) Va.z 0 [] [bxF b B y, partF (some ⟨b0, 0, none⟩) ps, oddF 2, firstF 0] w := hm.sat0 rfl (ownIn (Gs := [bxF b B y]) (fun f hf => by
    simp only [List.mem_cons, List.not_mem_nil, or_false] at hf
    rcases hf with rfl | rfl | rfl <;> rfl))
  refine con_of_sx (cx := cx_box_Box_Hash w (Un [bxF b B y])) g b_box_Box_Hash rfl rfl (β := Va.z) [.c (.v (ptrB b)), .c (.v (.slice (some ⟨b0, 0, none⟩) ps.length cP))] 0 [] [bxF b B y, partF (some ⟨b0, 0, none⟩) ps, oddF 2, firstF 0] rfl rfl hs0 ?_
  cases hsym : B.sym with
  | true =>
    refine ⟨.bool true, fun β w' hs => box_cell (bx_bk (hs.get 0 rfl)) (o := 0) (by simp [boxCells, hsym]), ?_⟩
    refine call_con [] (fun β w' hs => joinP_c w' b0 ps cP (hs.get 1 rfl) h0 hc hl hn) ?_
    rintro v Fs ⟨A1, c1, rfl, q1, q2, rfl⟩
    refine call_con [1] (R := boxOut b (B.tag (hashT (partsT ps)))) (fun β w' hs => by
      have k2 := ((hs.unown 0 rfl).noMem (bsF none []) (Bs.nil w' none) (fun k hk => absurd hk.1 (by simp))).trd [0, 1] (hashT (partsT ps)) ⟨none, A1, none, none, 0, c1, 0, 0⟩ rfl rfl rfl
      exact tag_c w' b B y (hashT (partsT ps)) ⟨none, A1, none, none, 0, c1, 0, 0⟩ hts hL (hashT_sz hn) (k2.mem.take (js := [3, 0]) rfl)) ?_
    rintro v Fs ⟨A2, c2, y2, rfl, r1, r2, r3, rfl⟩
    intro β w' hs
    have e : hashB B (partsT ps) = B.tag (hashT (partsT ps)) := by unfold hashB; rw [hsym]; rfl
    rw [e]
    exact hs.fin [0, 1] ⟨A2, c2, y2, rfl, r1, r2, r3, rfl⟩
  | false =>
    refine ⟨.bool false, fun β w' hs => box_cell (bx_bk (hs.get 0 rfl)) (o := 0) (by simp [boxCells, hsym]), ?_⟩
    refine call_con [] (fun β w' hs => sumJ_c w' (some ⟨b0, 0, none⟩) ps.length cP (partsT ps) (fun w2 ho => joinP_c w2 b0 ps cP (partOld (hs.get 1 rfl) ho) h0 hc hl hn) (by omega) (hs.get 2 rfl) (hs.get 3 rfl)) ?_
    rintro v Fs ⟨A2, c2, rfl, r1, r2, rfl⟩
    intro β w' hs
    have e : hashB B (partsT ps) = (Sha.sum (partsT ps), B) := by unfold hashB; rw [hsym]; rfl
    rw [e]
    exact hs.fin [0, 1] ⟨A2, c2, y, rfl, r1, r2, hts, rfl⟩
theorem macT_sz {k t : List UInt8} (hk : k.length ≤ 1000000) (hl : t.length ≤ 1000000) : TSz (macT k t) := ⟨by show 2 < 1000; decide, by show 0 < 1000; decide, hk, hl, Nat.zero_le _, fun _ h => (by cases h), Nat.zero_le _⟩
theorem macP_c (w : World) (b : Nat) (B : Bx.Box) (y : Lay) (K : Option Addr) (key : List UInt8) (cK : Nat) (b0 : Nat) (ps : List Part) (cP : Nat) (hts : y.ts.map (·.1) = B.L) (hL : B.L.length ≤ 4096) (hk : key.length ≤ 1000000) (h0 : ps ≠ []) (hc : ps.length ≤ cP) (hl : ps.length ≤ 1000) (hn : (partsT ps).length ≤ 1000000) (hm : Mem w [bxF b B y, partF (some ⟨b0, 0, none⟩) ps, bsF K key, oddF 2, firstF 0]) :
    Con Tryz.prog n_box_Box_Mac #[ptrB b, .slice K key.length cK, .slice (some ⟨b0, 0, none⟩) ps.length cP] w [bxF b B y] (boxOut b (macB B key (partsT ps))) := by
  have g := good_box_Box_Mac w (Un [bxF b B y])
  have hs0 : Sat (cx_box_Box_Mac w (Un [bxF b B y])) Va.z 0 [] [bxF b B y, partF (some ⟨b0, 0, none⟩) ps, bsF K key, oddF 2, firstF 0] w := hm.sat0 rfl (ownIn (Gs := [bxF b B y]) (fun f hf => by
    simp only [List.mem_cons, List.not_mem_nil, or_false] at hf
    rcases hf with rfl | rfl | rfl | rfl <;> rfl))
  refine con_of_sx (cx := cx_box_Box_Mac w (Un [bxF b B y])) g b_box_Box_Mac rfl rfl (β := Va.z) [.c (.v (ptrB b)), .c (.v (.slice K key.length cK)), .c (.v (.slice (some ⟨b0, 0, none⟩) ps.length cP))] 0 [] [bxF b B y, partF (some ⟨b0, 0, none⟩) ps, bsF K key, oddF 2, firstF 0] rfl rfl hs0 ?_
  cases hsym : B.sym with
  | true =>
    refine ⟨.bool true, fun β w' hs => box_cell (bx_bk (hs.get 0 rfl)) (o := 0) (by simp [boxCells, hsym]), ?_⟩
    refine call_con [] (fun β w' hs => joinP_c w' b0 ps cP (hs.get 1 rfl) h0 hc hl hn) ?_
    rintro v Fs ⟨A1, c1, rfl, q1, q2, rfl⟩
    refine call_con [1] (R := boxOut b (B.tag (macT key (partsT ps)))) (fun β w' hs => by
      have k2 := (hs.unown 0 rfl).trd [3, 0] (macT key (partsT ps)) ⟨K, A1, none, none, cK, c1, 0, 0⟩ rfl rfl rfl
      exact tag_c w' b B y (macT key (partsT ps)) ⟨K, A1, none, none, cK, c1, 0, 0⟩ hts hL (macT_sz hk hn) (k2.mem.take (js := [2, 0]) rfl)) ?_
    rintro v Fs ⟨A2, c2, y2, rfl, r1, r2, r3, rfl⟩
    intro β w' hs
    have e : macB B key (partsT ps) = B.tag (macT key (partsT ps)) := by unfold macB; rw [hsym]; rfl
    rw [e]
    exact hs.fin [0, 1] ⟨A2, c2, y2, rfl, r1, r2, r3, rfl⟩
  | false =>
    refine ⟨.bool false, fun β w' hs => box_cell (bx_bk (hs.get 0 rfl)) (o := 0) (by simp [boxCells, hsym]), ?_⟩
    refine call_con [] (fun β w' hs => hsum_c w' K (some ⟨b0, 0, none⟩) key (partsT ps) cK ps.length cP (hs.get 2 rfl) hk hn (fun w2 ho => joinP_c w2 b0 ps cP (partOld (hs.get 1 rfl) ho) h0 hc hl hn) (hs.get 3 rfl) (hs.get 4 rfl)) ?_
    rintro v Fs ⟨A2, c2, rfl, r1, r2, rfl⟩
    intro β w' hs
    have e : macB B key (partsT ps) = (hmL key (partsT ps), B) := by unfold macB; rw [hsym]; rfl
    rw [e]
    exact hs.fin [0, 1] ⟨A2, c2, y, rfl, r1, r2, hts, rfl⟩
end Go.Proofs.YthkjfepbmnabkaaGreatDoor.Sx

/- The document's handles. -/
namespace Go.Proofs.YthkjfepbmnabkaaGreatDoor.Sx
open Go
attribute [local irreducible] Calls

theorem rfront_c (w : World) : Con Tryz.prog n_ostiaryref05_front #[] w [] fun v Fs => ∃ A c, v = .slice A 28 c ∧ 28 ≤ c ∧ c ≤ maxLen ∧ Fs = [browF ty_uint8 A Bx.front c] := by
  refine con_of_sx (cx := cx_ostiaryref05_front w (Un [])) (good_ostiaryref05_front w (Un [])) b_ostiaryref05_front rfl rfl (β := Va.z) [] 0 [] [] rfl rfl (Sat.start rfl) ?_
  intro b
  refine ⟨0, 4, 24, 28, _, _, Bx.front.map byte, rfl, ⟨rfl, rfl, fun u hu => by obtain rfl := List.mem_singleton.1 hu; rfl⟩, rfl, rfl, by rw [maxLen_eq]; decide, by decide, ?_⟩
  intro A' c' h1 h2 _ β w' hs
  exact hs.fin [0] ⟨A', c', rfl, h1, h2, rfl⟩
theorem be4_eq (n : Nat) : be 4 n = Bx.be4 n := by
  have key : ∀ m : Nat, UInt8.ofNat (m % 256) = UInt8.ofNat m := fun m => by
    apply UInt8.toNat_inj.1
    simp
  simp [be, Bx.be4, key, Nat.div_div_eq_div_mul]
theorem rhandle_c (w : World) (n : Nat) (hn : n < 4294967296) : Con Tryz.prog n_ostiaryref05_Handle #[.int .i64 n] w [] fun v Fs => ∃ A c, v = .slice A 32 c ∧ 32 ≤ c ∧ c ≤ maxLen ∧ Fs = [browF ty_uint8 A (Bx.handle n) c] := by
  refine con_of_sx (cx := cx_ostiaryref05_Handle w (Un [])) (good_ostiaryref05_Handle w (Un [])) b_ostiaryref05_Handle rfl rfl (β := Va.z) [.c (.v (.int .i64 n))] 0 [] [] rfl rfl (Sat.start rfl) ?_
  refine call_con [] (fun β w' hs => rfront_c w') ?_
  rintro v Fs ⟨A, c, rfl, h1, h2, rfl⟩
  refine ⟨(n : Int), by rw [wrap_u32]; omega, ?_⟩
  refine ⟨(n : Int), by rw [wrap_u64']; omega, ?_⟩
  refine call_con [] (fun β w' hs => be_con w' n 4 (by omega) (by decide)) ?_
  rintro v Fs ⟨A2, c2, rfl, _, _, rfl⟩
  refine ⟨1, 28, 32, Bx.front.map byte, (be 4 n).map byte, (Bx.handle n).map byte, rfl, fun β w hs => row_rd (hs.get 0 rfl), bytes_one _, rfl, by rw [be4_eq, ← List.map_append]; rfl, by rw [maxLen_eq]; decide, by decide, ?_⟩
  intro A' c' q1 q2 _ β w' hs
  exact hs.fin [1] ⟨A', c', rfl, q1, q2, rfl⟩
theorem numB_num (l : List UInt8) : numB l = Bx.num l % 18446744073709551616 := by
  have key : ∀ (l : List UInt8) (a : Nat), l.foldl (fun a x => (a * 256 + x.toNat) % 18446744073709551616) (a % 18446744073709551616) = l.foldl (fun n b => n * 256 + b.toNat) a % 18446744073709551616 := by
    intro l
    induction l with
    | nil => intro a; rfl
    | cons x r ih =>
      intro a
      simp only [List.foldl_cons]
      rw [show (a % 18446744073709551616 * 256 + x.toNat) % 18446744073709551616 = (a * 256 + x.toNat) % 18446744073709551616 by omega, ih]
  exact key l 0
theorem num4 {l : List UInt8} (h : l.length = 32) : Bx.num (l.drop 28) < 4294967296 := by
  have h1 := num_lt (l.drop 28)
  have h2 : (l.drop 28).length = 4 := by rw [List.length_drop]; omega
  rw [h2] at h1
  exact h1
def looksV (l : List UInt8) : Value := match Bx.looks l with
  | some n => .tuple #[.int .i64 (n : Int), .bool true]
  | none => .tuple #[.int .i64 0, .bool false]
theorem looks_c (w : World) (A : Option Addr) (l : List UInt8) (c : Nat) (hr : Bs w A l) (hc : l.length ≤ c) (hn : l.length ≤ 1000000000) : Pu Tryz.prog n_ostiaryref05_Looks #[.slice A l.length c] w (looksV l) := by
  have g := good_ostiaryref05_Looks w (Un [])
  refine con_of_sx (cx := cx_ostiaryref05_Looks w (Un [])) g b_ostiaryref05_Looks rfl rfl (β := Va.z) [.c (.v (.slice A l.length c))] 0 [] [oldF w] rfl rfl (old_sat rfl) ?_
  refine draw_rule g p_ostiaryref05_Looks_1 (by kernel_rfl) [] [oldF w] Sub.refl ?_
  have none_ : (Bx.looks l = none) → ∀ (n : Nat) (H : List Bk) (F : List Fact), ∀ β w', Sat (cx_ostiaryref05_Looks w (Un [])) β n H F w' → Fin w [] (fun u Fs => u = looksV l ∧ Fs = []) (.tuple #[.int .i64 0, .bool false]) w' := fun h n H F β w' hs => hs.fin [] ⟨by unfold looksV; rw [h], rfl⟩
  refine BIf.not (BIf.dec (fun h32 => ?_) (fun h32 => ?_))
  · have hl : l.length = 32 := by omega
    refine ⟨c, 28, 0, 28, c, _, rfl, rfl, rfl, by omega, by omega, Nat.zero_le _, rfl, rfl, rfl, ?_⟩
    refine call_con [] (fun β w' hs => rfront_c w') ?_
    rintro v Fs ⟨A2, c2, rfl, q1, _, rfl⟩
    refine ⟨subPerm [1], ?_⟩
    have e28 : (l.take 28).length = 28 := by simp; omega
    refine call_pu (v := .bool (decide (l.take 28 = Bx.front))) (fun β w' hs => by
      have h := pu_of (same_c w' (cutA A c 0 1) A2 (l.take 28) Bx.front c c2 (Bs.cutB (Rd.old hr (hs.get 1 rfl)) hc (Nat.zero_le 28) (by omega) (by simp)) (row_rd (hs.get 0 rfl)))
      rw [e28] at h
      exact h) ?_
    refine ⟨subPerm [1], ?_⟩
    refine BIf.not (BIf.dec (fun hf => ?_) (fun hf => ?_))
    · have hlk : Bx.looks l = some (Bx.num (l.drop 28)) := by unfold Bx.looks; rw [if_pos ⟨hl, hf⟩]
      refine ⟨c, 32, 28, 4, c - 28, _, rfl, hl.symm, rfl, by omega, by omega, by omega, rfl, rfl, rfl, ?_⟩
      have hd : (l.drop 28).length = 4 := by simp; omega
      have h4 := num4 hl
      have hrd : ∀ w', (oldF w).p w' → Bs w' (cutA A c 28 1) (l.drop 28) := fun w' ho => Bs.cutB (Rd.old hr ho) hc (show 28 ≤ 32 by decide) (by omega) (by rw [List.take_of_length_le (by omega)])
      refine call_pu (v := .int .u64 (Bx.num (l.drop 28))) (fun β w' hs => by
        have h := pu_of (num_c w' (cutA A c 28 1) (l.drop 28) (c - 28) (hrd w' (hs.get 1 rfl)) (by rw [lim_eq]; omega))
        rw [hd, numB_num, Nat.mod_eq_of_lt (by omega)] at h
        exact h) ?_
      refine ⟨(Bx.num (l.drop 28) : Int), wrap_i64 (by omega) (by omega), ?_⟩
      intro β w' hs
      refine hs.fin [] ⟨?_, rfl⟩
      unfold looksV
      rw [hlk]
      rfl
    · exact none_ (by unfold Bx.looks; rw [if_neg (fun q => hf q.2)]) _ _ _
  · exact ⟨Sub.refl, Sub.refl, none_ (by unfold Bx.looks; rw [if_neg (fun q => h32 (by have := q.1; omega))]) _ _ _⟩
end Go.Proofs.YthkjfepbmnabkaaGreatDoor.Sx

/- The reference's terms: lists of numbers compared, terms compared. -/
namespace Go.Proofs.YthkjfepbmnabkaaGreatDoor.Sx
open Go
attribute [local irreducible] Calls

theorem rints_c (w : World) (A B : Option Addr) (l m : List Nat) (c d : Nat) (hl : Rd 1 A l.length (ints l) w) (hm : Rd 1 B m.length (ints m) w) (hn : l.length ≤ 1000000) :
    Pu Tryz.prog n_ostiaryref05_ints #[.slice A l.length c, .slice B m.length d] w (.bool (decide (l = m))) := by
  have g := good_ostiaryref05_ints w (Un [])
  refine con_of_sx (cx := cx_ostiaryref05_ints w (Un [])) g b_ostiaryref05_ints rfl rfl (β := Va.z) [.c (.v (.slice A l.length c)), .c (.v (.slice B m.length d))] 0 [] [oldF w] rfl rfl (old_sat rfl) ?_
  refine BIf.not (BIf.dec (fun h0 => ?_) (fun h0 => ?_))
  · have hlen : l.length = m.length := by omega
    refine loop_rule 0 (fun k : Nat => [(0, .c (.v (.slice A l.length c))), (1, .c (.v (.slice B m.length d))), (12, .c (.v (.int .i64 l.length))), (13, .c (.v (.int .i64 k)))]) (fun _ => []) (fun _ => [oldF w])
      (fun k => k ≤ l.length ∧ l.take k = m.take k) (fun k => l.length - k) 0 ⟨Nat.zero_le _, by simp⟩ (Ent.same ⟨rfl, rfl, rfl, rfl, trivial⟩ rfl) g ?_
    rintro k ⟨hk, htk⟩
    refine BIf.dec (fun hlt => ?_) (fun hge => ?_)
    · have hlt0 : (k : Int) < l.length := hlt
      have hkl : k < l.length := by omega
      have hkm : k < m.length := by omega
      obtain ⟨x, hx, _⟩ := at_lt hkl
      obtain ⟨y, hy, _⟩ := at_lt hkm
      obtain ⟨ad, hA, _⟩ := hl.2 (by omega)
      obtain ⟨bd, hB, _⟩ := hm.2 (by omega)
      refine draw_rule g p_ostiaryref05_ints_6 (by kernel_rfl) [] [oldF w] Sub.refl ?_
      refine ⟨ad, k, hA, rfl, hkl, .int .i64 (x : Int), fun β w' hs => Rd.cell1 (by have h := Rd.old hl (hs.get 0 rfl); rw [hA] at h; exact h) (ints_at hx), ?_⟩
      refine ⟨bd, k, hB, rfl, hkm, .int .i64 (y : Int), fun β w' hs => Rd.cell1 (by have h := Rd.old hm (hs.get 0 rfl); rw [hB] at h; exact h) (ints_at hy), ?_⟩
      have hsn : ∀ (l : List Nat) (x : Nat), l[k]? = some x → l.take (k + 1) = l.take k ++ [x] := fun l x h => by rw [List.take_add_one, h]; rfl
      refine BIf.not (BIf.dec (fun he => ?_) (fun he => ?_))
      · have he0 : x = y := by have : (x : Int) = (y : Int) := he; omega
        refine ⟨((k + 1 : Nat) : Int), by rw [wrap_i64 (by omega) (by omega)]; rfl, ?_⟩
        refine ⟨k + 1, ⟨hkl, by rw [hsn l x hx, hsn m y hy, htk, he0]⟩, by omega, Ent.same ⟨rfl, rfl, rfl, rfl, trivial⟩ rfl⟩
      · have he0 : ¬ x = y := fun q => he (by rw [q])
        intro β w' hs
        refine hs.fin [] ⟨?_, rfl⟩
        show Value.bool false = _
        congr 1
        refine (decide_eq_false fun q => he0 ?_).symm
        rw [q, hy] at hx
        exact (Option.some.inj hx).symm
    · have hge0 : ¬ (k : Int) < l.length := hge
      obtain rfl : k = l.length := by omega
      rw [List.take_length, List.take_of_length_le (by omega)] at htk
      intro β w' hs
      refine hs.fin [] ⟨?_, rfl⟩
      show Value.bool true = _
      congr 1
      exact (decide_eq_true htk).symm
  · intro β w' hs
    refine hs.fin [] ⟨?_, rfl⟩
    show Value.bool false = _
    congr 1
    exact (decide_eq_false (fun h => h0 (by rw [h]))).symm
open Classical in
theorem rterm_c (w : World) (s t : Bx.Term) (a b : TA) (hs : TRd s a w) (ht : TRd t b w) (hz : TSz s) :
    Pu Tryz.prog n_ostiaryref05_Same #[.agg (termV s a).toArray, .agg (termV t b).toArray] w (.bool (decide (s = t))) := by
  have g := good_ostiaryref05_Same w (Un [])
  have hlist := hz.list
  refine con_of_sx (cx := cx_ostiaryref05_Same w (Un [])) g b_ostiaryref05_Same rfl rfl (β := Va.z) [.agg (termS s a), .agg (termS t b)] 0 [] [oldF w] rfl rfl (old_sat rfl) ?_
  have no : ∀ {n : Nat} {H : List Bk}, ¬ s = t → ∀ β w', Sat (cx_ostiaryref05_Same w (Un [])) β n H [oldF w] w' → Fin w [] (fun u Fs => u = .bool (decide (s = t)) ∧ Fs = []) (.bool false) w' := fun h β w' hs => by
    refine (hs.keepB (List.nil_sublist _)).fin [] ⟨?_, rfl⟩
    show Value.bool false = _
    congr 1
    exact (decide_eq_false h).symm
  obtain ⟨k1, hk1⟩ : ∃ k1 : Int, (s.kind : Int) = k1 := ⟨_, rfl⟩
  obtain ⟨k2, hk2⟩ : ∃ k2 : Int, (t.kind : Int) = k2 := ⟨_, rfl⟩
  obtain ⟨r1, hr1⟩ : ∃ r1 : Int, (s.rounds : Int) = r1 := ⟨_, rfl⟩
  obtain ⟨r2, hr2⟩ : ∃ r2 : Int, (t.rounds : Int) = r2 := ⟨_, rfl⟩
  rw [show termS s a = [.v (.int .i64 k1), .v (.slice a.k s.key.length a.kc), .v (.slice a.t s.text.length a.tc), .v (.int .i64 r1), .v (.slice a.l s.list.length a.lc), .v (.slice a.m s.mask.length a.mc)] by rw [← hk1, ← hr1]; rfl, show termS t b = [.v (.int .i64 k2), .v (.slice b.k t.key.length b.kc), .v (.slice b.t t.text.length b.tc), .v (.int .i64 r2), .v (.slice b.l t.list.length b.lc), .v (.slice b.m t.mask.length b.mc)] by rw [← hk2, ← hr2]; rfl]
  conv => whnf
  generalize h1 : decide (k1 = k2) = b1
  cases b1 with
  | false => exact no (fun q => of_decide_eq_false h1 (by rw [← hk1, ← hk2, q]))
  | true =>
  obtain ⟨b2, h2⟩ : ∃ x, decide (s.key = t.key) = x := ⟨_, rfl⟩
  refine call_pu (v := .bool b2) (fun β w' hs' => by
    have h := pu_of (same_c w' a.k b.k s.key t.key a.kc b.kc (Rd.old hs.hk (hs'.get 0 rfl)) (Rd.old ht.hk (hs'.get 0 rfl)))
    rw [h2] at h
    exact h) ?_
  cases b2 with
  | false => exact no (fun q => of_decide_eq_false h2 (by rw [q]))
  | true =>
  obtain ⟨b3, h3⟩ : ∃ x, decide (s.text = t.text) = x := ⟨_, rfl⟩
  refine call_pu (v := .bool b3) (fun β w' hs' => by
    have h := pu_of (same_c w' a.t b.t s.text t.text a.tc b.tc (Rd.old hs.ht (hs'.get 0 rfl)) (Rd.old ht.ht (hs'.get 0 rfl)))
    rw [h3] at h
    exact h) ?_
  cases b3 with
  | false => exact no (fun q => of_decide_eq_false h3 (by rw [q]))
  | true =>
  conv => whnf
  generalize h4 : decide (r1 = r2) = b4
  cases b4 with
  | false => exact no (fun q => of_decide_eq_false h4 (by rw [← hr1, ← hr2, q]))
  | true =>
  obtain ⟨b5, h5⟩ : ∃ x, decide (s.list = t.list) = x := ⟨_, rfl⟩
  refine call_pu (v := .bool b5) (fun β w' hs' => by
    have h := rints_c w' a.l b.l s.list t.list a.lc b.lc (Rd.old hs.hl (hs'.get 0 rfl)) (Rd.old ht.hl (hs'.get 0 rfl)) (by omega)
    rw [h5] at h
    exact h) ?_
  cases b5 with
  | false => exact no (fun q => of_decide_eq_false h5 (by rw [q]))
  | true =>
  obtain ⟨b6, h6⟩ : ∃ x, decide (s.mask = t.mask) = x := ⟨_, rfl⟩
  refine call_pu (v := .bool b6) (fun β w' hs' => by
    have h := pu_of (same_c w' a.m b.m s.mask t.mask a.mc b.mc (Rd.old hs.hm (hs'.get 0 rfl)) (Rd.old ht.hm (hs'.get 0 rfl)))
    rw [h6] at h
    exact h) ?_
  cases b6 with
  | false => exact no (fun q => of_decide_eq_false h6 (by rw [q]))
  | true =>
  intro β w' hs'
  refine (hs'.keepB (List.nil_sublist _)).fin [] ⟨?_, rfl⟩
  show Value.bool true = _
  congr 1
  refine (decide_eq_true ?_).symm
  have e1 : s.kind = t.kind := by have := of_decide_eq_true h1; omega
  have e4 : s.rounds = t.rounds := by have := of_decide_eq_true h4; omega
  have e2 := of_decide_eq_true h2
  have e3 := of_decide_eq_true h3
  have e5 := of_decide_eq_true h5
  have e6 := of_decide_eq_true h6
  obtain ⟨sk, skk, st, sr, sl, sm⟩ := s
  obtain ⟨tk, tkk, tt, tr, tl, tm⟩ := t
  simp only at e1 e2 e3 e4 e5 e6
  subst e1 e2 e3 e4 e5 e6
  rfl
end Go.Proofs.YthkjfepbmnabkaaGreatDoor.Sx

/- The reference's box in memory; a term's handle. -/
namespace Go.Proofs.YthkjfepbmnabkaaGreatDoor.Sx
open Go
attribute [local irreducible] Calls

def rCells (B : Bx.Box) (y : Lay) : List Value := [.bool B.sym, .slice y.A B.L.length y.c, .bool B.full]
def rbxFs (b : Nat) (B : Bx.Box) (y : Lay) : List Fact := [bkF b ty_ostiaryref05_Box (rCells B y), rowF ty_ostiaryref05_Term 6 (.slice y.A B.L.length y.c) B.L.length (termsV y.ts), partsF y.ts]
/-- The reference's box, whole. -/
def rbxF (b : Nat) (B : Bx.Box) (y : Lay) : Fact := sepF (rbxFs b B y)
def rtagOut (b : Nat) (r : List UInt8 × Bx.Box) (v : Value) (Fs : List Fact) : Prop :=
  ∃ A c y', v = .slice A 32 c ∧ 32 ≤ c ∧ c ≤ maxLen ∧ y'.ts.map (·.1) = r.2.L ∧ Fs = [browF ty_uint8 A r.1 c, rbxF b r.2 y']
theorem place_at {t : Bx.Term} : ∀ {L : List Bx.Term} {k : Nat}, L[k]? = some t → t ∉ L.take k → Bx.place t L = some k
  | x :: r, 0, h, _ => by
    obtain rfl : x = t := by simpa using h
    simp [Bx.place]
  | x :: r, k + 1, h, hn => by
    have hx : ¬ x = t := fun q => hn (by simp [q])
    have h2 := place_at (L := r) (k := k) (by simpa using h) (fun q => hn (by simp [q]))
    simp only [Bx.place, if_neg hx, h2]
    rfl
open Classical in
theorem rtag_c (w : World) (b : Nat) (B : Bx.Box) (y : Lay) (t : Bx.Term) (a : TA) (hts : y.ts.map (·.1) = B.L) (hL : B.L.length ≤ 4096) (hsz : ∀ t ∈ B.L, TSz t) (hs : TSz t) (hm : Mem w [rbxF b B y, partsF [(t, a)]]) :
    Con Tryz.prog n_ostiaryref05_Tag #[ptrB b, .agg (termV t a).toArray] w [rbxF b B y, partsF [(t, a)]] (rtagOut b (B.tag t)) := by
  have g := good_ostiaryref05_Tag w (Un [rbxF b B y, partsF [(t, a)]])
  have hs0 : Sat (cx_ostiaryref05_Tag w (Un [rbxF b B y, partsF [(t, a)]])) Va.z 0 [] [rbxF b B y, partsF [(t, a)]] w := hm.sat0 rfl (fun f hf _ k hk => ⟨f, hf, hk⟩)
  have hs1 := hs0.unsep 0 rfl
  have hlen : y.ts.length = B.L.length := by rw [← hts, List.length_map]
  refine con_of_sx (cx := cx_ostiaryref05_Tag w (Un [rbxF b B y, partsF [(t, a)]])) g b_ostiaryref05_Tag rfl rfl (β := Va.z) [.c (.v (ptrB b)), .agg (termS t a)] 0 [] (rbxFs b B y ++ [partsF [(t, a)]]) rfl rfl hs1 ?_
  refine ⟨.slice y.A B.L.length y.c, fun β w' hs' => bk_cell (hs'.get 0 rfl) (o := 1) rfl, ?_⟩
  refine loop_rule 1 (fun k : Nat => [(0, .c (.v (ptrB b))), (3, .c (.p 0 0)), (10, .c (.v (.slice y.A B.L.length y.c))), (11, .c (.v (.int .i64 B.L.length))), (12, .c (.v (.int .i64 k)))]) (fun _ => [⟨0, ty_ostiaryref05_Term, termS t a⟩]) (fun _ => rbxFs b B y ++ [partsF [(t, a)]])
    (fun k => k ≤ B.L.length ∧ t ∉ B.L.take k) (fun k => B.L.length - k) 0 ⟨Nat.zero_le _, by simp⟩ (Ent.same ⟨rfl, rfl, rfl, rfl, rfl, trivial⟩ rfl) g ?_
  rintro k ⟨hk, hno⟩
  refine BIf.dec (fun hlt => ?_) (fun hge => ?_)
  · have hlt0 : (k : Int) < B.L.length := hlt
    have hkl : k < B.L.length := by omega
    obtain ⟨q, hq, hqm⟩ := at_lt (l := y.ts) (k := k) (by omega)
    have hqL : B.L[k]? = some q.1 := by rw [← hts, List.getElem?_map, hq]; rfl
    have hqB : q.1 ∈ B.L := List.mem_of_getElem? hqL
    have hrd : ∀ w', (rowF ty_ostiaryref05_Term 6 (.slice y.A B.L.length y.c) B.L.length (termsV y.ts)).p w' → Rd 6 y.A B.L.length (termsV y.ts) w' := fun w' h => row_rd h
    obtain ⟨ad, hA, _⟩ := (hrd w (hs1.get 1 rfl)).2 (by omega)
    refine ⟨ad, k, hA, rfl, hkl, ?_⟩
    refine ⟨termV q.1 q.2, rfl, fun β w' hs' => ?_, ?_⟩
    · have h := hrd w' (hs'.get 1 rfl)
      rw [← hlen] at h
      obtain ⟨hil, hie⟩ := List.getElem?_eq_some_iff.1 hq
      have h2 := Rd.elem (f := fun p : Bx.Term × TA => termV p.1 p.2) (fun _ => rfl) h hA hil
      rw [hie] at h2
      exact h2
    refine call_pu (fun β w' hs' => rterm_c w' q.1 t q.2 a ((show (partsF y.ts).p w' from hs'.get 2 rfl) q hqm) ((show (partsF [(t, a)]).p w' from hs'.get 3 rfl) (t, a) (List.mem_singleton.2 rfl)) (hsz _ hqB)) ?_
    refine BIf.dec (fun he => ?_) (fun he => ?_)
    · have he0 : q.1 = t := he
      refine ⟨((k + 1 : Nat) : Int), by rw [wrap_i64 (by omega) (by omega)]; rfl, ?_⟩
      refine call_con [] (fun β w' hs' => rhandle_c w' (k + 1) (by omega)) ?_
      rintro v Fs ⟨A1, c1, rfl, q1, q2, rfl⟩
      have htag : B.tag t = (Bx.handle (k + 1), B) := by unfold Bx.Box.tag; rw [place_at (by rw [hqL, he0]) hno]
      intro β w' hs'
      have hs2 := (hs'.keepB (List.nil_sublist _)).sep [1, 2, 3] rfl ⟨rfl, rfl, rfl, trivial⟩
      exact hs2.fin [1, 0] ⟨A1, c1, y, rfl, q1, q2, by rw [htag]; exact hts, by rw [htag]; rfl⟩
    · have he0 : ¬ q.1 = t := he
      refine ⟨((k + 1 : Nat) : Int), by rw [wrap_i64 (by omega) (by omega)]; rfl, ?_⟩
      refine ⟨k + 1, ⟨hkl, ?_⟩, by omega, ?_⟩
      · rw [List.take_add_one, hqL]
        intro q'
        rcases List.mem_append.1 q' with q' | q'
        · exact hno q'
        · exact he0 (List.mem_singleton.1 q').symm
      · exact Ent.mk' ⟨rfl, rfl, rfl, rfl, rfl, trivial⟩ rfl (fun β w' hs' => (hs'.keepB (List.sublist_cons_self _ _)).lower)
  have hge0 : ¬ (k : Int) < B.L.length := hge
  obtain rfl : k = B.L.length := by omega
  rw [List.take_length] at hno
  have hpl := place_not hno
  refine ⟨.slice y.A B.L.length y.c, fun β w' hs' => bk_cell (hs'.get 0 rfl) (o := 1) rfl, ?_⟩
  refine BIf.dec (fun hge => ?_) (fun hlt => ?_)
  · have hge0 : (4096 : Int) ≤ (B.L.length : Int) := hge
    have hge1 : 4096 ≤ B.L.length := by omega
    refine ⟨_, fun β w' hs' => hs'.bkSet 0 (o := 2) (us := [.bool true]) rfl (by show 3 ≤ 3; decide) (one_mem rfl), ?_⟩
    refine ⟨32, 32, rfl, rfl, Nat.le_refl _, by decide, by decide, ?_⟩
    intro b2
    have htag : B.tag t = (Bx.noughts, { B with full := true }) := by unfold Bx.Box.tag; rw [hpl]; simp only; rw [if_pos hge1]
    intro β w' hs'
    have hs2 := (hs'.keepB (List.nil_sublist _)).sep [1, 2, 3] rfl ⟨rfl, rfl, rfl, trivial⟩
    exact hs2.fin [1, 0] ⟨some ⟨b2, 0, none⟩, 32, y, rfl, Nat.le_refl _, by decide, by rw [htag]; exact hts, by rw [htag]; rfl⟩
  have hlt0 : ¬ (4096 : Int) ≤ (B.L.length : Int) := hlt
  have hlt1 : ¬ 4096 ≤ B.L.length := by omega
  have htag : B.tag t = (Bx.handle (B.L.length + 1), { B with L := B.L ++ [t] }) := by unfold Bx.Box.tag; rw [hpl]; simp only; rw [if_neg hlt1]
  have hone : ∀ u ∈ termsV y.ts, u.oneCell' = true := by
    intro u hu
    obtain ⟨p, _, hp⟩ := List.mem_flatMap.1 hu
    exact termV_one _ _ u hp
  -- behind the store
  have fin_ : ∀ {A' : Option Addr} {c' : Nat} {β : Va} {w' : World} {n : Nat} {H : List Bk} {F : List Fact} {A9 : Option Addr} {c9 : Nat} (_ : 32 ≤ c9) (_ : c9 ≤ maxLen) (js : List Nat), nodupB js = true → takeIx F js = [browF ty_uint8 A9 (Bx.handle (B.L.length + 1)) c9, bkF b ty_ostiaryref05_Box [.bool B.sym, .slice A' (B.L.length + 1) c', .bool B.full], rowF ty_ostiaryref05_Term 6 (.slice A' (B.L.length + 1) c') (B.L.length + 1) (termsV (y.ts ++ [(t, a)])), partsF y.ts, partsF [(t, a)]] →
      Sat (cx_ostiaryref05_Tag w (Un [rbxF b B y, partsF [(t, a)]])) β n H F w' → Fin w [rbxF b B y, partsF [(t, a)]] (rtagOut b (B.tag t)) (.slice A9 32 c9) w' := by
    intro A' c' β w' n H F A9 c9 q1 q2 js hnd hjs hs'
    have hs2 := (hs'.keepB (List.nil_sublist _)).perm js hnd
    rw [hjs] at hs2
    have hs3 := hs2.fuse [3, 4] (partsF (y.ts ++ [(t, a)])) (fun w hm => ?_) (fun k hk => ?_) rfl ⟨rfl, rfl, trivial⟩
    · have hs4 := hs3.sep [2, 3, 0] rfl ⟨rfl, rfl, rfl, trivial⟩
      refine hs4.fin [1, 0] ⟨A9, c9, ⟨A', c', 0, y.ts ++ [(t, a)]⟩, rfl, q1, q2, ?_, ?_⟩
      · rw [htag]
        show (y.ts ++ [(t, a)]).map (·.1) = B.L ++ [t]
        rw [List.map_append, hts]
        rfl
      · rw [htag]
        have e : rbxF b { B with L := B.L ++ [t] } ⟨A', c', 0, y.ts ++ [(t, a)]⟩ = sepF [bkF b ty_ostiaryref05_Box [.bool B.sym, .slice A' (B.L.length + 1) c', .bool B.full], rowF ty_ostiaryref05_Term 6 (.slice A' (B.L.length + 1) c') (B.L.length + 1) (termsV (y.ts ++ [(t, a)])), partsF (y.ts ++ [(t, a)])] := by
          simp [rbxF, rbxFs, rCells]
        show _ = [browF ty_uint8 A9 (Bx.handle (B.L.length + 1)) c9, rbxF b { B with L := B.L ++ [t] } ⟨A', c', 0, y.ts ++ [(t, a)]⟩]
        rw [e]
        rfl
    · have hm' : Mem w [partsF y.ts, partsF [(t, a)]] := hm
      intro p hp
      rcases List.mem_append.1 hp with hp | hp
      · exact hm'.fact (partsF y.ts) (by simp) p hp
      · exact hm'.fact (partsF [(t, a)]) (by simp) p hp
    · show Un [partsF y.ts, partsF [(t, a)]] k
      obtain ⟨p, hp, hk⟩ := hk
      rcases List.mem_append.1 hp with hp | hp
      · exact ⟨partsF y.ts, by simp, p, hp, hk⟩
      · exact ⟨partsF [(t, a)], by simp, p, hp, hk⟩
  refine draw_rule g p_ostiaryref05_Tag_10 (by kernel_rfl) [⟨0, ty_ostiaryref05_Term, termS t a⟩] [bkF b ty_ostiaryref05_Box (rCells B y)] (subPerm [0]) ?_
  refine ⟨.slice y.A B.L.length y.c, fun β w' hs' => bk_cell (hs'.get 0 rfl) (o := 1) rfl, ?_⟩
  have hcap : B.L.length + 1 ≤ maxLen := by rw [maxLen_eq]; omega
  have hbx : ∀ (A' : Option Addr) (c' : Nat), putAll (rCells B y) 1 [.slice A' (B.L.length + 1) c'] = [.bool B.sym, .slice A' (B.L.length + 1) c', .bool B.full] := fun _ _ => rfl
  -- the last steps: the row is stored, the handle told
  refine ⟨?_, ?_⟩
  · intro b1
    refine ⟨subPerm [1], ?_⟩
    refine ⟨?_, ?_⟩
    · refine ⟨0, 0, B.L.length, [], termsV y.ts, termsV y.ts, rfl, fun β w' hs' => row_rd (hs'.get 2 rfl), hone, Nat.zero_add _, rfl, by omega, by show B.L.length * 112 ≤ _; omega, ?_⟩
      intro A1 c1 q1 q2 q3
      refine ⟨subPerm [1], ?_⟩
      intro b7
      refine ⟨subPerm [2], ?_⟩
      refine ⟨1, B.L.length, B.L.length + 1, termsV y.ts, termV t a, termsV (y.ts ++ [(t, a)]), rfl, fun β w' hs' => row_rd (hs'.get 0 rfl), termV_one t a, rfl, by simp [termsV], hcap, by show (B.L.length + 1) * 112 ≤ _; omega, ?_⟩
      intro A' c' q4 q5 q6
      refine ⟨subPerm [2], ?_⟩
      refine ⟨subPerm [2], ?_⟩
      refine ⟨_, fun β w' hs' => hs'.bkSet 2 (o := 1) (us := [.slice A' (B.L.length + 1) c']) rfl (by show 2 ≤ 3; decide) (one_mem rfl), ?_⟩
      rw [hbx]
      refine ⟨.slice A' (B.L.length + 1) c', fun β w' hs' => bk_cell (hs'.get 2 rfl) (o := 1) rfl, ?_⟩
      refine call_con [] (fun β w' hs' => rhandle_c w' (B.L.length + 1) (by omega)) ?_
      rintro v Fs ⟨A9, c9, rfl, r1, r2, rfl⟩
      intro β w' hs'
      exact fin_ r1 r2 [0, 3, 2, 5, 6] rfl rfl hs'
    · intro b7
      refine ⟨subPerm [2], ?_⟩
      refine ⟨1, 0, B.L.length, [], termsV y.ts, termsV y.ts, rfl, fun β w' hs' => row_rd (hs'.get 3 rfl), hone, Nat.zero_add _, rfl, by omega, by show B.L.length * 112 ≤ _; omega, ?_⟩
      intro A1 c1 q1 q2 q3
      refine ⟨subPerm [2], ?_⟩
      refine ⟨1, B.L.length, B.L.length + 1, termsV y.ts, termV t a, termsV (y.ts ++ [(t, a)]), rfl, fun β w' hs' => row_rd (hs'.get 0 rfl), termV_one t a, rfl, by simp [termsV], hcap, by show (B.L.length + 1) * 112 ≤ _; omega, ?_⟩
      intro A' c' q4 q5 q6
      refine ⟨subPerm [2], ?_⟩
      refine ⟨subPerm [2], ?_⟩
      refine ⟨_, fun β w' hs' => hs'.bkSet 2 (o := 1) (us := [.slice A' (B.L.length + 1) c']) rfl (by show 2 ≤ 3; decide) (one_mem rfl), ?_⟩
      rw [hbx]
      refine ⟨.slice A' (B.L.length + 1) c', fun β w' hs' => bk_cell (hs'.get 2 rfl) (o := 1) rfl, ?_⟩
      refine call_con [] (fun β w' hs' => rhandle_c w' (B.L.length + 1) (by omega)) ?_
      rintro v Fs ⟨A9, c9, rfl, r1, r2, rfl⟩
      intro β w' hs'
      exact fin_ r1 r2 [0, 3, 2, 5, 6] rfl rfl hs'
  · intro b7
    refine ⟨subPerm [1], ?_⟩
    intro b1
    refine ⟨subPerm [2], ?_⟩
    refine ⟨0, 0, B.L.length, [], termsV y.ts, termsV y.ts, rfl, fun β w' hs' => row_rd (hs'.get 3 rfl), hone, Nat.zero_add _, rfl, by omega, by show B.L.length * 112 ≤ _; omega, ?_⟩
    intro A1 c1 q1 q2 q3
    refine ⟨subPerm [2], ?_⟩
    refine ⟨0, B.L.length, B.L.length + 1, termsV y.ts, termV t a, termsV (y.ts ++ [(t, a)]), rfl, fun β w' hs' => row_rd (hs'.get 1 rfl), termV_one t a, rfl, by simp [termsV], hcap, by show (B.L.length + 1) * 112 ≤ _; omega, ?_⟩
    intro A' c' q4 q5 q6
    refine ⟨subPerm [2], ?_⟩
    refine ⟨subPerm [2], ?_⟩
    refine ⟨_, fun β w' hs' => hs'.bkSet 2 (o := 1) (us := [.slice A' (B.L.length + 1) c']) rfl (by show 2 ≤ 3; decide) (one_mem rfl), ?_⟩
    rw [hbx]
    refine ⟨.slice A' (B.L.length + 1) c', fun β w' hs' => bk_cell (hs'.get 2 rfl) (o := 1) rfl, ?_⟩
    refine call_con [] (fun β w' hs' => rhandle_c w' (B.L.length + 1) (by omega)) ?_
    rintro v Fs ⟨A9, c9, rfl, r1, r2, rfl⟩
    intro β w' hs'
    exact fin_ r1 r2 [0, 3, 1, 5, 6] rfl rfl hs'
end Go.Proofs.YthkjfepbmnabkaaGreatDoor.Sx

/- The reference's box: hashes, sums with a key, stretched passwords. -/
namespace Go.Proofs.YthkjfepbmnabkaaGreatDoor.Sx
open Go
attribute [local irreducible] Calls

theorem row_D {size e n c k : Nat} {A : Option Addr} {xs : List Value} (h : (rdF size A n xs).D k) : (rowF e size (.slice A n c) n xs).D k := by
  obtain ⟨_, ad, rfl, rfl⟩ := h
  rfl
/-- A term that has two rows. -/
theorem Sat.part2o {cx : Cx} {β : Va} {n : Nat} {H : List Bk} {F : List Fact} {w : World} (h : Sat cx β n H F w) (js : List Nat) (t : Bx.Term) (a : TA) (hl : t.list = []) (hm : t.mask = []) (hj : takeIx F js = [browF ty_uint8 a.k t.key a.kc, browF ty_uint8 a.t t.text a.tc]) (hn : nodupB js = true := by rfl) : Sat cx β n H (partsF [(t, a)] :: dropIx js 0 F) w :=
  h.fuse js (partsF [(t, a)]) (fun w hw p hp => by
    rw [hj] at hw
    obtain rfl := List.mem_singleton.1 hp
    exact ⟨row_rd (hw.fact (browF ty_uint8 a.k t.key a.kc) (by simp)), row_rd (hw.fact (browF ty_uint8 a.t t.text a.tc) (by simp)), by rw [hl]; exact rd_nil w a.l, by rw [hm]; exact Bs.nil w a.m⟩) (fun k hk => by
    rw [hj]
    obtain ⟨p, hp, hk⟩ := hk
    obtain rfl := List.mem_singleton.1 hp
    rcases hk with hk | hk | hk | hk
    · exact ⟨_, List.mem_cons_self, row_D hk⟩
    · exact ⟨browF ty_uint8 a.t t.text a.tc, by simp, row_D hk⟩
    · rw [hl] at hk
      exact absurd hk.1 (by simp)
    · rw [hm] at hk
      exact absurd hk.1 (by simp)) hn (by rw [hj]; exact ⟨rfl, rfl, trivial⟩)
/-- A term that has a list and a mask. -/
theorem Sat.part2l {cx : Cx} {β : Va} {n : Nat} {H : List Bk} {F : List Fact} {w : World} (h : Sat cx β n H F w) (js : List Nat) (t : Bx.Term) (a : TA) (hl : t.key = []) (hm : t.text = []) (hj : takeIx F js = [irowF a.l t.list a.lc, browF ty_uint8 a.m t.mask a.mc]) (hn : nodupB js = true := by rfl) : Sat cx β n H (partsF [(t, a)] :: dropIx js 0 F) w :=
  h.fuse js (partsF [(t, a)]) (fun w hw p hp => by
    rw [hj] at hw
    obtain rfl := List.mem_singleton.1 hp
    exact ⟨by rw [hl]; exact Bs.nil w a.k, by rw [hm]; exact Bs.nil w a.t, row_rd (hw.fact (irowF a.l t.list a.lc) (by simp)), row_rd (hw.fact (browF ty_uint8 a.m t.mask a.mc) (by simp))⟩) (fun k hk => by
    rw [hj]
    obtain ⟨p, hp, hk⟩ := hk
    obtain rfl := List.mem_singleton.1 hp
    rcases hk with hk | hk | hk | hk
    · rw [hl] at hk
      exact absurd hk.1 (by simp)
    · rw [hm] at hk
      exact absurd hk.1 (by simp)
    · exact ⟨_, List.mem_cons_self, row_D hk⟩
    · exact ⟨browF ty_uint8 a.m t.mask a.mc, by simp, row_D hk⟩) hn (by rw [hj]; exact ⟨rfl, rfl, trivial⟩)
theorem rbx_bk {b : Nat} {B : Bx.Box} {y : Lay} {w : World} (h : (rbxF b B y).p w) : (bkF b ty_ostiaryref05_Box (rCells B y)).p w := h.1 _ (by simp [rbxFs])
theorem rbx_rd {b : Nat} {B : Bx.Box} {y : Lay} {w : World} (h : (rbxF b B y).p w) : Rd 6 y.A B.L.length (termsV y.ts) w := row_rd (h.1 (rowF ty_ostiaryref05_Term 6 (.slice y.A B.L.length y.c) B.L.length (termsV y.ts)) (by simp [rbxFs]))
theorem rbx_parts {b : Nat} {B : Bx.Box} {y : Lay} {w : World} (h : (rbxF b B y).p w) : (partsF y.ts).p w := h.1 (partsF y.ts) (by simp [rbxFs])
theorem rhash_c (w : World) (b : Nat) (B : Bx.Box) (y : Lay) (P : Option Addr) (text : List UInt8) (cP : Nat) (hts : y.ts.map (·.1) = B.L) (hL : B.L.length ≤ 4096) (hsz : ∀ t ∈ B.L, TSz t) (hn : text.length ≤ 1000000) (hm : Mem w [rbxF b B y, bsF P text, oddF 3]) :
    Con Tryz.prog n_ostiaryref05_Hash #[ptrB b, .slice P text.length cP] w [rbxF b B y] (rtagOut b (hashB B text)) := by
  have g := good_ostiaryref05_Hash w (Un [rbxF b B y])
  have hs0 : Sat (cx_ostiaryref05_Hash w (Un [rbxF b B y])) Va.z 0 [] [rbxF b B y, bsF P text, oddF 3] w := hm.sat0 rfl (ownIn (Gs := [rbxF b B y]) (fun f hf => by
    simp only [List.mem_cons, List.not_mem_nil, or_false] at hf
    rcases hf with rfl | rfl | rfl <;> rfl))
  refine con_of_sx (cx := cx_ostiaryref05_Hash w (Un [rbxF b B y])) g b_ostiaryref05_Hash rfl rfl (β := Va.z) [.c (.v (ptrB b)), .c (.v (.slice P text.length cP))] 0 [] _ rfl rfl hs0 ?_
  cases hsym : B.sym with
  | true =>
    have e : hashB B text = B.tag (hashT text) := by unfold hashB; rw [hsym]; rfl
    rw [e]
    refine ⟨.bool true, fun β w' hs => bk_cell (rbx_bk (hs.get 0 rfl)) (o := 0) (by simp [rCells, hsym]), ?_⟩
    refine call_conS [] (fun β w' hs => copyC w' P text cP (hs.get 1 rfl) (by rw [lim_eq]; omega)) ?_
    rintro v Fs ⟨A1, c1, rfl, q1, q2, rfl⟩
    refine ⟨_, _, fun β w' hs => (hs.nilRow ty_uint8 1).part2o [0, 1] (hashT text) ⟨none, A1, none, none, 0, c1, 0, 0⟩ rfl rfl rfl, ?_⟩
    refine call_con [1, 0] (R := rtagOut b (B.tag (hashT text))) (fun β w' hs => rtag_c w' b B y (hashT text) ⟨none, A1, none, none, 0, c1, 0, 0⟩ hts hL hsz (hashT_sz hn) (hs.mem.take (js := [1, 0]) rfl)) ?_
    rintro v Fs ⟨A2, c2, y2, rfl, r1, r2, r3, rfl⟩
    intro β w' hs
    exact hs.fin [0, 1] ⟨A2, c2, y2, rfl, r1, r2, r3, rfl⟩
  | false =>
    have e : hashB B text = (Sha.sum text, B) := by unfold hashB; rw [hsym]; rfl
    rw [e]
    refine ⟨.bool false, fun β w' hs => bk_cell (rbx_bk (hs.get 0 rfl)) (o := 0) (by simp [rCells, hsym]), ?_⟩
    refine call_con [] (fun β w' hs => rsum_c w' P text cP (hs.get 1 rfl) (hs.get 2 rfl) (by omega)) ?_
    rintro v Fs ⟨A2, c2, rfl, r1, r2, rfl⟩
    intro β w' hs
    exact hs.fin [0, 1] ⟨A2, c2, y, rfl, r1, r2, hts, rfl⟩
theorem rmac_c (w : World) (b : Nat) (B : Bx.Box) (y : Lay) (K P : Option Addr) (key text : List UInt8) (cK cP : Nat) (hts : y.ts.map (·.1) = B.L) (hL : B.L.length ≤ 4096) (hsz : ∀ t ∈ B.L, TSz t) (hk : key.length ≤ 1000000) (hn : text.length ≤ 1000000) (hm : Mem w [rbxF b B y, bsF K key, bsF P text, oddF 3]) :
    Con Tryz.prog n_ostiaryref05_Mac #[ptrB b, .slice K key.length cK, .slice P text.length cP] w [rbxF b B y] (rtagOut b (macB B key text)) := by
  have g := good_ostiaryref05_Mac w (Un [rbxF b B y])
  have hs0 : Sat (cx_ostiaryref05_Mac w (Un [rbxF b B y])) Va.z 0 [] [rbxF b B y, bsF K key, bsF P text, oddF 3] w := hm.sat0 rfl (ownIn (Gs := [rbxF b B y]) (fun f hf => by
    simp only [List.mem_cons, List.not_mem_nil, or_false] at hf
    rcases hf with rfl | rfl | rfl | rfl <;> rfl))
  refine con_of_sx (cx := cx_ostiaryref05_Mac w (Un [rbxF b B y])) g b_ostiaryref05_Mac rfl rfl (β := Va.z) [.c (.v (ptrB b)), .c (.v (.slice K key.length cK)), .c (.v (.slice P text.length cP))] 0 [] _ rfl rfl hs0 ?_
  cases hsym : B.sym with
  | true =>
    have e : macB B key text = B.tag (macT key text) := by unfold macB; rw [hsym]; rfl
    rw [e]
    refine ⟨.bool true, fun β w' hs => bk_cell (rbx_bk (hs.get 0 rfl)) (o := 0) (by simp [rCells, hsym]), ?_⟩
    refine call_con [] (fun β w' hs => copyC w' K key cK (hs.get 1 rfl) (by rw [lim_eq]; omega)) ?_
    rintro v Fs ⟨A1, c1, rfl, q1, q2, rfl⟩
    refine call_conS [] (fun β w' hs => copyC w' P text cP (hs.get 3 rfl) (by rw [lim_eq]; omega)) ?_
    rintro v Fs ⟨A2, c2, rfl, q3, q4, rfl⟩
    refine ⟨_, _, fun β w' hs => hs.part2o [1, 0] (macT key text) ⟨A1, A2, none, none, c1, c2, 0, 0⟩ rfl rfl rfl, ?_⟩
    refine call_con [1, 0] (R := rtagOut b (B.tag (macT key text))) (fun β w' hs => rtag_c w' b B y (macT key text) ⟨A1, A2, none, none, c1, c2, 0, 0⟩ hts hL hsz (macT_sz hk hn) (hs.mem.take (js := [1, 0]) rfl)) ?_
    rintro v Fs ⟨A3, c3, y2, rfl, r1, r2, r3, rfl⟩
    intro β w' hs
    exact hs.fin [0, 1] ⟨A3, c3, y2, rfl, r1, r2, r3, rfl⟩
  | false =>
    have e : macB B key text = (hmL key text, B) := by unfold macB; rw [hsym]; rfl
    rw [e]
    refine ⟨.bool false, fun β w' hs => bk_cell (rbx_bk (hs.get 0 rfl)) (o := 0) (by simp [rCells, hsym]), ?_⟩
    refine call_con [] (fun β w' hs => rhsum_c w' K P key text cK cP (hs.get 1 rfl) (hs.get 2 rfl) hk hn (hs.get 3 rfl)) ?_
    rintro v Fs ⟨A2, c2, rfl, r1, r2, rfl⟩
    intro β w' hs
    exact hs.fin [0, 1] ⟨A2, c2, y, rfl, r1, r2, hts, rfl⟩
end Go.Proofs.YthkjfepbmnabkaaGreatDoor.Sx

/- The reference's box: a tag, opened. -/
namespace Go.Proofs.YthkjfepbmnabkaaGreatDoor.Sx
open Go
attribute [local irreducible] Calls

/-- Nothing. -/
def nilO : Fact where
  own := true
  D := fun _ => False
  p := fun _ => True
  st := fun _ _ _ _ => trivial
theorem looks_v (l : List UInt8) : ∃ (n : Nat) (ok : Bool), looksV l = .tuple #[.int .i64 (n : Int), .bool ok] ∧ ((ok = true ∧ l.take 28 = Bx.front ∧ n = Bx.num (l.drop 28)) ∨ (ok = false ∧ ¬ (l.length = 32 ∧ l.take 28 = Bx.front))) := by
  by_cases h : l.length = 32 ∧ l.take 28 = Bx.front
  · exact ⟨Bx.num (l.drop 28), true, by unfold looksV Bx.looks; rw [if_pos h], .inl ⟨rfl, h.2, rfl⟩⟩
  · exact ⟨0, false, by unfold looksV Bx.looks; rw [if_neg h]; rfl, .inr ⟨rfl, h⟩⟩
/-- What a tag is, opened: its rows are the box's own, or new ones. -/
def ropenOut (b : Nat) (B : Bx.Box) (y : Lay) (tag : List UInt8) (v : Value) (Fs : List Fact) : Prop := match B.opens tag with
  | none => v = .tuple #[.slice none 0 0, .slice none 0 0, .bool false] ∧ Fs = []
  | some (l, m) => ∃ A1 c1 A2 c2 o, v = .tuple #[.slice A1 l.length c1, .slice A2 m.length c2, .bool true] ∧ o.own = true ∧ (∀ w', (rbxF b B y).p w' → o.p w' → Rd 1 A1 l.length (ints l) w' ∧ Bs w' A2 m) ∧ Fs = [o]
theorem ropenOut_none {b : Nat} {B : Bx.Box} {y : Lay} {tag : List UInt8} (h : B.opens tag = none) : ropenOut b B y tag = fun v Fs => v = .tuple #[.slice none 0 0, .slice none 0 0, .bool false] ∧ Fs = [] := by funext v Fs; unfold ropenOut; rw [h]
theorem ropenOut_some {b : Nat} {B : Bx.Box} {y : Lay} {tag : List UInt8} {l : List Nat} {m : List UInt8} (h : B.opens tag = some (l, m)) : ropenOut b B y tag = fun v Fs => ∃ A1 c1 A2 c2 o, v = .tuple #[.slice A1 l.length c1, .slice A2 m.length c2, .bool true] ∧ o.own = true ∧ (∀ w', (rbxF b B y).p w' → o.p w' → Rd 1 A1 l.length (ints l) w' ∧ Bs w' A2 m) ∧ Fs = [o] := by funext v Fs; unfold ropenOut; rw [h]
theorem ropen_c (w : World) (b : Nat) (B : Bx.Box) (y : Lay) (A : Option Addr) (l : List UInt8) (c : Nat) (hts : y.ts.map (·.1) = B.L) (hL : B.L.length ≤ 4096) (hsz : ∀ t ∈ B.L, TSz t) (hb : (rbxF b B y).p w) (hbD : ∀ k, (rbxF b B y).D k → k < w.heap.size) (hr : Bs w A l) (hc : l.length ≤ c) (hl : l.length ≤ 1000000) :
    Con Tryz.prog n_ostiaryref05_open #[ptrB b, .slice A l.length c] w [] (ropenOut b B y l) := by
  have g := good_ostiaryref05_open w (Un [])
  refine con_of_sx (cx := cx_ostiaryref05_open w (Un [])) g b_ostiaryref05_open rfl rfl (β := Va.z) [.c (.v (ptrB b)), .c (.v (.slice A l.length c))] 0 [] [oldF w] rfl rfl (old_sat rfl) ?_
  obtain ⟨n, ok, hnv, hnn⟩ := looks_v l
  have hbx : ∀ w', (oldF w).p w' → (rbxF b B y).p w' := fun w' ho => fact_old hb hbD ho
  refine BIf.not (BIf.dec (fun h32 => ?_) (fun h32 => ?_))
  · have hl32 : l.length = 32 := by omega
    refine call_pu (v := .tuple #[.int .i64 (n : Int), .bool ok]) (fun β w' hs => by
      have h := looks_c w' A l c (Rd.old hr (hs.get 0 rfl)) hc (by omega)
      rw [hnv] at h
      exact h) ?_
    -- what isn't taken for a handle
    have raw : ¬ (B.sym = true ∧ l.take 28 = Bx.front) → ∀ {A2 : Option Addr} {c2 : Nat} {n : Nat} {H : List Bk} {F : List Fact} (j : Nat) (_ : nth F j = some (browF ty_uint8 A2 l c2)) (β : Va) (w' : World), Sat (cx_ostiaryref05_open w (Un [])) β n H F w' → Fin w [] (ropenOut b B y l) (.tuple #[.slice none 0 0, .slice A2 l.length c2, .bool true]) w' := by
      intro hno A2 c2 n H F j hj β w' hs
      rw [ropenOut_some (Bx.opens_raw hl32 hno)]
      have hs2 := (hs.keepB (List.nil_sublist _)).perm [j]
      have e : takeIx F [j] = [browF ty_uint8 A2 l c2] := by simp only [takeIx, hj]
      rw [e] at hs2
      exact hs2.fin [0] ⟨none, 0, A2, c2, _, rfl, rfl, fun w' _ h => ⟨rd_nil w' none, row_rd h⟩, rfl⟩
    cases hsym : B.sym with
    | false =>
      refine ⟨.bool false, fun β w' hs => bk_cell (rbx_bk (hbx w' (hs.get 0 rfl))) (o := 0) (by simp [rCells, hsym]), ?_⟩
      refine call_con [] (fun β w' hs => copyC w' A l c (Rd.old hr (hs.get 0 rfl)) (by rw [lim_eq]; omega)) ?_
      rintro v Fs ⟨A2, c2, rfl, q1, _, rfl⟩
      exact fun β w' hs => raw (fun q => by rw [hsym] at q; cases q.1) 0 rfl β w' hs
    | true =>
      refine ⟨.bool true, fun β w' hs => bk_cell (rbx_bk (hbx w' (hs.get 0 rfl))) (o := 0) (by simp [rCells, hsym]), ?_⟩
      rcases hnn with ⟨rfl, hf, hn⟩ | ⟨rfl, hf⟩
      · have out_ : (n < 1 ∨ B.L.length < n) → ∀ {m : Nat} {H : List Bk} {F : List Fact} (β : Va) (w' : World), Sat (cx_ostiaryref05_open w (Un [])) β m H F w' → Fin w [] (ropenOut b B y l) (.tuple #[.slice none 0 0, .slice none 0 0, .bool false]) w' := by
          intro ho m H F β w' hs
          rw [ropenOut_none (Bx.opens_out hl32 hsym hf hn.symm ho)]
          exact (hs.keepB (List.nil_sublist _)).fin [] ⟨rfl, rfl⟩
        refine BIf.dec (fun hn1 => ?_) (fun hn1 => ?_)
        · have hn1' : (n : Int) < 1 := hn1
          exact fun β w' hs => out_ (.inl (by omega)) β w' hs
        have hn1' : ¬ (n : Int) < 1 := hn1
        refine ⟨.slice y.A B.L.length y.c, fun β w' hs => bk_cell (rbx_bk (hbx w' (hs.get 0 rfl))) (o := 1) rfl, ?_⟩
        refine BIf.dec (fun hgt => ?_) (fun hgt => ?_)
        · have hgt' : (B.L.length : Int) < (n : Int) := hgt
          exact fun β w' hs => out_ (.inr (by omega)) β w' hs
        have hgt' : ¬ (B.L.length : Int) < (n : Int) := hgt
        have hlen : y.ts.length = B.L.length := by rw [← hts, List.length_map]
        obtain ⟨q, hq, hqm⟩ := at_lt (l := y.ts) (k := n - 1) (by omega)
        have hqL : B.L[n - 1]? = some q.1 := by rw [← hts, List.getElem?_map, hq]; rfl
        have hqB : q.1 ∈ B.L := List.mem_of_getElem? hqL
        have hqs := hsz _ hqB
        have hin := Bx.opens_in hl32 hsym hf hn.symm (by omega) hqL
        obtain ⟨ad, hA, _⟩ := (rbx_rd hb).2 (by omega)
        refine ⟨.slice y.A B.L.length y.c, fun β w' hs => bk_cell (rbx_bk (hbx w' (hs.get 0 rfl))) (o := 1) rfl, ?_⟩
        refine ⟨((n - 1 : Nat) : Int), by rw [wrap_i64 (by omega) (by omega)]; omega, ?_⟩
        refine ⟨ad, n - 1, hA, rfl, by omega, ?_⟩
        refine ⟨termV q.1 q.2, rfl, fun β w' hs => ?_, ?_⟩
        · have h := rbx_rd (hbx w' (hs.get 0 rfl))
          rw [← hlen] at h
          obtain ⟨hil, hie⟩ := List.getElem?_eq_some_iff.1 hq
          have h2 := Rd.elem (f := fun p : Bx.Term × TA => termV p.1 p.2) (fun _ => rfl) h hA hil
          rw [hie] at h2
          exact h2
        have hkey := hqs.mask
        have hlst := hqs.list
        refine BIf.dec (fun hk => ?_) (fun hk => ?_)
        · have hk' : ((q.1.kind : Nat) : Int) = 4 := hk
          have hk4 : q.1.kind = 4 := by omega
          rw [if_pos hk4] at hin
          rw [ropenOut_some hin]
          refine draw_rule g p_ostiaryref05_open_10 (by kernel_rfl) [⟨0, ty_ostiaryref05_Term, termS q.1 q.2⟩] [] (Sub.of (List.Sublist.refl _) (List.nil_sublist _)) ?_
          intro β w' hs
          exact ((hs.keepB (List.nil_sublist _)).noMem nilO trivial (fun _ h => h)).fin [0] ⟨q.2.l, q.2.lc, q.2.m, q.2.mc, nilO, rfl, rfl, fun w' h _ => ⟨(rbx_parts h q hqm).hl, (rbx_parts h q hqm).hm⟩, rfl⟩
        · have hk' : ¬ ((q.1.kind : Nat) : Int) = 4 := hk
          have hk4 : ¬ q.1.kind = 4 := by omega
          rw [if_neg hk4] at hin
          rw [ropenOut_some hin]
          have fin_ : ∀ {A1 A2 : Option Addr} {β : Va} {w' : World} {m : Nat} {H : List Bk} {F : List Fact} {c1 c2 : Nat} (js : List Nat), nodupB js = true → takeIx F js = [irowF A1 [n] c1, browF ty_uint8 A2 Bx.noughts c2] →
              Sat (cx_ostiaryref05_open w (Un [])) β m H F w' → Fin w [] (fun v Fs => ∃ A1 c1 A2 c2 o, v = .tuple #[.slice A1 [n].length c1, .slice A2 Bx.noughts.length c2, .bool true] ∧ o.own = true ∧ (∀ w', (rbxF b B y).p w' → o.p w' → Rd 1 A1 [n].length (ints [n]) w' ∧ Bs w' A2 Bx.noughts) ∧ Fs = [o]) (.tuple #[.slice A1 1 c1, .slice A2 32 c2, .bool true]) w' := by
            intro A1 A2 β w' m H F c1 c2 js hnd hjs hs'
            have hs2 := (hs'.keepB (List.nil_sublist _)).perm js hnd
            rw [hjs] at hs2
            have hs3 := hs2.sep [0, 1] rfl ⟨rfl, rfl, trivial⟩
            exact hs3.fin [0] ⟨A1, c1, A2, c2, sepF [irowF A1 [n] c1, browF ty_uint8 A2 Bx.noughts c2], rfl, rfl, fun w' _ h => ⟨row_rd (h.1 (irowF A1 [n] c1) List.mem_cons_self), row_rd (h.1 (browF ty_uint8 A2 Bx.noughts c2) (List.mem_cons_of_mem _ List.mem_cons_self))⟩, rfl⟩
          refine draw_rule g p_ostiaryref05_open_11 (by kernel_rfl) [] [] (Sub.of (List.nil_sublist _) (List.nil_sublist _)) ?_
          refine ⟨?_, ?_⟩
          · intro b1
            refine ⟨Sub.of (List.nil_sublist _) (List.nil_sublist _), ?_⟩
            refine ⟨32, 32, rfl, rfl, Nat.le_refl _, by decide, by decide, ?_⟩
            intro b2
            refine ⟨Sub.of (List.nil_sublist _) (List.nil_sublist _), ?_⟩
            intro β w' hs
            exact fin_ [1, 0] rfl rfl hs
          · refine ⟨32, 32, rfl, rfl, Nat.le_refl _, by decide, by decide, ?_⟩
            intro b1
            refine ⟨Sub.of (List.nil_sublist _) (List.nil_sublist _), ?_⟩
            intro b2
            refine ⟨Sub.of (List.nil_sublist _) (List.nil_sublist _), ?_⟩
            intro β w' hs
            exact fin_ [0, 1] rfl rfl hs
      · refine call_con [] (fun β w' hs => copyC w' A l c (Rd.old hr (hs.get 0 rfl)) (by rw [lim_eq]; omega)) ?_
        rintro v Fs ⟨A2, c2, rfl, q1, _, rfl⟩
        exact fun β w' hs => raw (fun q => hf ⟨hl32, q.2⟩) 0 rfl β w' hs
  · have hl32 : l.length ≠ 32 := by omega
    intro β w' hs
    rw [ropenOut_none (Bx.opens_len hl32)]
    exact (hs.keepB (List.nil_sublist _)).fin [] ⟨rfl, rfl⟩
end Go.Proofs.YthkjfepbmnabkaaGreatDoor.Sx

/- The reference's box: two tags, turned. -/
namespace Go.Proofs.YthkjfepbmnabkaaGreatDoor.Sx
open Go
attribute [local irreducible] Calls

theorem rin_c (w : World) (A : Option Addr) (l : List Nat) (c x : Nat) (hr : Rd 1 A l.length (ints l) w) (hn : l.length ≤ 10000000000000) :
    Pu Tryz.prog n_ostiaryref05_in #[.slice A l.length c, .int .i64 x] w (.bool (decide (x ∈ l))) := by
  have g := good_ostiaryref05_in w (Un [])
  refine con_of_sx (cx := cx_ostiaryref05_in w (Un [])) g b_ostiaryref05_in rfl rfl (β := Va.z) [.c (.v (.slice A l.length c)), .c (.v (.int .i64 x))] 0 [] [rdF 1 A l.length (ints l)] rfl rfl ((Sat.start rfl).rd (fun _ h => by cases h) hr) ?_
  refine loop_rule 0 (fun k : Nat => [(0, .c (.v (.slice A l.length c))), (1, .c (.v (.int .i64 x))), (7, .c (.v (.slice A l.length c))), (8, .c (.v (.int .i64 l.length))), (9, .c (.v (.int .i64 k)))]) (fun _ => []) (fun _ => [rdF 1 A l.length (ints l)])
    (fun k => k ≤ l.length ∧ x ∉ l.take k) (fun k => l.length - k) 0 ⟨Nat.zero_le _, by simp⟩ (Ent.same ⟨rfl, rfl, rfl, rfl, rfl, trivial⟩ rfl) g ?_
  rintro k ⟨hk, hx⟩
  refine BIf.dec (fun hlt => ?_) (fun hge => ?_)
  · have hlt0 : (k : Int) < l.length := hlt
    have hkl : k < l.length := by omega
    obtain ⟨y, hy, hym⟩ := at_lt hkl
    obtain ⟨ad, rfl, _⟩ := hr.2 (by omega)
    refine ⟨ad, k, rfl, rfl, hkl, _, fun β w' hs => Rd.cell1 (hs.get 0 rfl) (ints_at hy), ?_⟩
    refine BIf.dec (fun he => ?_) (fun hne => ?_)
    · have he0 : (y : Int) = (x : Int) := he
      intro β w' hs
      refine hs.fin [] ⟨?_, rfl⟩
      have hxy : y = x := by omega
      subst hxy
      show Value.bool true = _
      congr 1
      exact (decide_eq_true hym).symm
    · have hne0 : ¬ (y : Int) = (x : Int) := hne
      refine ⟨((k + 1 : Nat) : Int), by rw [wrap_i64 (by omega) (by omega)]; rfl, ?_⟩
      refine ⟨k + 1, ⟨hkl, ?_⟩, by omega, Ent.same ⟨rfl, rfl, rfl, rfl, rfl, trivial⟩ rfl⟩
      rw [List.take_add_one, hy]
      intro q
      rcases List.mem_append.1 q with q | q
      · exact hx q
      · have hq : x = y := by simpa using q
        exact hne0 (by rw [hq])
  · have hge0 : ¬ (k : Int) < l.length := hge
    intro β w' hs
    refine hs.fin [] ⟨?_, rfl⟩
    have hke : k = l.length := by omega
    rw [hke, List.take_length] at hx
    show Value.bool false = _
    congr 1
    exact (decide_eq_false hx).symm
/-- The numbers up to k that stand in just one of two lists. -/
def symL (l1 l2 : List Nat) (k : Nat) : List Nat := (List.range' 1 k).filter fun n => decide (n ∈ l1) != decide (n ∈ l2)
theorem symL_snoc (l1 l2 : List Nat) (k : Nat) : symL l1 l2 (k + 1) = symL l1 l2 k ++ (if (decide (k + 1 ∈ l1) != decide (k + 1 ∈ l2)) = true then [k + 1] else []) := by
  unfold symL
  rw [List.range'_1_concat, List.filter_append, Nat.add_comm 1 k, List.filter_cons, List.filter_nil]
theorem symL_len (l1 l2 : List Nat) (k : Nat) : (symL l1 l2 k).length ≤ k := by
  have h := List.length_filter_le (fun n => decide (n ∈ l1) != decide (n ∈ l2)) (List.range' 1 k)
  rw [List.length_range'] at h
  exact h
theorem symL_mix {l1 l2 : List Nat} {N : Nat} (d1 : l1.Nodup) (d2 : l2.Nodup) (h1 : ∀ n ∈ l1, 1 ≤ n ∧ n ≤ N) (h2 : ∀ n ∈ l2, 1 ≤ n ∧ n ≤ N) : symL l1 l2 N = mixL l1 l2 := by
  have hp : (symL l1 l2 N).Perm (notIn l1 l2 ++ notIn l2 l1) := by
    refine (List.perm_ext_iff_of_nodup ?_ ?_).2 (fun n => ?_)
    · exact List.Nodup.sublist List.filter_sublist (List.nodup_range' 1)
    · refine List.nodup_append.2 ⟨List.Nodup.sublist List.filter_sublist d1, List.Nodup.sublist List.filter_sublist d2, ?_⟩
      intro x hx y hy q
      subst q
      have a := (List.mem_filter.1 hx).2
      have b := (List.mem_filter.1 hy).1
      simp [b] at a
    · simp only [symL, notIn, List.mem_filter, List.mem_append, List.mem_range'_1]
      have k1 := h1 n
      have k2 := h2 n
      by_cases a : n ∈ l1 <;> by_cases b : n ∈ l2 <;> simp [a, b]
      · have := k1 a; omega
      · have := k2 b; omega
  have hs : (mixL l1 l2).Perm (notIn l1 l2 ++ notIn l2 l1) := List.mergeSort_perm _ _
  refine List.Perm.eq_of_pairwise (le := fun a b => a ≤ b) (fun a b _ _ p q => Nat.le_antisymm p q) ?_ ?_ (hp.trans hs.symm)
  · exact ((List.pairwise_lt_range' 1).sublist List.filter_sublist).imp (fun h => Nat.le_of_lt h)
  · have h := List.pairwise_mergeSort (le := fun x y : Nat => decide (x ≤ y)) (by simp only [decide_eq_true_eq]; omega) (by simp only [Bool.or_eq_true, decide_eq_true_eq]; omega) (notIn l1 l2 ++ notIn l2 l1)
    exact h.imp (fun h => of_decide_eq_true h)
def rturnOut (b : Nat) (B : Bx.Box) (y : Lay) (s t : List UInt8) (v : Value) (Fs : List Fact) : Prop := match turnB B s t with
  | (none, _) => v = .slice none 0 0 ∧ Fs = [rbxF b B y]
  | (some h, B') => rtagOut b (h, B') v Fs
theorem rturnOut_none {b : Nat} {B : Bx.Box} {y : Lay} {s t : List UInt8} (h : turnB B s t = (none, B)) : rturnOut b B y s t = fun v Fs => v = .slice none 0 0 ∧ Fs = [rbxF b B y] := by funext v Fs; unfold rturnOut; rw [h]
theorem rturnOut_some {b : Nat} {B B' : Bx.Box} {y : Lay} {s t h : List UInt8} (e : turnB B s t = (some h, B')) : rturnOut b B y s t = rtagOut b (h, B') := by funext v Fs; unfold rturnOut; rw [e]
theorem Con.grow {P : Program} {k : FuncId} {args : Array Value} {w : World} {Gs Gs' : List Fact} {R : Value → List Fact → Prop} (hsub : ∀ k, Un Gs k → Un Gs' k) (h : Con P k args w Gs R) : Con P k args w Gs' R :=
  Calls.mono h fun _ _ ⟨v, he, Fs, hR, hc, hm, ho, hD⟩ => ⟨v, he, Fs, hR, hc.mono (fun i _ => hsub i), hm, ho, fun f hf k hk => (hD f hf k hk).imp_left (hsub k)⟩
theorem part_D {L : List Nat} {M : List UInt8} {A u : Option Addr} {c g : Nat} {f : Fact} : ∀ k, Un [f, partsF [(turnT L M, ⟨none, none, A, u, 0, 0, c, g⟩)]] k → Un [f, irowF A L c, browF ty_uint8 u M g] k := by
  rintro k ⟨x, hx, hk⟩
  simp only [List.mem_cons, List.not_mem_nil, or_false] at hx
  rcases hx with rfl | rfl
  · exact ⟨x, by simp, hk⟩
  · obtain ⟨p, hp, hk⟩ := hk
    obtain rfl := List.mem_singleton.1 hp
    rcases hk with hk | hk | hk | hk
    · exact absurd hk.1 (Nat.lt_irrefl 0)
    · exact absurd hk.1 (Nat.lt_irrefl 0)
    · exact ⟨irowF A L c, by simp, row_D hk⟩
    · exact ⟨browF ty_uint8 u M g, by simp, row_D hk⟩
/-- What a tag that is opened has. -/
def OkN (B : Bx.Box) (l : List Nat) (m : List UInt8) : Prop := OkS l m ∧ l.Nodup ∧ ∀ n ∈ l, 1 ≤ n ∧ n ≤ B.L.length
theorem rturn_c (w : World) (b : Nat) (B : Bx.Box) (y : Lay) (A1 A2 : Option Addr) (s t : List UInt8) (c1 c2 : Nat) (hts : y.ts.map (·.1) = B.L) (hL : B.L.length ≤ 4096) (hsz : ∀ t ∈ B.L, TSz t) (hok : ∀ tag l m, B.opens tag = some (l, m) → OkN B l m)
    (hm : Mem w [rbxF b B y, bsF A1 s, bsF A2 t]) (hc1 : s.length ≤ c1) (hc2 : t.length ≤ c2) (hl1 : s.length ≤ 1000000) (hl2 : t.length ≤ 1000000) :
    Con Tryz.prog n_ostiaryref05_Turn #[ptrB b, .slice A1 s.length c1, .slice A2 t.length c2] w [rbxF b B y] (rturnOut b B y s t) := by
  have g := good_ostiaryref05_Turn w (Un [rbxF b B y])
  have hs0 : Sat (cx_ostiaryref05_Turn w (Un [rbxF b B y])) Va.z 0 [] [rbxF b B y, bsF A1 s, bsF A2 t] w := hm.sat0 rfl (ownIn (Gs := [rbxF b B y]) (fun f hf => by
    simp only [List.mem_cons, List.not_mem_nil, or_false] at hf
    rcases hf with rfl | rfl | rfl <;> rfl))
  refine con_of_sx (cx := cx_ostiaryref05_Turn w (Un [rbxF b B y])) g b_ostiaryref05_Turn rfl rfl (β := Va.z) [.c (.v (ptrB b)), .c (.v (.slice A1 s.length c1)), .c (.v (.slice A2 t.length c2))] 0 [] _ rfl rfl hs0 ?_
  have bad : turnB B s t = (none, B) → ∀ {n : Nat} {H : List Bk} {F : List Fact} (j : Nat) (_ : nth F j = some (rbxF b B y)) (β : Va) (w' : World), Sat (cx_ostiaryref05_Turn w (Un [rbxF b B y])) β n H F w' → Fin w [rbxF b B y] (rturnOut b B y s t) (.slice none 0 0) w' := by
    intro hno n H F j hj β w' hs
    rw [rturnOut_none hno]
    have hs2 := (hs.keepB (List.nil_sublist _)).perm [j]
    have e : takeIx F [j] = [rbxF b B y] := by simp only [takeIx, hj]
    rw [e] at hs2
    exact hs2.fin [0] ⟨rfl, rfl⟩
  refine call_con [] (R := ropenOut b B y s) (fun β w' hs => ropen_c w' b B y A1 s c1 hts hL hsz (hs.get 0 rfl) (fun k hk => hs.flt _ (List.mem_of_getElem? (i := 0) rfl) k hk) (hs.get 1 rfl) hc1 hl1) ?_
  cases h1 : B.opens s with
  | none =>
    rw [ropenOut_none h1]
    rintro v Fs ⟨rfl, rfl⟩
    refine call_con [] (R := ropenOut b B y t) (fun β w' hs => ropen_c w' b B y A2 t c2 hts hL hsz (hs.get 0 rfl) (fun k hk => hs.flt _ (List.mem_of_getElem? (i := 0) rfl) k hk) (hs.get 2 rfl) hc2 hl2) ?_
    cases h2 : B.opens t with
    | none =>
      rw [ropenOut_none h2]
      rintro v Fs ⟨rfl, rfl⟩
      exact fun β w' hs => bad (turnB_none1 h1) 0 rfl β w' hs
    | some q =>
      obtain ⟨l2, m2⟩ := q
      rw [ropenOut_some h2]
      rintro v Fs ⟨B1, d1, B2, d2, o2, rfl, _, _, rfl⟩
      exact fun β w' hs => bad (turnB_none1 h1) 1 rfl β w' hs
  | some p =>
    obtain ⟨l1, m1⟩ := p
    obtain ⟨ok1, nd1, rg1⟩ := hok s l1 m1 h1
    rw [ropenOut_some h1]
    rintro v Fs ⟨a1, e1, a2, e2, o1, rfl, ho1, hp1, rfl⟩
    refine call_con [] (R := ropenOut b B y t) (fun β w' hs => ropen_c w' b B y A2 t c2 hts hL hsz (hs.get 1 rfl) (fun k hk => hs.flt _ (List.mem_of_getElem? (i := 1) rfl) k hk) (hs.get 3 rfl) hc2 hl2) ?_
    cases h2 : B.opens t with
    | none =>
      rw [ropenOut_none h2]
      rintro v Fs ⟨rfl, rfl⟩
      exact fun β w' hs => bad (turnB_none2 h2) 1 rfl β w' hs
    | some q =>
      obtain ⟨l2, m2⟩ := q
      obtain ⟨ok2, nd2, rg2⟩ := hok t l2 m2 h2
      rw [ropenOut_some h2]
      rintro v Fs ⟨d1, f1, d2, f2, o2, rfl, ho2, hp2, rfl⟩
      have hk1 := ok1.len
      have hk2 := ok2.len
      have hk3 := ok1.mask
      have hk4 := ok2.mask
      have hx : (Bx.xorB m1 m2).length = 32 := by rw [xorB_len]; omega
      refine loop_rule (ι := Nat × Option Addr × Nat) 0 (fun i => [(0, .c (.v (ptrB b))), (7, .c (.v (.slice a1 l1.length e1))), (8, .c (.v (.slice a2 m1.length e2))), (10, .c (.v (.slice d1 l2.length f1))), (11, .c (.v (.slice d2 m2.length f2))), (13, .c (.v (.slice i.2.1 (symL l1 l2 i.1).length i.2.2))), (14, .c (.v (.int .i64 ((i.1 + 1 : Nat) : Int))))]) (fun _ => [])
        (fun i => [irowF i.2.1 (symL l1 l2 i.1) i.2.2, o2, o1, rbxF b B y]) (fun i => i.1 ≤ B.L.length ∧ (symL l1 l2 i.1 = [] ∨ ∃ ad, i.2.1 = some ad)) (fun i => B.L.length - i.1) (0, none, 0) ⟨Nat.zero_le _, .inl rfl⟩ (Ent.mk' ⟨rfl, rfl, rfl, rfl, rfl, rfl, rfl, trivial⟩ rfl (fun β w hs => (hs.nilRow ty_int 1).perm [0, 1, 2, 3])) g ?_
      rintro ⟨k, A, c⟩ ⟨hk, hA⟩
      simp only at hk hA
      have hsl := symL_len l1 l2 k
      refine ⟨.slice y.A B.L.length y.c, fun β w' hs => bk_cell (rbx_bk (hs.get 3 rfl)) (o := 1) rfl, ?_⟩
      refine BIf.dec (fun hle => ?_) (fun hgt => ?_)
      · have hle0 : ((k + 1 : Nat) : Int) ≤ (B.L.length : Int) := hle
        have hkl : k < B.L.length := by omega
        obtain ⟨b1, hb1⟩ : ∃ x, decide (k + 1 ∈ l1) = x := ⟨_, rfl⟩
        obtain ⟨b2, hb2⟩ : ∃ x, decide (k + 1 ∈ l2) = x := ⟨_, rfl⟩
        have hsn := symL_snoc l1 l2 k
        rw [hb1, hb2] at hsn
        refine call_pu (v := .bool b1) (fun β w' hs => by
          have h := rin_c w' a1 l1 e1 (k + 1) (hp1 w' (hs.get 3 rfl) (hs.get 2 rfl)).1 (by omega)
          rw [hb1] at h
          exact h) ?_
        refine call_pu (v := .bool b2) (fun β w' hs => by
          have h := rin_c w' d1 l2 f1 (k + 1) (hp2 w' (hs.get 3 rfl) (hs.get 1 rfl)).1 (by omega)
          rw [hb2] at h
          exact h) ?_
        cases b1 <;> cases b2
        · have e : symL l1 l2 (k + 1) = symL l1 l2 k := by rw [hsn]; simp
          refine ⟨((k + 1 + 1 : Nat) : Int), by rw [wrap_i64 (by omega) (by omega)]; rfl, ?_⟩
          refine ⟨(k + 1, A, c), ⟨hkl, by rw [e]; exact hA⟩, by show B.L.length - (k + 1) < B.L.length - k; omega, ?_⟩
          simp only [e]
          exact Ent.same ⟨rfl, rfl, rfl, rfl, rfl, rfl, rfl, trivial⟩ rfl
        · have e : symL l1 l2 (k + 1) = symL l1 l2 k ++ [k + 1] := by rw [hsn]; rfl
          intro b3
          refine ⟨1, (symL l1 l2 k).length, (symL l1 l2 k).length + 1, ints (symL l1 l2 k), ints [k + 1], ints (symL l1 l2 k ++ [k + 1]), rfl, fun β w hs => row_rd (hs.get 0 rfl), ints_one _, rfl, by simp [ints], by rw [maxLen_eq]; omega, by show ((symL l1 l2 k).length + 1) * 8 ≤ _; omega, ?_⟩
          intro A' c' q1 q2 q3
          have hA' : ∃ ad, A' = some ad := by
            cases A' with
            | none => exact absurd (q3 rfl).2 (by decide)
            | some ad => exact ⟨ad, rfl⟩
          refine ⟨((k + 1 + 1 : Nat) : Int), by rw [wrap_i64 (by omega) (by omega)]; rfl, ?_⟩
          refine ⟨(k + 1, A', c'), ⟨hkl, .inr hA'⟩, by show B.L.length - (k + 1) < B.L.length - k; omega, ?_⟩
          simp only [irowF, e, List.length_append, List.length_cons, List.length_nil, Nat.zero_add]
          refine Ent.mk' ⟨rfl, rfl, rfl, rfl, rfl, rfl, rfl, trivial⟩ rfl (fun β w' hs => ?_)
          exact hs.weaken (List.Sublist.refl _) (List.sublist_cons_self _ _)
        · have e : symL l1 l2 (k + 1) = symL l1 l2 k ++ [k + 1] := by rw [hsn]; rfl
          intro b3
          refine ⟨1, (symL l1 l2 k).length, (symL l1 l2 k).length + 1, ints (symL l1 l2 k), ints [k + 1], ints (symL l1 l2 k ++ [k + 1]), rfl, fun β w hs => row_rd (hs.get 0 rfl), ints_one _, rfl, by simp [ints], by rw [maxLen_eq]; omega, by show ((symL l1 l2 k).length + 1) * 8 ≤ _; omega, ?_⟩
          intro A' c' q1 q2 q3
          have hA' : ∃ ad, A' = some ad := by
            cases A' with
            | none => exact absurd (q3 rfl).2 (by decide)
            | some ad => exact ⟨ad, rfl⟩
          refine ⟨((k + 1 + 1 : Nat) : Int), by rw [wrap_i64 (by omega) (by omega)]; rfl, ?_⟩
          refine ⟨(k + 1, A', c'), ⟨hkl, .inr hA'⟩, by show B.L.length - (k + 1) < B.L.length - k; omega, ?_⟩
          simp only [irowF, e, List.length_append, List.length_cons, List.length_nil, Nat.zero_add]
          refine Ent.mk' ⟨rfl, rfl, rfl, rfl, rfl, rfl, rfl, trivial⟩ rfl (fun β w' hs => ?_)
          exact hs.weaken (List.Sublist.refl _) (List.sublist_cons_self _ _)
        · have e : symL l1 l2 (k + 1) = symL l1 l2 k := by rw [hsn]; simp
          refine ⟨((k + 1 + 1 : Nat) : Int), by rw [wrap_i64 (by omega) (by omega)]; rfl, ?_⟩
          refine ⟨(k + 1, A, c), ⟨hkl, by rw [e]; exact hA⟩, by show B.L.length - (k + 1) < B.L.length - k; omega, ?_⟩
          simp only [e]
          exact Ent.same ⟨rfl, rfl, rfl, rfl, rfl, rfl, rfl, trivial⟩ rfl
      have hgt0 : ¬ ((k + 1 : Nat) : Int) ≤ (B.L.length : Int) := hgt
      obtain rfl : k = B.L.length := by omega
      have hmix := symL_mix nd1 nd2 rg1 rg2
      have hmem : ∀ n ∈ symL l1 l2 B.L.length, n ≤ 4096 := fun n hn => by
        have h3 := (List.mem_filter.1 hn).1
        rw [List.mem_range'_1] at h3
        omega
      have hR := turnB_raw (B := B) h1 h2
      have hO := fun n => turnB_one (B := B) (n := n) h1 h2
      have hT := turnB_tag (B := B) h1 h2
      rw [← hmix] at hR hO hT
      clear hmix
      generalize symL l1 l2 B.L.length = L at *
      have hxor := fun (w' : World) (h3 : Bs w' a2 m1) (h4 : Bs w' d2 m2) => rxor_c w' a2 d2 m1 m2 e2 f2 h3 h4 (by omega)
      rw [hx] at hxor
      generalize Bx.xorB m1 m2 = M at *
      refine call_con [] (fun β w' hs => hxor w' (hp1 w' (hs.get 3 rfl) (hs.get 2 rfl)).2 (hp2 w' (hs.get 3 rfl) (hs.get 1 rfl)).2) ?_
      rintro v Fs ⟨u2, g2, rfl, hg2, hgm, rfl⟩
      obtain ⟨n, ok, hnv, hnn⟩ := looks_v M
      refine call_pu (v := .tuple #[.int .i64 (n : Int), .bool ok]) (fun β w' hs => by
        have h := looks_c w' u2 M g2 (row_rd (hs.get 0 rfl)) (by omega) (by omega)
        rw [hnv, hx] at h
        exact h) ?_
      have hTs : TSz (turnT L M) := ⟨by show 4 < 1000; decide, by show 0 < 1000; decide, Nat.zero_le _, Nat.zero_le _, by show L.length ≤ 10000; omega, fun n hn => by have := hmem n hn; omega, by show M.length ≤ 1000000; omega⟩
      have htv : ∀ L : List Nat, termV (turnT L M) ⟨none, none, A, u2, 0, 0, c, g2⟩ = [.int .i64 ((4 : Nat) : Int), .slice none 0 0, .slice none 0 0, .int .i64 ((0 : Nat) : Int), .slice A L.length c, .slice u2 32 g2] := fun L => by
        simp only [termV, turnT, hx, List.length_nil]
      cases L with
      | nil =>
        cases hsym : B.sym with
        | false =>
          refine ⟨.bool false, fun β w' hs => bk_cell (rbx_bk (hs.get 4 rfl)) (o := 0) (by simp [rCells, hsym]), ?_⟩
          intro β w' hs
          rw [rturnOut_some (hR rfl (fun q => by rw [hsym] at q; cases q.1))]
          exact hs.fin [0, 4] ⟨u2, g2, y, rfl, hg2, hgm, hts, rfl⟩
        | true =>
          refine ⟨.bool true, fun β w' hs => bk_cell (rbx_bk (hs.get 4 rfl)) (o := 0) (by simp [rCells, hsym]), ?_⟩
          rcases hnn with ⟨rfl, hf, hn⟩ | ⟨rfl, hf⟩
          · skip
            refine call_con [4, 1, 0] (R := rtagOut b (B.tag (turnT [] M))) (fun β w' hs => by
              have h2 := hs.part2l [1, 0] (turnT [] M) ⟨none, none, A, u2, 0, 0, c, g2⟩ rfl rfl rfl
              have h3 := rtag_c w' b B y (turnT [] M) ⟨none, none, A, u2, 0, 0, c, g2⟩ hts hL hsz hTs (h2.mem.take (js := [3, 0]) rfl)
              rw [htv []] at h3
              exact Con.grow part_D h3) ?_ ⟨rfl, rfl, rfl, trivial⟩
            rintro v Fs ⟨A3, c3, y3, rfl, r1, r2, r3, rfl⟩
            intro β w' hs
            rw [rturnOut_some (hT (fun q => q.2 ⟨hsym, hf⟩) (fun q => by cases q.1))]
            exact hs.fin [0, 1] ⟨A3, c3, y3, rfl, r1, r2, r3, rfl⟩
          · intro β w' hs
            rw [rturnOut_some (hR rfl (fun q => hf ⟨hx, q.2⟩))]
            exact hs.fin [0, 4] ⟨u2, g2, y, rfl, hg2, hgm, hts, rfl⟩
      | cons n1 r =>
        cases r with
        | nil =>
          refine ⟨32, 32, rfl, rfl, Nat.le_refl _, by decide, by decide, ?_⟩
          intro b1
          refine call_pu (v := .bool (decide (M = Bx.noughts))) (fun β w' hs => by
            have h := pu_of (same_c w' u2 (some ⟨b1, 0, none⟩) M Bx.noughts g2 32 (row_rd (hs.get 1 rfl)) (row_rd (hs.get 0 rfl)))
            rw [hx] at h
            exact h) ?_
          refine BIf.dec (fun hz => ?_) (fun hz => ?_)
          · have hz0 : M = Bx.noughts := hz
            obtain ⟨ad, rfl⟩ : ∃ ad, A = some ad := hA.resolve_left (fun q => by cases q)
            have hn1 := hmem n1 List.mem_cons_self
            refine ⟨ad, 0, rfl, rfl, Nat.lt_succ_self 0, _, fun β w' hs => Rd.cell1 (row_rd (hs.get 2 rfl)) rfl, ?_⟩
            refine call_con [] (fun β w' hs => rhandle_c w' n1 (by omega)) ?_
            rintro v Fs ⟨A3, c3, rfl, q1, q2, rfl⟩
            intro β w' hs
            rw [rturnOut_some (hO n1 rfl hz0)]
            exact hs.fin [0, 6] ⟨A3, c3, y, rfl, q1, q2, hts, rfl⟩
          · have hz0 : ¬ M = Bx.noughts := hz
            refine call_con [5, 2, 1] (R := rtagOut b (B.tag (turnT [n1] M))) (fun β w' hs => by
              have h2 := hs.part2l [2, 1] (turnT [n1] M) ⟨none, none, A, u2, 0, 0, c, g2⟩ rfl rfl rfl
              have h3 := rtag_c w' b B y (turnT [n1] M) ⟨none, none, A, u2, 0, 0, c, g2⟩ hts hL hsz hTs (h2.mem.take (js := [4, 0]) rfl)
              rw [htv [n1]] at h3
              exact Con.grow part_D h3) ?_ ⟨rfl, rfl, rfl, trivial⟩
            rintro v Fs ⟨A3, c3, y3, rfl, r1, r2, r3, rfl⟩
            intro β w' hs
            rw [rturnOut_some (hT (fun q => by cases q.1) (fun q => hz0 q.2))]
            exact hs.fin [0, 1] ⟨A3, c3, y3, rfl, r1, r2, r3, rfl⟩
        | cons n2 r2 =>
          refine call_con [4, 1, 0] (R := rtagOut b (B.tag (turnT (n1 :: n2 :: r2) M))) (fun β w' hs => by
            have h2 := hs.part2l [1, 0] (turnT (n1 :: n2 :: r2) M) ⟨none, none, A, u2, 0, 0, c, g2⟩ rfl rfl rfl
            have h3 := rtag_c w' b B y (turnT (n1 :: n2 :: r2) M) ⟨none, none, A, u2, 0, 0, c, g2⟩ hts hL hsz hTs (h2.mem.take (js := [3, 0]) rfl)
            rw [htv (n1 :: n2 :: r2)] at h3
            exact Con.grow part_D h3) ?_ ⟨rfl, rfl, rfl, trivial⟩
          rintro v Fs ⟨A3, c3, y3, rfl, r1, r2, r3, rfl⟩
          intro β w' hs
          rw [rturnOut_some (hT (fun q => by cases q.1) (fun q => by cases q.1))]
          exact hs.fin [0, 1] ⟨A3, c3, y3, rfl, r1, r2, r3, rfl⟩
end Go.Proofs.YthkjfepbmnabkaaGreatDoor.Sx

/- The law's two boxes and the tags that they told: a tag picked. -/
namespace Go.Proofs.YthkjfepbmnabkaaGreatDoor.Sx
open Go
attribute [local irreducible] Calls

/-- Tags that were told. -/
def tgF (ts : List Part) : Fact where
  own := true
  D := fun k => ∃ p ∈ ts, (bsF p.1 p.2.1).D k
  p := fun w => ∀ p ∈ ts, Bs w p.1 p.2.1
  st := fun w w' hs h p hp => (bsF p.1 p.2.1).st w w' (fun k hk => hs k ⟨p, hp, hk⟩) (h p hp)
def tdCells (b rb : Nat) (T : Option Addr) (c : Nat) (ts : List Part) : List Value := [ptrB b, ptrB rb, .slice T ts.length c]
def tdFs (tb b rb : Nat) (T : Option Addr) (c : Nat) (ts : List Part) : List Fact := [bkF tb ty_ostiarylaw05_told (tdCells b rb T c ts), rowF ty_sl_uint8 1 (.slice T ts.length c) ts.length (ts.map partV), tgF ts]
/-- Both boxes' pointers and the tags. -/
def tdF (tb b rb : Nat) (T : Option Addr) (c : Nat) (ts : List Part) : Fact := sepF (tdFs tb b rb T c ts)
end Go.Proofs.YthkjfepbmnabkaaGreatDoor.Sx

/- What a box holds, plainly: tags that are opened have one form; turned, they have it still. -/
namespace Go.Proofs.YthkjfepbmnabkaaGreatDoor.Sx
open Go
attribute [local irreducible] Calls

/-- A sum that may be turned. -/
structure Nf (B : Bx.Box) (l : List Nat) (m : List UInt8) : Prop where
  mask : m.length = 32
  sorted : l.Pairwise (· < ·)
  nums : ∀ n ∈ l, 1 ≤ n ∧ n ≤ B.L.length
  base : ∀ n ∈ l, ∀ u, B.L[n - 1]? = some u → u.kind ≠ 4
structure K4 (B : Bx.Box) (t : Bx.Term) : Prop where
  nf : Nf B t.list t.mask
  form : t = turnT t.list t.mask
  one : ¬ (t.list.length = 1 ∧ t.mask = Bx.noughts)
  raw : ¬ (t.list = [] ∧ ¬ t.mask.take 28 = Bx.front)
structure BInv (B : Bx.Box) : Prop where
  sz : ∀ t ∈ B.L, TSz t
  nodup : B.L.Nodup
  k4 : ∀ t ∈ B.L, t.kind = 4 → K4 B t
  plain : B.sym = false → B.L = []
  len : B.L.length ≤ 4096
structure Ext (B B' : Bx.Box) : Prop where
  sym : B'.sym = B.sym
  full : B'.full = B.full
  len : B'.L.length ≤ B.L.length + 1
  inv : BInv B'
  mono : ∀ h r, B.opens h = some r → B'.opens h = some r
theorem Ext.refl {B : Bx.Box} (h : BInv B) : Ext B B := ⟨rfl, rfl, Nat.le_succ _, h, fun _ _ h => h⟩
theorem Nf.grow {B : Bx.Box} {l : List Nat} {m : List UInt8} (t : Bx.Term) (h : Nf B l m) : Nf { B with L := B.L ++ [t] } l m := by
  refine ⟨h.mask, h.sorted, fun n hn => ?_, fun n hn u hu => ?_⟩
  · have := h.nums n hn
    simp only [List.length_append, List.length_cons, List.length_nil]
    omega
  · have := h.nums n hn
    refine h.base n hn u ?_
    simp only at hu
    rw [List.getElem?_append_left (by omega)] at hu
    exact hu
theorem Nf.ok {B : Bx.Box} {l : List Nat} {m : List UInt8} (hi : BInv B) (h : Nf B l m) : OkN B l m := by
  have hnd : l.Nodup := h.sorted.imp (fun q => Nat.ne_of_lt q)
  refine ⟨⟨?_, fun n hn => ?_, h.mask⟩, hnd, h.nums⟩
  · have e := symL_mix (l2 := []) hnd List.nodup_nil h.nums (fun n hn => (by cases hn))
    have e2 : (mixL l []).length = l.length := by
      rw [mixL, sortN_len]
      have e3 : notIn l [] = l := List.filter_eq_self.2 (fun a _ => by simp)
      rw [e3]
      simp [notIn]
    have := symL_len l [] B.L.length
    rw [e, e2] at this
    have := hi.len
    omega
  · have := h.nums n hn
    have := hi.len
    omega
theorem opens_grow {B : Bx.Box} {t : Bx.Term} {h : List UInt8} {r : List Nat × List UInt8} (h0 : B.opens h = some r) : ({ B with L := B.L ++ [t] } : Bx.Box).opens h = some r := by
  unfold Bx.Box.opens at h0 ⊢
  split at h0
  · rename_i h32
    rw [if_pos h32]
    split at h0
    · rename_i hs
      rw [if_pos hs]
      split at h0
      · cases h0
      · rename_i hn
        have hn' : ¬ (Bx.num (h.drop 28) < 1 ∨ (B.L ++ [t]).length < Bx.num (h.drop 28)) := by
          rw [List.length_append]
          omega
        rw [if_neg hn']
        simp only
        rw [List.getElem?_append_left (by omega)]
        exact h0
    · rename_i hs
      rw [if_neg hs]
      exact h0
  · cases h0
theorem be4_of_num {l : List UInt8} (h : l.length = 4) : Bx.be4 (Bx.num l) = l := by
  have key : ∀ (x : Nat) (u : UInt8), x % 256 = u.toNat → UInt8.ofNat x = u := fun x u h => by
    apply UInt8.toNat_inj.1
    rw [UInt8.toNat_ofNat']
    exact h
  match l, h with
  | [a, b, c, d], _ =>
    have ha := a.toNat_lt
    have hb := b.toNat_lt
    have hc := c.toNat_lt
    have hd := d.toNat_lt
    simp only [Bx.num, List.foldl, Bx.be4]
    rw [key _ a (by omega), key _ b (by omega), key _ c (by omega), key _ d (by omega)]
/-- What an open tag is. -/
theorem opens_nf {B : Bx.Box} (hi : BInv B) {x : List UInt8} {l : List Nat} {m : List UInt8} (h : B.opens x = some (l, m)) :
    x.length = 32 ∧ Nf B l m ∧ ((l = [] ∧ m = x ∧ ¬ (B.sym = true ∧ m.take 28 = Bx.front)) ∨ (∃ n, l = [n] ∧ m = Bx.noughts ∧ x = Bx.handle n ∧ B.sym = true) ∨ (∃ k t, B.sym = true ∧ B.L[k]? = some t ∧ t = turnT l m ∧ K4 B t ∧ x = Bx.handle (k + 1))) := by
  unfold Bx.Box.opens at h
  split at h
  · rename_i h32
    refine ⟨h32, ?_⟩
    split at h
    · rename_i hs
      split at h
      · cases h
      · rename_i hn
        have hx : x = Bx.handle (Bx.num (x.drop 28)) := by
          have h1 := num4 h32
          have h2 : x = Bx.front ++ x.drop 28 := by rw [← hs.2, List.take_append_drop]
          rw [Bx.handle]
          rw [be4_of_num (by rw [List.length_drop, h32])]
          exact h2
        generalize hN : Bx.num (x.drop 28) = N at h hn hx
        split at h
        · rename_i t ht
          have htm : t ∈ B.L := List.mem_of_getElem? ht
          split at h
          · rename_i hk
            obtain ⟨rfl, rfl⟩ := Prod.mk.inj (Option.some.inj h)
            have h4 := hi.k4 t htm hk
            exact ⟨h4.nf, .inr (.inr ⟨N - 1, t, hs.1, ht, h4.form, h4, by rw [hx]; congr 1; omega⟩)⟩
          · rename_i hk
            obtain ⟨rfl, rfl⟩ := Prod.mk.inj (Option.some.inj h)
            refine ⟨⟨rfl, List.pairwise_singleton _ _, fun n hn' => ?_, fun n hn' u hu => ?_⟩, .inr (.inl ⟨N, rfl, rfl, hx, hs.1⟩)⟩
            · obtain rfl := List.mem_singleton.1 hn'
              omega
            · obtain rfl := List.mem_singleton.1 hn'
              rw [ht] at hu
              obtain rfl := Option.some.inj hu
              exact hk
        · cases h
    · rename_i hs
      obtain ⟨rfl, rfl⟩ := Prod.mk.inj (Option.some.inj h)
      exact ⟨⟨h32, List.Pairwise.nil, fun _ q => (by cases q), fun _ q => (by cases q)⟩, .inl ⟨rfl, rfl, hs⟩⟩
  · cases h
end Go.Proofs.YthkjfepbmnabkaaGreatDoor.Sx

/- A sum's one tag. -/
namespace Go.Proofs.YthkjfepbmnabkaaGreatDoor.Sx
open Go
attribute [local irreducible] Calls

open Classical in
/-- A sum's tag; the box behind it. -/
noncomputable def canon (B : Bx.Box) (l : List Nat) (m : List UInt8) : List UInt8 × Bx.Box :=
  if l = [] ∧ ¬ (B.sym = true ∧ m.take 28 = Bx.front) then (m, B)
  else match l, decide (m = Bx.noughts) with
    | [n], true => (Bx.handle n, B)
    | L, _ => B.tag (turnT L m)
theorem canon_raw {B : Bx.Box} {l : List Nat} {m : List UInt8} (h : l = [] ∧ ¬ (B.sym = true ∧ m.take 28 = Bx.front)) : canon B l m = (m, B) := by unfold canon; rw [if_pos h]
theorem canon_one {B : Bx.Box} {n : Nat} : canon B [n] Bx.noughts = (Bx.handle n, B) := by
  unfold canon
  rw [if_neg (fun q => by cases q.1), decide_eq_true rfl]
theorem canon_tag {B : Bx.Box} {l : List Nat} {m : List UInt8} (h : ¬ (l = [] ∧ ¬ (B.sym = true ∧ m.take 28 = Bx.front))) (h1 : ¬ (l.length = 1 ∧ m = Bx.noughts)) : canon B l m = B.tag (turnT l m) := by
  unfold canon
  rw [if_neg h]
  split
  · rename_i n h4
    exact absurd ⟨rfl, of_decide_eq_true h4⟩ h1
  · rfl
theorem turnB_canon {B : Bx.Box} {s t : List UInt8} {l1 l2 : List Nat} {m1 m2 : List UInt8} (h1 : B.opens s = some (l1, m1)) (h2 : B.opens t = some (l2, m2)) : turnB B s t = (some (canon B (mixL l1 l2) (Bx.xorB m1 m2)).1, (canon B (mixL l1 l2) (Bx.xorB m1 m2)).2) := by
  by_cases q1 : mixL l1 l2 = [] ∧ ¬ (B.sym = true ∧ (Bx.xorB m1 m2).take 28 = Bx.front)
  · rw [turnB_raw h1 h2 q1.1 q1.2, canon_raw q1]
  by_cases q2 : (mixL l1 l2).length = 1 ∧ Bx.xorB m1 m2 = Bx.noughts
  · obtain ⟨n, hn⟩ := List.length_eq_one_iff.1 q2.1
    rw [turnB_one h1 h2 hn q2.2, hn, q2.2, canon_one]
  · rw [turnB_tag h1 h2 q1 q2, canon_tag q1 q2]
theorem K4.grow {B : Bx.Box} {t : Bx.Term} (u : Bx.Term) (h : K4 B t) : K4 { B with L := B.L ++ [u] } t := ⟨h.nf.grow u, h.form, h.one, h.raw⟩
theorem tag_ext {B : Bx.Box} (hi : BInv B) (hs : B.sym = true) (hl : B.L.length < 4096) {t : Bx.Term} (hz : TSz t) (h4 : t.kind = 4 → K4 B t) : Ext B (B.tag t).2 ∧ ∃ k, (B.tag t).1 = Bx.handle (k + 1) ∧ (B.tag t).2.L[k]? = some t := by
  unfold Bx.Box.tag
  cases hp : Bx.place t B.L with
  | some i => exact ⟨Ext.refl hi, i, rfl, Bx.place_some hp⟩
  | none =>
    simp only
    rw [if_neg (by omega)]
    refine ⟨⟨rfl, rfl, by simp, ⟨fun u hu => ?_, ?_, fun u hu hk => ?_, fun q => ?_, ?_⟩, fun h r q => opens_grow q⟩, B.L.length, rfl, by simp⟩
    · rcases List.mem_append.1 hu with hu | hu
      · exact hi.sz u hu
      · obtain rfl := List.mem_singleton.1 hu
        exact hz
    · refine List.nodup_append.2 ⟨hi.nodup, List.nodup_cons.2 ⟨fun q => (by cases q), List.nodup_nil⟩, fun a ha b hb q => ?_⟩
      obtain rfl := List.mem_singleton.1 hb
      exact Bx.place_none hp (q ▸ ha)
    · rcases List.mem_append.1 hu with hu | hu
      · exact (hi.k4 u hu hk).grow t
      · obtain rfl := List.mem_singleton.1 hu
        exact (h4 hk).grow u
    · rw [show ({ B with L := B.L ++ [t] } : Bx.Box).sym = B.sym from rfl, hs] at q
      cases q
    · simp only [List.length_append, List.length_cons, List.length_nil]
      omega
theorem turnT_sz {B : Bx.Box} (hi : BInv B) {l : List Nat} {m : List UInt8} (h : Nf B l m) : TSz (turnT l m) := by
  obtain ⟨h1, _, _⟩ := h.ok hi
  have := h1.len
  have := h1.mask
  exact ⟨by show 4 < 1000; decide, by show 0 < 1000; decide, Nat.zero_le _, Nat.zero_le _, by show l.length ≤ 10000; omega, fun n hn => by have := h1.nums n hn; omega, by show m.length ≤ 1000000; omega⟩
theorem canon_ext {B : Bx.Box} (hi : BInv B) (hl : B.L.length < 4096) {l : List Nat} {m : List UInt8} (h : Nf B l m) : Ext B (canon B l m).2 ∧ (canon B l m).1.length = 32 ∧ (canon B l m).2.opens (canon B l m).1 = some (l, m) := by
  have hsym : l ≠ [] → B.sym = true := fun hne => by
    cases hs : B.sym with
    | true => rfl
    | false =>
      obtain ⟨n, r, rfl⟩ := List.exists_cons_of_ne_nil hne
      have := h.nums n List.mem_cons_self
      rw [hi.plain hs] at this
      have h0 : n ≤ 0 := this.2
      omega
  by_cases h1 : l = [] ∧ ¬ (B.sym = true ∧ m.take 28 = Bx.front)
  · rw [canon_raw h1]
    refine ⟨Ext.refl hi, h.mask, ?_⟩
    rw [h1.1]
    exact Bx.opens_raw h.mask h1.2
  by_cases h2 : l.length = 1 ∧ m = Bx.noughts
  · obtain ⟨h2, rfl⟩ := h2
    obtain ⟨n, rfl⟩ := List.length_eq_one_iff.1 h2
    have hs := hsym (fun q => by cases q)
    rw [canon_one]
    refine ⟨Ext.refl hi, rfl, ?_⟩
    have hn := h.nums n List.mem_cons_self
    obtain ⟨u, hu, _⟩ := at_lt (l := B.L) (k := n - 1) (by omega)
    have hb := h.base n List.mem_cons_self u hu
    exact (opens_h hs (by omega) hn.1 hn.2 hu).trans (if_neg hb)
  · rw [canon_tag h1 h2]
    have hs : B.sym = true := by
      by_cases hne : l = []
      · cases hs : B.sym with
        | true => rfl
        | false => exact absurd ⟨hne, fun q => by rw [hs] at q; cases q.1⟩ h1
      · exact hsym hne
    obtain ⟨he, k, hk, hkt⟩ := tag_ext hi hs hl (turnT_sz hi h) (fun _ => ⟨h, rfl, h2, fun q => h1 ⟨q.1, fun f => q.2 f.2⟩⟩)
    refine ⟨he, by rw [hk]; rfl, ?_⟩
    rw [hk]
    have hlen := he.inv.len
    have hlt := (List.getElem?_eq_some_iff.1 hkt).1
    exact (opens_h (he.sym.trans hs) (by omega) (by omega) (by omega) hkt).trans (if_pos rfl)
theorem mem_mix {l1 l2 : List Nat} {n : Nat} (h : n ∈ mixL l1 l2) : n ∈ l1 ∨ n ∈ l2 := by
  have h3 : n ∈ notIn l1 l2 ++ notIn l2 l1 := (List.mergeSort_perm _ _).mem_iff.1 h
  rcases List.mem_append.1 h3 with q | q
  · exact .inl (List.mem_filter.1 q).1
  · exact .inr (List.mem_filter.1 q).1
theorem Nf.mix {B : Bx.Box} {l1 l2 : List Nat} {m1 m2 : List UInt8} (h1 : Nf B l1 m1) (h2 : Nf B l2 m2) : Nf B (mixL l1 l2) (Bx.xorB m1 m2) := by
  have d1 : l1.Nodup := h1.sorted.imp (fun q => Nat.ne_of_lt q)
  have d2 : l2.Nodup := h2.sorted.imp (fun q => Nat.ne_of_lt q)
  refine ⟨by rw [xorB_len, h1.mask, h2.mask]; exact Nat.min_self _, ?_, fun n hn => ?_, fun n hn => ?_⟩
  · rw [← symL_mix d1 d2 h1.nums h2.nums]
    exact (List.pairwise_lt_range' 1).sublist List.filter_sublist
  · rcases mem_mix hn with q | q
    · exact h1.nums n q
    · exact h2.nums n q
  · rcases mem_mix hn with q | q
    · exact h1.base n q
    · exact h2.base n q
theorem turn_ext {B : Bx.Box} (hi : BInv B) (hl : B.L.length < 4096) {s t : List UInt8} {l1 l2 : List Nat} {m1 m2 : List UInt8} (h1 : B.opens s = some (l1, m1)) (h2 : B.opens t = some (l2, m2)) :
    ∃ h B', turnB B s t = (some h, B') ∧ Ext B B' ∧ h.length = 32 ∧ B'.opens h = some (mixL l1 l2, Bx.xorB m1 m2) := by
  obtain ⟨_, n1, _⟩ := opens_nf hi h1
  obtain ⟨_, n2, _⟩ := opens_nf hi h2
  obtain ⟨e1, e2, e3⟩ := canon_ext hi hl (n1.mix n2)
  exact ⟨_, _, turnB_canon h1 h2, e1, e2, e3⟩
theorem xor_comm (a b : List UInt8) : Bx.xorB a b = Bx.xorB b a := by
  unfold Bx.xorB
  rw [List.zipWith_comm]
  congr 1
  funext x y
  exact UInt8.xor_comm _ _
end Go.Proofs.YthkjfepbmnabkaaGreatDoor.Sx

/- The law's calls on both boxes. -/
namespace Go.Proofs.YthkjfepbmnabkaaGreatDoor.Sx
open Go
attribute [local irreducible] Calls

theorem cutC (w : World) (A : Option Addr) (l : List UInt8) (c k : Nat) (hr : Bs w A l) (hc : l.length ≤ c) (hn : k ≤ lim) :
    Con Tryz.prog n_ostiaryref01_Cut #[.slice A l.length c, .int .i64 k] w [] fun v Fs => ∃ A' c', v = .slice A' (l.take k).length c' ∧ (l.take k).length ≤ c' ∧ c' ≤ maxLen ∧ Fs = [browF ty_uint8 A' (l.take k) c'] := con_row (cut_c w A l c k hr hc hn)
/-- What a call of a box is told: new, open, and nothing else is shut. -/
def GoodT (B : Bx.Box) (r : List UInt8 × Bx.Box) : Prop := Ext B r.2 ∧ r.1.length = 32 ∧ ∃ q, r.2.opens r.1 = some q
theorem tag_good {B : Bx.Box} (hi : BInv B) (hs : B.sym = true) (hl : B.L.length < 4096) {t : Bx.Term} (hz : TSz t) (h4 : t.kind ≠ 4) : GoodT B (B.tag t) := by
  obtain ⟨he, k, hk, hkt⟩ := tag_ext hi hs hl hz (fun q => absurd q h4)
  refine ⟨he, by rw [hk]; rfl, ?_⟩
  rw [hk]
  have hlen := he.inv.len
  have hlt := (List.getElem?_eq_some_iff.1 hkt).1
  exact ⟨_, (opens_h (he.sym.trans hs) (by omega) (by omega) (by omega) hkt).trans (if_neg h4)⟩
theorem raw_good {B : Bx.Box} (hi : BInv B) (hs : B.sym = false) {h : List UInt8} (hh : h.length = 32) : GoodT B (h, B) :=
  ⟨Ext.refl hi, hh, _, Bx.opens_raw hh (fun q => by rw [hs] at q; cases q.1)⟩
theorem hash_good {B : Bx.Box} (hi : BInv B) (hl : B.L.length < 4096) {t : List UInt8} (ht : t.length ≤ 1000000) : GoodT B (hashB B t) := by
  cases hs : B.sym with
  | true => rw [show hashB B t = B.tag (hashT t) by unfold hashB; rw [hs]; rfl]; exact tag_good hi hs hl (hashT_sz ht) (by show ¬ 1 = 4; decide)
  | false => rw [show hashB B t = (Sha.sum t, B) by unfold hashB; rw [hs]; rfl]; exact raw_good hi hs (sum_len t)
theorem mac_good {B : Bx.Box} (hi : BInv B) (hl : B.L.length < 4096) {k t : List UInt8} (hk : k.length ≤ 1000000) (ht : t.length ≤ 1000000) : GoodT B (macB B k t) := by
  cases hs : B.sym with
  | true => rw [show macB B k t = B.tag (macT k t) by unfold macB; rw [hs]; rfl]; exact tag_good hi hs hl (macT_sz hk ht) (by show ¬ 2 = 4; decide)
  | false => rw [show macB B k t = (hmL k t, B) by unfold macB; rw [hs]; rfl]; exact raw_good hi hs (hmL_len k t)
theorem turn_cases {B : Bx.Box} (hi : BInv B) (hl : B.L.length < 4096) (s t : List UInt8) : turnB B s t = (none, B) ∨ ∃ h B', turnB B s t = (some h, B') ∧ GoodT B (h, B') := by
  cases h1 : B.opens s with
  | none => exact .inl (turnB_none1 h1)
  | some p =>
    cases h2 : B.opens t with
    | none => exact .inl (turnB_none2 h2)
    | some q =>
      obtain ⟨h, B', e1, e2, e3, e4⟩ := turn_ext hi hl h1 h2
      exact .inr ⟨h, B', e1, e2, e3, _, e4⟩
/-- A call of the script. -/
structure OpA where
  d : UInt8
  p : Int
  q : Int
  K : Option Addr
  key : List UInt8
  cK : Nat
  X : Option Addr
  text : List UInt8
  cX : Nat
  r : Int
  raw : Bool
def OpA.cells (o : OpA) : List Value := [.int .u8 o.d.toNat, .int .i64 o.p, .int .i64 o.q, .slice o.K o.key.length o.cK, .slice o.X o.text.length o.cX, .int .i64 o.r, .bool o.raw]
def OpA.sl (o : OpA) : List SL := o.cells.map SL.v
/-- What was told stays open. -/
structure TOk (B : Bx.Box) (ts : List Part) : Prop where
  inv : BInv B
  n : ts.length ≤ 1000
  tg : ∀ p ∈ ts, p.2.1.length = 32 ∧ ∃ r, B.opens p.2.1 = some r
structure Lo (B : Bx.Box) (y z : Lay) : Prop where
  y : y.ts.map (·.1) = B.L
  z : z.ts.map (·.1) = B.L
abbrev tlF (tb b rb : Nat) (B : Bx.Box) (y z : Lay) (T : Option Addr) (c : Nat) (ts : List Part) : List Fact := [bxF b B y, rbxF rb B z, tdF tb b rb T c ts]
end Go.Proofs.YthkjfepbmnabkaaGreatDoor.Sx

/- A box's calls: what is told has its length. -/
namespace Go.Proofs.YthkjfepbmnabkaaGreatDoor.Sx
open Go
attribute [local irreducible] Calls

/-- What a box tells, and the box behind it. -/
def outL (F : Bx.Box → Lay → Fact) (r : List UInt8 × Bx.Box) (v : Value) (Fs : List Fact) : Prop :=
  ∃ A c y', v = .slice A r.1.length c ∧ r.1.length ≤ c ∧ c ≤ maxLen ∧ y'.ts.map (·.1) = r.2.L ∧ Fs = [browF ty_uint8 A r.1 c, F r.2 y']
theorem boxOut_L {b : Nat} {r : List UInt8 × Bx.Box} {v : Value} {Fs : List Fact} (h : r.1.length = 32) (k : boxOut b r v Fs) : outL (bxF b) r v Fs := by
  obtain ⟨A, c, y', rfl, h1, h2, h3, rfl⟩ := k
  exact ⟨A, c, y', by rw [h], by rw [h]; exact h1, h2, h3, rfl⟩
theorem rtagOut_L {b : Nat} {r : List UInt8 × Bx.Box} {v : Value} {Fs : List Fact} (h : r.1.length = 32) (k : rtagOut b r v Fs) : outL (rbxF b) r v Fs := by
  obtain ⟨A, c, y', rfl, h1, h2, h3, rfl⟩ := k
  exact ⟨A, c, y', by rw [h], by rw [h]; exact h1, h2, h3, rfl⟩
theorem one_part (A : Option Addr) (l : List UInt8) (c : Nat) : partsT [(A, l, c)] = l := by simp [partsT]
theorem hashL_c (w : World) (b : Nat) (B : Bx.Box) (y : Lay) (b0 : Nat) (A : Option Addr) (l : List UInt8) (c : Nat) (hts : y.ts.map (·.1) = B.L) (hi : BInv B) (hL : B.L.length < 4096) (hn : l.length ≤ 1000000) (hm : Mem w [bxF b B y, partF (some ⟨b0, 0, none⟩) [(A, l, c)], oddF 2, firstF 0]) :
    Con Tryz.prog n_box_Box_Hash #[ptrB b, .slice (some ⟨b0, 0, none⟩) 1 1] w [bxF b B y] (outL (bxF b) (hashB B l)) := by
  have k := hashP_c w b B y b0 [(A, l, c)] 1 hts (by omega) (by simp) (Nat.le_refl 1) (by show 1 ≤ 1000; decide) (by rw [one_part]; exact hn) hm
  rw [one_part] at k
  exact k.mono fun v Fs h => boxOut_L (hash_good hi hL hn).2.1 h
theorem macL_c (w : World) (b : Nat) (B : Bx.Box) (y : Lay) (K : Option Addr) (key : List UInt8) (cK : Nat) (b0 : Nat) (A : Option Addr) (l : List UInt8) (c : Nat) (hts : y.ts.map (·.1) = B.L) (hi : BInv B) (hL : B.L.length < 4096) (hk : key.length ≤ 1000000) (hn : l.length ≤ 1000000) (hm : Mem w [bxF b B y, partF (some ⟨b0, 0, none⟩) [(A, l, c)], bsF K key, oddF 2, firstF 0]) :
    Con Tryz.prog n_box_Box_Mac #[ptrB b, .slice K key.length cK, .slice (some ⟨b0, 0, none⟩) 1 1] w [bxF b B y] (outL (bxF b) (macB B key l)) := by
  have k := macP_c w b B y K key cK b0 [(A, l, c)] 1 hts (by omega) hk (by simp) (Nat.le_refl 1) (by show 1 ≤ 1000; decide) (by rw [one_part]; exact hn) hm
  rw [one_part] at k
  exact k.mono fun v Fs h => boxOut_L (mac_good hi hL hk hn).2.1 h
/-- A stretched password. -/
def strL (F : Bx.Box → Lay → Fact) (r : List UInt8 × Bx.Box) (v : Value) (Fs : List Fact) : Prop :=
  ∃ A c y', v = .tuple #[.slice A r.1.length c, .int .i64 0] ∧ r.1.length ≤ c ∧ c ≤ maxLen ∧ y'.ts.map (·.1) = r.2.L ∧ Fs = [browF ty_uint8 A r.1 c, F r.2 y']
theorem rhashL_c (w : World) (b : Nat) (B : Bx.Box) (y : Lay) (P : Option Addr) (text : List UInt8) (cP : Nat) (hts : y.ts.map (·.1) = B.L) (hi : BInv B) (hL : B.L.length < 4096) (hn : text.length ≤ 1000000) (hm : Mem w [rbxF b B y, bsF P text, oddF 3]) :
    Con Tryz.prog n_ostiaryref05_Hash #[ptrB b, .slice P text.length cP] w [rbxF b B y] (outL (rbxF b) (hashB B text)) :=
  (rhash_c w b B y P text cP hts (by omega) hi.sz hn hm).mono fun v Fs h => rtagOut_L (hash_good hi hL hn).2.1 h
theorem rmacL_c (w : World) (b : Nat) (B : Bx.Box) (y : Lay) (K P : Option Addr) (key text : List UInt8) (cK cP : Nat) (hts : y.ts.map (·.1) = B.L) (hi : BInv B) (hL : B.L.length < 4096) (hk : key.length ≤ 1000000) (hn : text.length ≤ 1000000) (hm : Mem w [rbxF b B y, bsF K key, bsF P text, oddF 3]) :
    Con Tryz.prog n_ostiaryref05_Mac #[ptrB b, .slice K key.length cK, .slice P text.length cP] w [rbxF b B y] (outL (rbxF b) (macB B key text)) :=
  (rmac_c w b B y K P key text cK cP hts (by omega) hi.sz hk hn hm).mono fun v Fs h => rtagOut_L (mac_good hi hL hk hn).2.1 h
end Go.Proofs.YthkjfepbmnabkaaGreatDoor.Sx

/- Who there is: a store opened at one user, and shut. -/
namespace Go.Proofs.YthkjfepbmnabkaaGreatDoor.Sx
open Go
attribute [local irreducible] Calls

/-! ### facts cut anew -/
section
variable {c0 : Cx} {w : World}
end
/-! ### what is only read -/
def secF (x : SecV) (a : ASec) : Fact where
  own := false
  D := Un [bsF x.A1 a.salt, bsF x.A2 a.stored, bsF x.A3 a.server, bsF x.A4 a.ha1]
  p := SRd x a
  st := fun w w' hs h => ⟨h.n1, h.it, h.n2, h.n3, h.n4, (bsF x.A1 a.salt).st w w' (fun k hk => hs k ⟨_, by simp, hk⟩) h.r1, (bsF x.A2 a.stored).st w w' (fun k hk => hs k ⟨_, by simp, hk⟩) h.r2, (bsF x.A3 a.server).st w w' (fun k hk => hs k ⟨_, by simp, hk⟩) h.r3, (bsF x.A4 a.ha1).st w w' (fun k hk => hs k ⟨_, by simp, hk⟩) h.r4⟩

/-! ### nobody -/
end Go.Proofs.YthkjfepbmnabkaaGreatDoor.Sx

/- Secrets made. -/
namespace Go.Proofs.YthkjfepbmnabkaaGreatDoor.Sx
open Go
attribute [local irreducible] Calls

def clientK : List UInt8 := [67, 108, 105, 101, 110, 116, 32, 75, 101, 121]
def serverK : List UInt8 := [83, 101, 114, 118, 101, 114, 32, 75, 101, 121]
/-- What a box makes of a password. -/
noncomputable def mk1 (B : Bx.Box) (p salt : List UInt8) (it : Nat) : List UInt8 × Bx.Box := strB B p salt it
noncomputable def mk2 (B : Bx.Box) (p salt : List UInt8) (it : Nat) : List UInt8 × Bx.Box := macB (mk1 B p salt it).2 (mk1 B p salt it).1 clientK
noncomputable def mk3 (B : Bx.Box) (p salt : List UInt8) (it : Nat) : List UInt8 × Bx.Box := hashB (mk2 B p salt it).2 (mk2 B p salt it).1
noncomputable def mk4 (B : Bx.Box) (p salt : List UInt8) (it : Nat) : List UInt8 × Bx.Box := macB (mk3 B p salt it).2 (mk1 B p salt it).1 serverK
noncomputable def mk5 (B : Bx.Box) (p salt : List UInt8) (it : Nat) (t : List UInt8) : List UInt8 × Bx.Box := hashB (mk4 B p salt it).2 t
structure MkG (B : Bx.Box) (p salt : List UInt8) (it : Nat) (t : List UInt8) : Prop where
  g1 : GoodT B (mk1 B p salt it)
  g2 : GoodT (mk1 B p salt it).2 (mk2 B p salt it)
  g3 : GoodT (mk2 B p salt it).2 (mk3 B p salt it)
  g4 : GoodT (mk3 B p salt it).2 (mk4 B p salt it)
  g5 : GoodT (mk4 B p salt it).2 (mk5 B p salt it t)
theorem MkG.ext {B : Bx.Box} {p salt t : List UInt8} {it : Nat} (h : MkG B p salt it t) : (mk5 B p salt it t).2.L.length ≤ B.L.length + 5 ∧ BInv (mk5 B p salt it t).2 ∧ (mk5 B p salt it t).2.sym = B.sym := by
  have l1 := h.g1.1.len
  have l2 := h.g2.1.len
  have l3 := h.g3.1.len
  have l4 := h.g4.1.len
  have l5 := h.g5.1.len
  exact ⟨by omega, h.g5.1.inv, by rw [h.g5.1.sym, h.g4.1.sym, h.g3.1.sym, h.g2.1.sym, h.g1.1.sym]⟩
def noSec : Value := .agg #[.slice none 0 0, .int .i64 0, .slice none 0 0, .slice none 0 0, .slice none 0 0]
end Go.Proofs.YthkjfepbmnabkaaGreatDoor.Sx

/- Secrets made, by the reference. -/
namespace Go.Proofs.YthkjfepbmnabkaaGreatDoor.Sx
open Go
attribute [local irreducible] Calls

end Go.Proofs.YthkjfepbmnabkaaGreatDoor.Sx

/- Texts joined by colons, as bytes. -/
namespace Go.Proofs.YthkjfepbmnabkaaGreatDoor.Sx
open Go Sha
attribute [local irreducible] Calls

theorem joined_c (w : World) (b c : Nat) (xs : List ByteArray) (hP : Rd 1 (some ⟨b, 0, none⟩) xs.length (xs.map Value.string) w) (hb : b < w.heap.size) (hN : xs.length ≤ 1000) (hcap : xs.length ≤ c) (hlen : (joinB xs ⟨#[58]⟩).size ≤ 140737488355328) :
    Con Tryz.prog n_proof_joined #[.slice (some ⟨b, 0, none⟩) xs.length c] w [] fun v Fs => ∃ A c', v = .slice A (joinB xs ⟨#[58]⟩).size c' ∧ Fs = [rdoF 1 A (joinB xs ⟨#[58]⟩).size ((bl_ (joinB xs ⟨#[58]⟩)).map byte)] := by
  have hl : (Lib.join (xs.map (·.data.toList)) [58]).length ≤ 140737488355328 := hlen
  refine con_of_sx (cx := cx_proof_joined w (Un [])) (good_proof_joined w (Un [])) b_proof_joined rfl rfl (β := Va.z) [.c (.v (.slice (some ⟨b, 0, none⟩) xs.length c))] 0 [] [oldF w] rfl rfl (old_sat rfl) ?_
  refine call_pu (fun β w' hs => join_c w' b c xs ⟨#[58]⟩ (hP.old (hs.get 0 rfl)) (Nat.lt_of_lt_of_le hb hs.chg.size) hN hcap hl) ?_
  intro b2 c2 h1 h2
  intro β w' hs
  exact hs.fin [0] ⟨_, c2, rfl, rfl⟩
end Go.Proofs.YthkjfepbmnabkaaGreatDoor.Sx

/- What answers a challenge, by a plain box. -/
namespace Go.Proofs.YthkjfepbmnabkaaGreatDoor.Sx
open Go Sha
attribute [local irreducible] Calls

theorem bk_old {W w : World} {b ty : Nat} {cs : List Value} (h : (bkF b ty cs).p W) (ho : (oldF W).p w) : (bkF b ty cs).p w :=
  (ho b (Array.getElem?_eq_some_iff.1 (show W.heap[b]? = some _ from h)).1).trans h
theorem count_c (w : World) (n : Nat) (hn : n < 4294967296) : Pu Tryz.prog n_digest_Count #[.int .u32 n] w (.string ⟨(hexB (Bx.be4 n)).toArray⟩) := by
  have g := good_digest_Count w (Un [])
  refine con_of_sx (cx := cx_digest_Count w (Un [])) g b_digest_Count rfl rfl (β := Va.z) [.c (.v (.int .u32 n))] 0 [] [] rfl rfl (Sat.start rfl) ?_
  refine ⟨by decide, _, shr_nat n 24, _, wrap_u8b _, by decide, _, shr_nat n 16, _, wrap_u8b _, by decide, _, shr_nat n 8, _, wrap_u8b _, _, wrap_u8b _, ?_⟩
  intro b
  refine call_pu (fun β w' hs => hex_c w' (some ⟨b, 0, none⟩) (Bx.be4 n) 4 (row_rd (hs.get 0 rfl)) (by intro q; cases q) (by show 4 ≤ 1000000; decide)) ?_
  intro β w' hs
  exact hs.fin [] ⟨rfl, rfl⟩

def colon : ByteArray := ⟨#[58]⟩
/-- A plain box's hash of texts, with colons between. -/
theorem ha1_c (w : World) (b : Nat) (full : Bool) (L m : Value) (x y z : ByteArray) (hb : (boxF b false full L m).p w) (hs1 : (joinB [x, y, z] colon).size ≤ 100000) (h1 : (oddF 2).p w) (h0 : (firstF 0).p w) :
    Con Tryz.prog n_proof_HA1 #[.pointer (some ⟨b, 0, none⟩), .string x, .string y, .string z] w [] fun v Fs => ∃ A c, v = .slice A 32 c ∧ 32 ≤ c ∧ c ≤ maxLen ∧ Fs = [browF ty_uint8 A (Sha.sum (bl_ (joinB [x, y, z] colon))) c] := by
  have g := good_proof_HA1 w (Un [])
  refine con_of_sx (cx := cx_proof_HA1 w (Un [])) g b_proof_HA1 rfl rfl (β := Va.z) [.c (.v (.pointer (some ⟨b, 0, none⟩))), .c (.v (.string x)), .c (.v (.string y)), .c (.v (.string z))] 0 [] [oldF w] rfl rfl (old_sat rfl) ?_
  intro b1
  refine call_con [] (fun β w' hs => joined_c w' b1 3 [x, y, z] (row_rd (hs.get 0 rfl)) (hs.getLt 0 rfl b1 rfl) (by show 3 ≤ 1000; decide) (Nat.le_refl 3) (Nat.le_trans hs1 (by decide))) ?_
  rintro v Fs ⟨A, c, rfl, rfl⟩
  intro b2
  refine call_con [] (fun β w' hs => hash1_c w' b full L m (some ⟨b2, 0, none⟩) A 1 c (bl_ (joinB [x, y, z] colon)) (bk_old hb (hs.get 3 rfl)) (row_rd (hs.get 0 rfl)) (hs.get 1 rfl) (Nat.le_trans hs1 (by decide)) (Rd.old h1 (hs.get 3 rfl)) (Rd.old h0 (hs.get 3 rfl))) ?_
  rintro v Fs ⟨A3, c3, rfl, q1, q2, rfl⟩
  intro β w' hs
  exact hs.fin [0] ⟨A3, c3, rfl, q1, q2, rfl⟩
end Go.Proofs.YthkjfepbmnabkaaGreatDoor.Sx

/- What answers a challenge, by a plain box: the whole. -/
namespace Go.Proofs.YthkjfepbmnabkaaGreatDoor.Sx
open Go Sha
attribute [local irreducible] Calls

/-- An answer's eight parts. -/
structure AnsA where
  user : ByteArray
  realm : ByteArray
  nonce : ByteArray
  uri : ByteArray
  cnonce : ByteArray
  opaq : ByteArray
  nc : Nat
  proof : Value
def AnsA.cells (a : AnsA) : List Value := [.string a.user, .string a.realm, .string a.nonce, .string a.uri, .string a.cnonce, .string a.opaq, .int .u32 a.nc, a.proof]
def AnsA.sls (a : AnsA) : List SL := [.v (.string a.user), .v (.string a.realm), .v (.string a.nonce), .v (.string a.uri), .v (.string a.cnonce), .v (.string a.opaq), .v (.int .u32 a.nc), .v a.proof]
def hexS (l : List UInt8) : ByteArray := ⟨(hexB l).toArray⟩
def auth : ByteArray := ⟨#[97, 117, 116, 104]⟩
def ha2S (method : ByteArray) (a : AnsA) : List UInt8 := Sha.sum (bl_ (joinB [method, a.uri] colon))
def respL (ha1 : List UInt8) (method : ByteArray) (a : AnsA) : List ByteArray := [hexS ha1, a.nonce, hexS (Bx.be4 a.nc), a.cnonce, auth, hexS (ha2S method a)]
def respT (ha1 : List UInt8) (method : ByteArray) (a : AnsA) : ByteArray := joinB (respL ha1 method a) colon
theorem response_c (w : World) (b : Nat) (full : Bool) (L m : Value) (A : Option Addr) (ha1 : List UInt8) (c : Nat) (method : ByteArray) (a : AnsA) (hb : (boxF b false full L m).p w) (hr : Bs w A ha1) (hl : ha1.length = 32) (hn : a.nc < 4294967296)
    (hs1 : (joinB [method, a.uri] colon).size ≤ 100000) (hs2 : (respT ha1 method a).size ≤ 100000) (h1 : (oddF 2).p w) (h0 : (firstF 0).p w) :
    Con Tryz.prog n_proof_Response #[.pointer (some ⟨b, 0, none⟩), .slice A ha1.length c, .string method, .agg a.cells.toArray] w [] fun v Fs => ∃ A c, v = .slice A 32 c ∧ 32 ≤ c ∧ c ≤ maxLen ∧ Fs = [browF ty_uint8 A (Sha.sum (bl_ (respT ha1 method a))) c] := by
  have g := good_proof_Response w (Un [])
  refine con_of_sx (cx := cx_proof_Response w (Un [])) g b_proof_Response rfl rfl (β := Va.z) [.c (.v (.pointer (some ⟨b, 0, none⟩))), .c (.v (.slice A ha1.length c)), .c (.v (.string method)), .agg a.sls] 0 [] [oldF w] rfl rfl (old_sat rfl) ?_
  intro b1
  refine call_con [] (fun β w' hs => joined_c w' b1 2 [method, a.uri] (row_rd (hs.get 0 rfl)) (hs.getLt 0 rfl b1 rfl) (by show 2 ≤ 1000; decide) (Nat.le_refl 2) (Nat.le_trans hs1 (by decide))) ?_
  rintro v Fs ⟨A1, c1, rfl, rfl⟩
  intro b2
  refine call_con [] (fun β w' hs => hash1_c w' b full L m (some ⟨b2, 0, none⟩) A1 1 c1 (bl_ (joinB [method, a.uri] colon)) (bk_old hb (hs.get 3 rfl)) (row_rd (hs.get 0 rfl)) (hs.get 1 rfl) (Nat.le_trans hs1 (by decide)) (Rd.old h1 (hs.get 3 rfl)) (Rd.old h0 (hs.get 3 rfl))) ?_
  rintro v Fs ⟨A3, c3, rfl, q1, q2, rfl⟩
  have hS : ∀ {n : Nat} {F : List Fact}, Sub (cx_proof_Response w (Un [])) n [⟨0, ty_digest_Answer, a.sls⟩] F [⟨0, ty_digest_Answer, a.sls⟩] [] := fun {n F} => Sub.of (List.Sublist.refl _) (List.nil_sublist _)
  refine draw_rule g p_proof_Response_2 (by kernel_rfl) [⟨0, ty_digest_Answer, a.sls⟩] [] hS ?_
  have hne1 : ha1 ≠ [] := by intro q; rw [q] at hl; cases hl
  refine call_pu (fun β w' hs => hex_c w' A ha1 c (hr.old (hs.get 4 rfl)) hne1 (by omega)) ?_
  refine ⟨hS, ?_⟩
  refine call_pu (fun β w' hs => count_c w' a.nc hn) ?_
  refine ⟨hS, ?_⟩
  refine call_pu (fun β w' hs => hex_c w' A3 (ha2S method a) c3 (row_rd (hs.get 0 rfl)) (by intro q; have := congrArg List.length q; rw [ha2S, Sha.sum_len] at this; cases this) (by rw [ha2S, Sha.sum_len]; decide)) ?_
  refine ⟨hS, ?_⟩
  intro b3
  refine ⟨hS, ?_⟩
  refine call_con [] (fun β w' hs => joined_c w' b3 6 (respL ha1 method a) (row_rd (hs.get 0 rfl)) (hs.getLt 0 rfl b3 rfl) (by show 6 ≤ 1000; decide) (Nat.le_refl 6) (Nat.le_trans hs2 (by decide))) ?_
  rintro v Fs ⟨A4, c4, rfl, rfl⟩
  refine ⟨hS, ?_⟩
  intro b4
  refine ⟨hS, ?_⟩
  refine call_con [] (fun β w' hs => hash1_c w' b full L m (some ⟨b4, 0, none⟩) A4 1 c4 (bl_ (respT ha1 method a)) (bk_old hb (hs.get 7 rfl)) (row_rd (hs.get 0 rfl)) (hs.get 1 rfl) (Nat.le_trans hs2 (by decide)) (Rd.old h1 (hs.get 7 rfl)) (Rd.old h0 (hs.get 7 rfl))) ?_
  rintro v Fs ⟨A5, c5, rfl, q3, q4, rfl⟩
  refine ⟨hS, ?_⟩
  intro β w' hs
  exact (hs.keepB (List.nil_sublist _)).fin [0] ⟨A5, c5, rfl, q3, q4, rfl⟩
end Go.Proofs.YthkjfepbmnabkaaGreatDoor.Sx

/- The document's example of a digest: it is right. -/
namespace Go.Proofs.YthkjfepbmnabkaaGreatDoor.Sx
open Go Sha
attribute [local irreducible] Calls

def x_user : ByteArray := ⟨#[77, 117, 102, 97, 115, 97]⟩
def x_realm : ByteArray := ⟨#[104, 116, 116, 112, 45, 97, 117, 116, 104, 64, 101, 120, 97, 109, 112, 108, 101, 46, 111, 114, 103]⟩
def x_pass : ByteArray := ⟨#[67, 105, 114, 99, 108, 101, 32, 111, 102, 32, 76, 105, 102, 101]⟩
def x_get : ByteArray := ⟨#[71, 69, 84]⟩
def x_uri : ByteArray := ⟨#[47, 100, 105, 114, 47, 105, 110, 100, 101, 120, 46, 104, 116, 109, 108]⟩
def x_nonce : ByteArray := ⟨#[55, 121, 112, 102, 47, 120, 108, 106, 57, 88, 88, 119, 102, 68, 80, 69, 111, 77, 52, 85, 82, 114, 118, 47, 120, 119, 102, 57, 52, 66, 99, 67, 65, 122, 70, 90, 72, 52, 71, 105, 84, 111, 48, 118]⟩
def x_cn : ByteArray := ⟨#[102, 50, 47, 119, 69, 52, 113, 55, 52, 69, 54, 122, 73, 74, 69, 116, 87, 97, 72, 75, 97, 102, 53, 119, 118, 47, 72, 53, 81, 122, 122, 112, 88, 117, 115, 113, 71, 101, 109, 120, 85, 82, 90, 74]⟩
def x_ha1 : List UInt8 := [121, 135, 198, 76, 48, 226, 95, 27, 116, 190, 83, 249, 102, 180, 155, 144, 242, 128, 138, 169, 47, 175, 154, 0, 38, 35, 146, 215, 180, 121, 66, 50]
def x_resp : List UInt8 := [117, 57, 39, 250, 14, 133, 209, 85, 86, 78, 46, 39, 42, 40, 209, 128, 44, 161, 13, 175, 68, 150, 121, 70, 151, 207, 141, 181, 133, 108, 182, 193]
def x_ans : AnsA := ⟨⟨#[]⟩, ⟨#[]⟩, x_nonce, x_uri, x_cn, ⟨#[]⟩, 1, .slice none 0 0⟩
theorem x_sum1 : Sha.sum (bl_ (joinB [x_user, x_realm, x_pass] colon)) = x_ha1 := by decide +kernel
theorem x_sum2 : Sha.sum (bl_ (respT x_ha1 x_get x_ans)) = x_resp := by decide +kernel
theorem x_size1 : (joinB [x_user, x_realm, x_pass] colon).size ≤ 100000 := by decide +kernel
theorem x_size2 : (joinB [x_get, x_uri] colon).size ≤ 100000 := by decide +kernel
theorem x_size3 : (respT x_ha1 x_get x_ans).size ≤ 100000 := by decide +kernel
theorem x_four : (x_resp.drop 0).take (4 - 0) = [117, 57, 39, 250] := by decide
theorem awake19_c (w : World) (h1 : (oddF 2).p w) (h0 : (firstF 0).p w) : Pu Tryz.prog n_ostiarylaw19_awake #[] w (.bool true) := by
  have g := good_ostiarylaw19_awake w (Un [])
  refine con_of_sx (cx := cx_ostiarylaw19_awake w (Un [])) g b_ostiarylaw19_awake rfl rfl (β := Va.z) [] 0 [] [oldF w] rfl rfl (old_sat rfl) ?_
  refine call_con [] (fun β w' hs => new_c w' false) ?_
  rintro v Fs ⟨b, m, rfl, rfl⟩
  refine draw_rule g p_ostiarylaw19_awake_3 (by kernel_rfl) [⟨0, ty_digest_Answer, x_ans.sls⟩] [] (Sub.of (List.Sublist.refl _) (List.nil_sublist _)) ?_
  refine call_con [] (fun β w' hs => ha1_c w' b false (.slice none 0 0) (.map (some m)) x_user x_realm x_pass (hs.get 0 rfl) x_size1 (Rd.old h1 (hs.get 2 rfl)) (Rd.old h0 (hs.get 2 rfl))) ?_
  rintro v Fs ⟨A1, c1, rfl, q1, q2, rfl⟩
  rw [x_sum1]
  refine ⟨Sub.of (List.Sublist.refl _) (List.nil_sublist _), ?_⟩
  refine call_con [] (fun β w' hs => response_c w' b false (.slice none 0 0) (.map (some m)) A1 x_ha1 c1 x_get x_ans (hs.get 1 rfl) (row_rd (hs.get 0 rfl)) rfl (by decide) x_size2 x_size3 (Rd.old h1 (hs.get 3 rfl)) (Rd.old h0 (hs.get 3 rfl))) ?_
  rintro v Fs ⟨A2, c2, rfl, q3, q4, rfl⟩
  rw [x_sum2]
  refine ⟨Sub.of (List.Sublist.refl _) (List.nil_sublist _), ?_⟩
  refine ⟨c2, 4, 0, 4, c2, _, rfl, rfl, rfl, Nat.le_refl _, by omega, Nat.zero_le _, rfl, rfl, rfl, ?_⟩
  intro b5
  refine call_pu (fun β w' hs => pu_of (same_c w' (cutA A2 c2 0 1) (some ⟨b5, 0, none⟩) [117, 57, 39, 250] [117, 57, 39, 250] c2 4 (Bs.cutB (row_rd (hs.get 1 rfl)) q3 (Nat.zero_le 4) (by decide) x_four) (row_rd (hs.get 0 rfl)))) ?_
  intro β w' hs
  exact hs.fin [] ⟨rfl, rfl⟩
end Go.Proofs.YthkjfepbmnabkaaGreatDoor.Sx

/- Who there is: tenants and users that come. -/
namespace Go.Proofs.YthkjfepbmnabkaaGreatDoor.Sx
open Go
attribute [local irreducible] Calls

def addT (X : ASto) (t : ByteArray) : Int × ASto :=
  if plainF t.data.toList = false then (5, X) else if (aten X.ts t).isSome then (7, X) else if 8 ≤ X.ts.length then (8, X) else (0, { X with ts := X.ts ++ [(t, [])] })
/-! ### a user more -/
def addU (X : ASto) (t u : ByteArray) (a : ASec) : Int × ASto :=
  match aten X.ts t with
  | none => (6, X)
  | some us => if (nameA u).2 = 0 then if rightA a = false then (4, X) else if (ausr us (nameA u).1).isSome then (7, X) else if 32 ≤ us.length then (8, X) else if greatN ≤ X.last then (8, X) else
      (0, { X with ts := atenU X.ts t (fun us => us ++ [⟨t, (nameA u).1, a, X.last + 1, [], false⟩]), last := X.last + 1 })
    else ((nameA u).2, X)
end Go.Proofs.YthkjfepbmnabkaaGreatDoor.Sx

/- Who there is: a user found; his credential copied; revoked. -/
namespace Go.Proofs.YthkjfepbmnabkaaGreatDoor.Sx
open Go
attribute [local irreducible] Calls

/-! ### where a user stands -/
/-! ### copied -/
def Crd.ss (c : Crd) : List SL := .v (.string c.tenant) :: .v (.string c.user) :: (c.sec.x.ss ++ [.v (.int .u64 c.gen), .v (.slice c.rA c.roles.length c.rc), .v (.bool c.revoked)])
/-! ### found -/
end Go.Proofs.YthkjfepbmnabkaaGreatDoor.Sx

/- Who there is: who is revoked, or goes. -/
namespace Go.Proofs.YthkjfepbmnabkaaGreatDoor.Sx
open Go
attribute [local irreducible] Calls

/-! ### an entry goes -/
/-! ### who goes -/
/-! ### who is revoked -/
def updU (X : ASto) (t u : ByteArray) (f : ACrd → ACrd) : ASto := { X with ts := atenU X.ts t (fun us => ausrU us (nameA u).1 fun c => { f c with gen := X.last + 1 }), last := X.last + 1 }
def revU (X : ASto) (t u : ByteArray) (b : Bool) : Int × ASto := match aone X t u with
  | none => (6, X)
  | some _ => if greatN ≤ X.last then (8, X) else (0, updU X t u fun c => { c with revoked := b })
end Go.Proofs.YthkjfepbmnabkaaGreatDoor.Sx

/- Who there is: a role more, behind all others. -/
namespace Go.Proofs.YthkjfepbmnabkaaGreatDoor.Sx
open Go
attribute [local irreducible] Calls

def grantE (X : ASto) (t u role : ByteArray) : Int × ASto := match aone X t u with
  | none => (6, X)
  | some c => if plainF role.data.toList = false then (5, X) else if 8 ≤ c.roles.length then (8, X) else if greatN ≤ X.last then (8, X) else (0, updU X t u fun c => { c with roles := c.roles ++ [role] })
end Go.Proofs.YthkjfepbmnabkaaGreatDoor.Sx

/- Who there is: a secret of noughts; the example. -/
namespace Go.Proofs.YthkjfepbmnabkaaGreatDoor.Sx
open Go
attribute [local irreducible] Calls

def zeros32 : List UInt8 := List.replicate 32 0
def plainS : ASec := ⟨[1], 1, zeros32, zeros32, zeros32⟩
def plainX (b0 b1 b2 b3 : Nat) : SecV := ⟨some ⟨b0, 0, none⟩, 1, 1, 1, some ⟨b1, 0, none⟩, 32, 32, some ⟨b2, 0, none⟩, 32, 32, some ⟨b3, 0, none⟩, 32, 32⟩
noncomputable def rowZ (b : Nat) : Fact := rowF ty_uint8 1 (.slice (some ⟨b, 0, none⟩) 32 32) 32 (repl ti5.zero 32)
def row1 (b : Nat) : Fact := rowF ty_uint8 1 (.slice (some ⟨b, 0, none⟩) 1 1) 1 [.int .u8 1]
end Go.Proofs.YthkjfepbmnabkaaGreatDoor.Sx

/- Who there is: the document's example. -/
namespace Go.Proofs.YthkjfepbmnabkaaGreatDoor.Sx
open Go
attribute [local irreducible] Calls

def tT : ByteArray := ⟨#[116]⟩
def annT : ByteArray := ⟨#[97, 110, 110]⟩
def devT : ByteArray := ⟨#[100, 101, 118]⟩
def X0 : ASto := ⟨[], 0, 0⟩
def X1 : ASto := ⟨[(tT, [])], 0, 0⟩
def annC (gen : Nat) (roles : List ByteArray) (r : Bool) : ACrd := ⟨tT, annT, plainS, gen, roles, r⟩
def X2 (gen : Nat) (roles : List ByteArray) (r : Bool) (reads : Int) : ASto := ⟨[(tT, [annC gen roles r])], gen, reads⟩
theorem name_ann : nameA annT = (annT, 0) := by decide +kernel
theorem e1 : addT X0 tT = (0, X1) := by rfl
theorem e2 : addU X1 tT annT plainS = (0, X2 1 [] false 0) := by
  unfold addU
  rw [name_ann]
  rfl
theorem aone_X2 (gen : Nat) (roles : List ByteArray) (r : Bool) (reads : Int) : aone (X2 gen roles r reads) tT annT = some (annC gen roles r) := by
  unfold aone
  rw [name_ann]
  rfl
theorem e3 : grantE (X2 1 [] false 0) tT annT devT = (0, X2 2 [devT] false 0) := by
  unfold grantE
  rw [aone_X2]
  unfold updU
  rw [name_ann]
  rfl
theorem e4 : revU (X2 2 [devT] false 1) tT annT true = (0, X2 3 [devT] true 1) := by
  unfold revU
  rw [aone_X2]
  unfold updU
  rw [name_ann]
  rfl
/-- The secret of noughts, to be read. -/
theorem Sat.plainF {cx : Cx} {β : Va} {n : Nat} {H : List Bk} {w : World} {F : List Fact} {b0 b1 b2 b3 : Nat} (h : Sat cx β n H F w) (js : List Nat) (hj : takeIx F js = [rowZ b3, rowZ b2, rowZ b1, row1 b0]) (hn : nodupB js = true := by rfl) : Sat cx β n H (secF (plainX b0 b1 b2 b3) plainS :: dropIx js 0 F) w := by
  refine h.fuse js (secF (plainX b0 b1 b2 b3) plainS) (fun w hm => ?_) (fun k hk => ?_) hn (by rw [hj]; exact ⟨rfl, rfl, rfl, rfl, trivial⟩)
  · rw [hj] at hm
    exact ⟨rfl, rfl, rfl, rfl, rfl, row_rd (hm.fact (row1 b0) (by simp)), row_rd (hm.fact (rowZ b1) (by simp)), row_rd (hm.fact (rowZ b2) (by simp)), row_rd (hm.fact (rowZ b3) (by simp))⟩
  · rw [hj]
    obtain ⟨f, hf, hk⟩ := hk
    simp only [List.mem_cons, List.not_mem_nil, or_false] at hf
    rcases hf with rfl | rfl | rfl | rfl
    all_goals
      obtain ⟨_, ad, q, rfl⟩ := hk
      obtain rfl := Option.some.inj q
    · exact ⟨row1 b0, by simp, rfl⟩
    · exact ⟨rowZ b1, by simp, rfl⟩
    · exact ⟨rowZ b2, by simp, rfl⟩
    · exact ⟨rowZ b3, by simp, rfl⟩
end Go.Proofs.YthkjfepbmnabkaaGreatDoor.Sx

/- BoxTurns. -/
namespace Go.Proofs.YthkjfepbmnabkaaGreatDoor.Sx
open Go
attribute [local irreducible] Calls

def OpA.ok (w : World) (o : OpA) : Prop := (Bs w o.K o.key ∧ o.key.length ≤ o.cK) ∧ (Bs w o.X o.text ∧ o.text.length ≤ o.cX)
/-- Where a script stands. -/
structure LS where
  k : Nat
  B : Bx.Box
  y : Lay
  z : Lay
  T : Option Addr
  c : Nat
  ts : List Part
def LS.F (tb b rb : Nat) (i : LS) : List Fact := tlF tb b rb i.B i.y i.z i.T i.c i.ts
structure LS.Ok (i : LS) (n m : Nat) : Prop where
  k : i.k ≤ n
  lo : Lo i.B i.y i.z
  ok : TOk i.B i.ts
  bl : i.B.L.length ≤ min i.k m
  tl : i.ts.length ≤ min i.k m
def LS.start (sym : Bool) (y0 : Lay) : LS := ⟨0, ⟨sym, false, []⟩, y0, ⟨none, 0, 0, []⟩, none, 0, []⟩
theorem LS.Ok.next {i : LS} {n m : Nat} (h : i.Ok n m) (hk : i.k < n) (hm : i.k < m) {B' : Bx.Box} {y z : Lay} {T : Option Addr} {c : Nat} {ts' : List Part} (he : Ext i.B B') (hl : Lo B' y z) (ho : TOk B' ts') (ht : ts'.length ≤ i.ts.length + 1) : (LS.mk (i.k + 1) B' y z T c ts').Ok n m := by
  have h1 := h.bl
  have h2 := h.tl
  have h3 := he.len
  exact ⟨hk, hl, ho, by show B'.L.length ≤ min (i.k + 1) m; omega, by show ts'.length ≤ min (i.k + 1) m; omega⟩
end Go.Proofs.YthkjfepbmnabkaaGreatDoor.Sx

/- The law's two boxes, compared: the program's small words on a box. -/
namespace Go.Proofs.YthkjfepbmnabkaaGreatDoor.Sx
open Go
attribute [local irreducible] Calls

theorem lenX_c (w : World) (b : Nat) (B : Bx.Box) (y : Lay) (hb : (bxF b B y).p w) (hbD : ∀ k, (bxF b B y).D k → k < w.heap.size) : Pu Tryz.prog n_box_Box_Len #[ptrB b] w (.int .i64 (B.L.length : Int)) := by
  have g := good_box_Box_Len w (Un [])
  refine con_of_sx (cx := cx_box_Box_Len w (Un [])) g b_box_Box_Len rfl rfl (β := Va.z) [.c (.v (ptrB b))] 0 [] [oldF w] rfl rfl (old_sat rfl) ?_
  refine ⟨.slice y.A B.L.length y.c, fun β w' hs => box_cell (bx_bk (fact_old hb hbD (hs.get 0 rfl))) (o := 2) rfl, ?_⟩
  intro β w' hs
  exact hs.fin [] ⟨rfl, rfl⟩
end Go.Proofs.YthkjfepbmnabkaaGreatDoor.Sx

/- Secrets made: one word for both ends; a box at its beginning; facts put in another way. -/
namespace Go.Proofs.YthkjfepbmnabkaaGreatDoor.Sx
open Go
attribute [local irreducible] Calls

theorem tri_sat {cx : Cx} {c : Code} {Q : Exit → KT} {n : Nat} {env : Env} {H : List Bk} {F F' : List Fact} (hS : ∀ β w, Sat cx β n H F w → Sat cx β n H F' w) (h : Tri cx c Q n env H F') : Tri cx c Q n env H F :=
  ⟨fun β a w hi => h.run β a w ⟨hi.ag, hi.size, hi.df, hi.lte, hS β w hi.sat⟩⟩
theorem reify_tri {cx : Cx} {c : Code} {Q : Exit → KT} {n : Nat} {env : Env} {H : List Bk} {F : List Fact} (id : Nat) {ty : TypeId} {cs : List SL} (vs : Nat → List Value) (h1 : tyAt H id = some ty) (h2 : cellsAt H id = some cs) (h3 : ∀ b, allV (cs.map (SL.re id b)) = some (vs b))
    (h : ∀ b, Tri cx c Q n (envRe id b env) (bksRe id b H) (bkF b ty (vs b) :: F)) : Tri cx c Q n env H F :=
  tri_join (ι := Nat) (fun _ => True) n (fun b => envRe id b env) (fun b => bksRe id b H) (fun b => bkF b ty (vs b) :: F) (fun b _ => h b) (EntX.reify id vs h1 h2 h3 (fun b => EntX.of b trivial ⟨fun β a w hi => ⟨β, rfl, rfl, hi⟩⟩))
theorem dropIx_ge {js : List Nat} : ∀ {F : List Fact} {i : Nat}, (∀ j ∈ js, j < i) → dropIx js i F = F
  | [], _, _ => rfl
  | f :: r, i, h => by
    have hm : memb js i = false := by
      cases hb : memb js i with
      | false => rfl
      | true => have := h i (memb_mem hb); omega
    simp only [dropIx, hm]
    rw [dropIx_ge (fun j hj => Nat.lt_succ_of_lt (h j hj))]
theorem cut_size' (s : ByteArray) (k : Nat) : (s.extract 0 (min s.size k)).size ≤ k := by
  rw [ByteArray.size_extract]; omega
def box0 (sym : Bool) : Bx.Box := ⟨sym, false, []⟩
def lay0 : Lay := ⟨none, 0, 0, []⟩
theorem box0_inv (sym : Bool) : BInv (box0 sym) := ⟨fun _ q => (by cases q), List.nodup_nil, fun _ q => (by cases q), fun _ => rfl, Nat.zero_le _⟩
theorem Sat.rbx0 {cx : Cx} {β : Va} {n : Nat} {H : List Bk} {F : List Fact} {w : World} {rb : Nat} {sym : Bool} (hs : Sat cx β n H (bkF rb ty_ostiaryref05_Box [.bool sym, .slice none 0 0, .bool false] :: F) w) : Sat cx β n H (rbxF rb (box0 sym) lay0 :: F) w := by
  have h1 := (hs.nilRow ty_ostiaryref05_Term 6).noMem (partsF []) (fun _ h => (by cases h)) (fun k hk => by obtain ⟨p, hp, _⟩ := hk; cases hp)
  have h2 := h1.sep [2, 1, 0] rfl ⟨rfl, rfl, rfl, trivial⟩
  have e : dropIx [2, 1, 0] 0 (partsF [] :: rowF ty_ostiaryref05_Term 6 (.slice none 0 0) 0 [] :: bkF rb ty_ostiaryref05_Box [.bool sym, .slice none 0 0, .bool false] :: F) = F := by
    show dropIx [2, 1, 0] 3 F = F
    exact dropIx_ge (fun j hj => by simp only [List.mem_cons, List.not_mem_nil, or_false] at hj; omega)
  rw [e] at h2
  exact h2
/-- What is made, or nothing. -/
structure MkR where
  e : Int
  salt : List UInt8
  it : Int
  stored : List UInt8
  server : List UInt8
  ha1 : List UInt8
  B : Bx.Box
def SecA.is (x : SecA) (r : MkR) : Prop := x.s0 = r.salt ∧ x.it = r.it ∧ x.s1 = r.stored ∧ x.s2 = r.server ∧ x.s3 = r.ha1
def SecA.fs (x : SecA) : List Fact := [browF ty_uint8 x.A3 x.s3 x.c3, browF ty_uint8 x.A2 x.s2 x.c2, browF ty_uint8 x.A1 x.s1 x.c1, browF ty_uint8 x.A0 x.s0 x.c0]
theorem SecA.same {x y : SecA} {r : MkR} (hx : x.is r) (hy : y.is r) : x.s0 = y.s0 ∧ x.it = y.it ∧ x.s1 = y.s1 ∧ x.s2 = y.s2 ∧ x.s3 = y.s3 :=
  ⟨hx.1.trans hy.1.symm, hx.2.1.trans hy.2.1.symm, hx.2.2.1.trans hy.2.2.1.symm, hx.2.2.2.1.trans hy.2.2.2.1.symm, hx.2.2.2.2.trans hy.2.2.2.2.symm⟩
end Go.Proofs.YthkjfepbmnabkaaGreatDoor.Sx

/- A proof, checked by the program and by the reference. -/
namespace Go.Proofs.YthkjfepbmnabkaaGreatDoor.Sx
open Go
attribute [local irreducible] Calls

theorem BInv.okN {B : Bx.Box} (hi : BInv B) : ∀ tag l m, B.opens tag = some (l, m) → OkN B l m := fun _ _ _ h => (opens_nf hi h).2.1.ok hi
theorem turnL_c (w : World) (b : Nat) (B B' : Bx.Box) (y : Lay) (A1 A2 : Option Addr) (s t h : List UInt8) (c1 c2 : Nat) (e : turnB B s t = (some h, B')) (hh : h.length = 32) (hts : y.ts.map (·.1) = B.L) (hi : BInv B)
    (hm : Mem w [bxF b B y, bsF A1 s, bsF A2 t]) (hc1 : s.length ≤ c1) (hc2 : t.length ≤ c2) (hl1 : s.length ≤ 1000000) (hl2 : t.length ≤ 1000000) :
    Con Tryz.prog n_box_Box_Turn #[ptrB b, .slice A1 s.length c1, .slice A2 t.length c2] w [bxF b B y] (strL (bxF b) (h, B')) := by
  refine (turnB_c w b B y A1 A2 s t c1 c2 hts hi.len hi.sz (fun tag l m q => (hi.okN tag l m q).1) hm hc1 hc2 hl1 hl2).mono fun v Fs k => ?_
  rw [turnOut_some e] at k
  obtain ⟨A, c, y', rfl, h1, h2, h3, rfl⟩ := k
  exact ⟨A, c, y', by show _ = Value.tuple #[.slice A h.length c, .int .i64 0]; rw [hh], by show h.length ≤ c; omega, h2, h3, rfl⟩
theorem turnN_c (w : World) (b : Nat) (B : Bx.Box) (y : Lay) (A1 A2 : Option Addr) (s t : List UInt8) (c1 c2 : Nat) (e : turnB B s t = (none, B)) (hts : y.ts.map (·.1) = B.L) (hi : BInv B)
    (hm : Mem w [bxF b B y, bsF A1 s, bsF A2 t]) (hc1 : s.length ≤ c1) (hc2 : t.length ≤ c2) (hl1 : s.length ≤ 1000000) (hl2 : t.length ≤ 1000000) :
    Con Tryz.prog n_box_Box_Turn #[ptrB b, .slice A1 s.length c1, .slice A2 t.length c2] w [bxF b B y] (fun v Fs => v = .tuple #[.slice none 0 0, .int .i64 4] ∧ Fs = [bxF b B y]) := by
  refine (turnB_c w b B y A1 A2 s t c1 c2 hts hi.len hi.sz (fun tag l m q => (hi.okN tag l m q).1) hm hc1 hc2 hl1 hl2).mono fun v Fs k => ?_
  rw [turnOut_none e] at k
  exact k
theorem rturnL_c (w : World) (b : Nat) (B B' : Bx.Box) (y : Lay) (A1 A2 : Option Addr) (s t h : List UInt8) (c1 c2 : Nat) (e : turnB B s t = (some h, B')) (hh : h.length = 32) (hts : y.ts.map (·.1) = B.L) (hi : BInv B)
    (hm : Mem w [rbxF b B y, bsF A1 s, bsF A2 t]) (hc1 : s.length ≤ c1) (hc2 : t.length ≤ c2) (hl1 : s.length ≤ 1000000) (hl2 : t.length ≤ 1000000) :
    Con Tryz.prog n_ostiaryref05_Turn #[ptrB b, .slice A1 s.length c1, .slice A2 t.length c2] w [rbxF b B y] (outL (rbxF b) (h, B')) := by
  refine (rturn_c w b B y A1 A2 s t c1 c2 hts hi.len hi.sz hi.okN hm hc1 hc2 hl1 hl2).mono fun v Fs k => ?_
  rw [rturnOut_some e] at k
  exact rtagOut_L hh k
theorem rturnN_c (w : World) (b : Nat) (B : Bx.Box) (y : Lay) (A1 A2 : Option Addr) (s t : List UInt8) (c1 c2 : Nat) (e : turnB B s t = (none, B)) (hts : y.ts.map (·.1) = B.L) (hi : BInv B)
    (hm : Mem w [rbxF b B y, bsF A1 s, bsF A2 t]) (hc1 : s.length ≤ c1) (hc2 : t.length ≤ c2) (hl1 : s.length ≤ 1000000) (hl2 : t.length ≤ 1000000) :
    Con Tryz.prog n_ostiaryref05_Turn #[ptrB b, .slice A1 s.length c1, .slice A2 t.length c2] w [rbxF b B y] (fun v Fs => v = .slice none 0 0 ∧ Fs = [rbxF b B y]) := by
  refine (rturn_c w b B y A1 A2 s t c1 c2 hts hi.len hi.sz hi.okN hm hc1 hc2 hl1 hl2).mono fun v Fs k => ?_
  rw [rturnOut_none e] at k
  exact k
/-- Is it the proof? -/
noncomputable def chk (B : Bx.Box) (stored msg pf : List UInt8) : Int × Bx.Box :=
  if pf.length = 32 then
    match turnB (macB B stored msg).2 pf (macB B stored msg).1 with
    | (none, _) => (4, (macB B stored msg).2)
    | (some h, B') => (if (hashB B' h).1 = stored then 0 else 13, (hashB B' h).2)
  else (4, B)
def chkOut (F : Bx.Box → Lay → Fact) (r : Int × Bx.Box) (v : Value) (Fs : List Fact) : Prop := ∃ y' : Lay, v = .int .i64 r.1 ∧ y'.ts.map (·.1) = r.2.L ∧ Fs = [F r.2 y']
theorem chkOut_of {F : Bx.Box → Lay → Fact} {r : Int × Bx.Box} {e : Int} {B : Bx.Box} (h : r = (e, B)) {y : Lay} (hy : y.ts.map (·.1) = B.L) : chkOut F r (.int .i64 e) [F B y] := by
  subst h
  exact ⟨y, rfl, hy, rfl⟩
theorem few_c (w : World) (x : SecA) (h0 : Bs w x.A0 x.s0) (h1 : Bs w x.A1 x.s1) (h2 : Bs w x.A2 x.s2) (h3 : Bs w x.A3 x.s3) (hc0 : x.s0.length ≤ x.c0) (hc1 : x.s1.length ≤ x.c1) (hc2 : x.s2.length ≤ x.c2) (hc3 : x.s3.length ≤ x.c3) :
    Con Tryz.prog n_ostiaryref14_Few #[x.val] w [] fun v Fs => ∃ A0 c0 A1 c1 A2 c2 A3 c3, v = (SecA.mk A0 A1 A2 A3 c0 c1 c2 c3 (x.s0.take 40) (x.s1.take 40) (x.s2.take 40) (x.s3.take 40) x.it).val ∧ (x.s0.take 40).length ≤ c0 ∧ (x.s1.take 40).length ≤ c1 ∧ (x.s2.take 40).length ≤ c2 ∧ (x.s3.take 40).length ≤ c3 ∧
      Fs = [browF ty_uint8 A3 (x.s3.take 40) c3, browF ty_uint8 A2 (x.s2.take 40) c2, browF ty_uint8 A1 (x.s1.take 40) c1, browF ty_uint8 A0 (x.s0.take 40) c0] := by
  have g := good_ostiaryref14_Few w (Un [])
  have hlim : 40 ≤ lim := by rw [lim_eq]; decide
  refine con_of_sx (cx := cx_ostiaryref14_Few w (Un [])) g b_ostiaryref14_Few rfl rfl (β := Va.z) [.agg x.cells] 0 [] [oldF w] rfl rfl (old_sat rfl) ?_
  have hS : ∀ {n : Nat} {F : List Fact} {cs : List SL}, Sub (cx_ostiaryref14_Few w (Un [])) n [⟨1, ty_ostiaryref14_Secret, cs⟩, ⟨0, ty_ostiaryref14_Secret, x.cells⟩] F [⟨0, ty_ostiaryref14_Secret, x.cells⟩] [] := fun {n F cs} => Sub.of (List.sublist_cons_self _ _) (List.nil_sublist _)
  refine draw_rule g p_ostiaryref14_Few_1 (by kernel_rfl) [⟨0, ty_ostiaryref14_Secret, x.cells⟩] [] hS ?_
  refine call_con [] (fun β w' hs => cutC w' x.A0 x.s0 x.c0 40 (Rd.old h0 (hs.get 0 rfl)) hc0 hlim) ?_
  rintro v Fs ⟨A0, c0, rfl, q0, _, rfl⟩
  refine ⟨hS, ?_⟩
  refine call_con [] (fun β w' hs => cutC w' x.A1 x.s1 x.c1 40 (Rd.old h1 (hs.get 1 rfl)) hc1 hlim) ?_
  rintro v Fs ⟨A1, c1, rfl, q1, _, rfl⟩
  refine ⟨hS, ?_⟩
  refine call_con [] (fun β w' hs => cutC w' x.A2 x.s2 x.c2 40 (Rd.old h2 (hs.get 2 rfl)) hc2 hlim) ?_
  rintro v Fs ⟨A2, c2, rfl, q2, _, rfl⟩
  refine ⟨hS, ?_⟩
  refine call_con [] (fun β w' hs => cutC w' x.A3 x.s3 x.c3 40 (Rd.old h3 (hs.get 3 rfl)) hc3 hlim) ?_
  rintro v Fs ⟨A3, c3, rfl, q3, _, rfl⟩
  refine ⟨hS, ?_⟩
  refine ⟨hS, ?_⟩
  intro β w' hs
  exact (hs.keepB (List.nil_sublist _)).fin [0, 1, 2, 3] ⟨A0, c0, A1, c1, A2, c2, A3, c3, rfl, q0, q1, q2, q3, rfl⟩ rfl rfl rfl ⟨rfl, rfl, rfl, rfl, trivial⟩
theorem server_c (w : World) (b : Nat) (B : Bx.Box) (y : Lay) (x : SecA) (msg : ByteArray) (hts : y.ts.map (·.1) = B.L) (hi : BInv B) (hL : B.L.length < 4096) (hx : x.s2.length ≤ 1000000) (hmsg : msg.size ≤ 1000000)
    (hm : Mem w [bxF b B y, bsF x.A2 x.s2, oddF 2, firstF 0]) :
    Con Tryz.prog n_proof_Server #[ptrB b, x.val, .string msg] w [bxF b B y] (outL (bxF b) (macB B x.s2 msg.data.toList)) := by
  have g := good_proof_Server w (Un [bxF b B y])
  have hs0 : Sat (cx_proof_Server w (Un [bxF b B y])) Va.z 0 [] [bxF b B y, bsF x.A2 x.s2, oddF 2, firstF 0] w := hm.sat0 rfl (ownIn (Gs := [bxF b B y]) (fun f hf => by
    simp only [List.mem_cons, List.not_mem_nil, or_false] at hf
    rcases hf with rfl | rfl | rfl <;> rfl))
  refine con_of_sx (cx := cx_proof_Server w (Un [bxF b B y])) g b_proof_Server rfl rfl (β := Va.z) [.c (.v (ptrB b)), .agg x.cells, .c (.v (.string msg))] 0 [] _ rfl rfl hs0 ?_
  intro bm cm hcm _
  intro br
  refine call_con [2] (R := outL (bxF b) (macB B x.s2 msg.data.toList)) (fun β w' hs => by
    have h2 := ((hs.rowRd 0 rfl).unown 1 rfl).part1 (l := msg.data.toList) [0, 1] rfl
    exact macL_c w' b B y x.A2 x.s2 x.c2 br (some ⟨bm, 0, none⟩) msg.data.toList cm hts hi hL hx hmsg (h2.mem.take (js := [3, 0, 4, 5, 6]) rfl)) ?_
  rintro v Fs ⟨A, c, y', rfl, q1, q2, q3, rfl⟩
  intro β w' hs
  exact (hs.keepB (List.nil_sublist _)).fin [0, 1] ⟨A, c, y', rfl, q1, q2, q3, rfl⟩
end Go.Proofs.YthkjfepbmnabkaaGreatDoor.Sx

/- A proof, checked by the program and by the reference: the walks. -/
namespace Go.Proofs.YthkjfepbmnabkaaGreatDoor.Sx
open Go
attribute [local irreducible] Calls

set_option maxHeartbeats 2000000 in
theorem check_c (w : World) (b : Nat) (B : Bx.Box) (y : Lay) (x : SecA) (msg : ByteArray) (P : Option Addr) (pf : List UInt8) (cP : Nat) (hts : y.ts.map (·.1) = B.L) (hi : BInv B) (hL : B.L.length < 4000) (hx : x.s1.length ≤ 1000000) (hmsg : msg.size ≤ 1000000) (hcP : pf.length ≤ cP) (hpf : pf.length ≤ 1000000)
    (hm : Mem w [bxF b B y, bsF x.A1 x.s1, bsF P pf, oddF 2, firstF 0]) :
    Con Tryz.prog n_proof_Check #[ptrB b, x.val, .string msg, .slice P pf.length cP] w [bxF b B y] (chkOut (bxF b) (chk B x.s1 msg.data.toList pf)) := by
  have g := good_proof_Check w (Un [bxF b B y])
  have hs0 : Sat (cx_proof_Check w (Un [bxF b B y])) Va.z 0 [] [bxF b B y, bsF x.A1 x.s1, bsF P pf, oddF 2, firstF 0] w := hm.sat0 rfl (ownIn (Gs := [bxF b B y]) (fun f hf => by
    simp only [List.mem_cons, List.not_mem_nil, or_false] at hf
    rcases hf with rfl | rfl | rfl | rfl <;> rfl))
  refine con_of_sx (cx := cx_proof_Check w (Un [bxF b B y])) g b_proof_Check rfl rfl (β := Va.z) [.c (.v (ptrB b)), .agg x.cells, .c (.v (.string msg)), .c (.v (.slice P pf.length cP))] 0 [] _ rfl rfl hs0 ?_
  obtain ⟨r, hr⟩ : ∃ r, chk B x.s1 msg.data.toList pf = r := ⟨_, rfl⟩
  rw [hr]
  unfold chk at hr
  refine BIf.not (BIf.dec (fun h32 => ?_) (fun h32 => ?_))
  rotate_left
  · have h320 : ¬ (pf.length : Int) = 32 := h32
    rw [if_neg (by omega)] at hr
    exact fun β w' hs => (hs.keepB (List.nil_sublist _)).fin [0] (chkOut_of hr.symm hts)
  have h320 : (pf.length : Int) = 32 := h32
  rw [if_pos (by omega)] at hr
  have g1 := mac_good hi (by omega) hx (t := msg.data.toList) hmsg
  have l1 := g1.1.len
  have k1 := g1.2.1
  have htc := turn_cases g1.1.inv (by omega) pf (macB B x.s1 msg.data.toList).1
  intro bm cm hcm _
  intro br
  refine call_con [2] (R := outL (bxF b) (macB B x.s1 msg.data.toList)) (fun β w' hs => by
    have h2 := ((hs.rowRd 0 rfl).unown 1 rfl).part1 (l := msg.data.toList) [0, 1] rfl
    exact macL_c w' b B y x.A1 x.s1 x.c1 br (some ⟨bm, 0, none⟩) msg.data.toList cm hts hi (by omega) hx hmsg (h2.mem.take (js := [3, 0, 4, 6, 7]) rfl)) ?_
  generalize macB B x.s1 msg.data.toList = m at *
  obtain ⟨t, B1⟩ := m
  simp only at *
  rintro v Fs ⟨A1, c1, y1, rfl, q1, q2, hts1, rfl⟩
  simp only at hts1
  rcases htc with ht | ⟨h, B2, ht, g2⟩
  · rw [ht] at hr
    simp only at hr
    refine call_con [1] (fun β w' hs => turnN_c w' b B1 y1 P A1 pf t cP c1 ht hts1 g1.1.inv ((hs.ro 0 rfl).mem.take (js := [1, 5, 0]) rfl) hcP q1 (by omega) (by omega)) ?_
    rintro v Fs ⟨rfl, rfl⟩
    exact fun β w' hs => (hs.keepB (List.nil_sublist _)).fin [0] (chkOut_of hr.symm hts1)
  · rw [ht] at hr
    simp only at hr
    have l2 := g2.1.len
    have k2 := g2.2.1
    simp only at l2 k2
    have g3 := hash_good g2.1.inv (by show B2.L.length < _; omega) (t := h) (by omega)
    have l3 := g3.1.len
    have k3 := g3.2.1
    refine call_con [1] (fun β w' hs => turnL_c w' b B1 B2 y1 P A1 pf t h cP c1 ht k2 hts1 g1.1.inv ((hs.ro 0 rfl).mem.take (js := [1, 5, 0]) rfl) hcP q1 (by omega) (by omega)) ?_
    rintro v Fs ⟨A2, c2, y2, rfl, q3, q4, hts2, rfl⟩
    simp only at hts2
    have hS : ∀ {n : Nat} {F : List Fact}, Sub (cx_proof_Check w (Un [bxF b B y])) n [⟨0, ty_cred_Secret, x.cells⟩] F [⟨0, ty_cred_Secret, x.cells⟩] [] := fun {n F} => Sub.of (List.Sublist.refl _) (List.nil_sublist _)
    refine draw_rule g p_proof_Check_8 (by kernel_rfl) [⟨0, ty_cred_Secret, x.cells⟩] [] hS ?_
    intro br2
    refine ⟨hS, ?_⟩
    refine call_con [2] (R := outL (bxF b) (hashB B2 h)) (fun β w' hs => by
      have h2 := ((hs.rowRd 0 rfl).ro 1 rfl).part1 (l := h) [0, 1] rfl
      exact hashL_c w' b B2 y2 br2 A2 h c2 hts2 g2.1.inv (by show B2.L.length < _; omega) (by omega) (h2.mem.take (js := [3, 0, 9, 10]) rfl)) ?_
    generalize hashB B2 h = q at *
    obtain ⟨u, B3⟩ := q
    simp only at *
    rintro v Fs ⟨A3, c3, y3, rfl, q5, q6, hts3, rfl⟩
    simp only at hts3
    refine ⟨hS, ?_⟩
    obtain ⟨be, hbe⟩ : ∃ be, decide (u = x.s1) = be := ⟨_, rfl⟩
    refine call_pu (v := .bool be) (fun β w' hs => by rw [← hbe]; exact equal_c w' A3 x.A1 u x.s1 c3 x.c1 (row_rd (hs.get 0 rfl)) (hs.get 7 rfl) (by omega)) ?_
    refine ⟨hS, ?_⟩
    cases be with
    | true =>
      rw [if_pos (of_decide_eq_true hbe)] at hr
      exact fun β w' hs => (hs.keepB (List.nil_sublist _)).fin [1] (chkOut_of hr.symm hts3)
    | false =>
      rw [if_neg (of_decide_eq_false hbe)] at hr
      exact fun β w' hs => (hs.keepB (List.nil_sublist _)).fin [1] (chkOut_of hr.symm hts3)
set_option maxHeartbeats 2000000 in
theorem rcheck_c (w : World) (b : Nat) (B : Bx.Box) (y : Lay) (x : SecA) (msg : ByteArray) (P : Option Addr) (pf : List UInt8) (cP : Nat) (hts : y.ts.map (·.1) = B.L) (hi : BInv B) (hL : B.L.length < 4000) (hx : x.s1.length ≤ 1000000) (hmsg : msg.size ≤ 1000000) (hcP : pf.length ≤ cP) (hpf : pf.length ≤ 1000000)
    (hm : Mem w [rbxF b B y, bsF x.A1 x.s1, bsF P pf, oddF 3]) :
    Con Tryz.prog n_ostiaryref19_Check #[ptrB b, x.val, .string msg, .slice P pf.length cP] w [rbxF b B y] (chkOut (rbxF b) (chk B x.s1 msg.data.toList pf)) := by
  have g := good_ostiaryref19_Check w (Un [rbxF b B y])
  have hs0 : Sat (cx_ostiaryref19_Check w (Un [rbxF b B y])) Va.z 0 [] [rbxF b B y, bsF x.A1 x.s1, bsF P pf, oddF 3] w := hm.sat0 rfl (ownIn (Gs := [rbxF b B y]) (fun f hf => by
    simp only [List.mem_cons, List.not_mem_nil, or_false] at hf
    rcases hf with rfl | rfl | rfl <;> rfl))
  refine con_of_sx (cx := cx_ostiaryref19_Check w (Un [rbxF b B y])) g b_ostiaryref19_Check rfl rfl (β := Va.z) [.c (.v (ptrB b)), .agg x.cells, .c (.v (.string msg)), .c (.v (.slice P pf.length cP))] 0 [] _ rfl rfl hs0 ?_
  obtain ⟨r, hr⟩ : ∃ r, chk B x.s1 msg.data.toList pf = r := ⟨_, rfl⟩
  rw [hr]
  unfold chk at hr
  refine BIf.not (BIf.dec (fun h32 => ?_) (fun h32 => ?_))
  rotate_left
  · have h320 : ¬ (pf.length : Int) = 32 := h32
    rw [if_neg (by omega)] at hr
    exact fun β w' hs => (hs.keepB (List.nil_sublist _)).fin [0] (chkOut_of hr.symm hts)
  have h320 : (pf.length : Int) = 32 := h32
  rw [if_pos (by omega)] at hr
  have g1 := mac_good hi (by omega) hx (t := msg.data.toList) hmsg
  have l1 := g1.1.len
  have k1 := g1.2.1
  have htc := turn_cases g1.1.inv (by omega) pf (macB B x.s1 msg.data.toList).1
  intro bm cm hcm _
  refine call_con [1] (R := outL (rbxF b) (macB B x.s1 msg.data.toList)) (fun β w' hs => rmacL_c w' b B y x.A1 (some ⟨bm, 0, none⟩) x.s1 msg.data.toList x.c1 cm hts hi (by omega) hx hmsg ((hs.unown 0 rfl).mem.take (js := [1, 2, 0, 4]) rfl)) ?_
  generalize macB B x.s1 msg.data.toList = m at *
  obtain ⟨t, B1⟩ := m
  simp only at *
  rintro v Fs ⟨A1, c1, y1, rfl, q1, q2, hts1, rfl⟩
  simp only at hts1
  rcases htc with ht | ⟨h, B2, ht, g2⟩
  · rw [ht] at hr
    simp only at hr
    refine call_con [1] (fun β w' hs => rturnN_c w' b B1 y1 P A1 pf t cP c1 ht hts1 g1.1.inv ((hs.ro 0 rfl).mem.take (js := [1, 4, 0]) rfl) hcP q1 (by omega) (by omega)) ?_
    rintro v Fs ⟨rfl, rfl⟩
    exact fun β w' hs => (hs.keepB (List.nil_sublist _)).fin [0] (chkOut_of hr.symm hts1)
  · rw [ht] at hr
    simp only at hr
    have l2 := g2.1.len
    have k2 := g2.2.1
    simp only at l2 k2
    have g3 := hash_good g2.1.inv (by show B2.L.length < _; omega) (t := h) (by omega)
    have l3 := g3.1.len
    have k3 := g3.2.1
    refine call_con [1] (fun β w' hs => rturnL_c w' b B1 B2 y1 P A1 pf t h cP c1 ht k2 hts1 g1.1.inv ((hs.ro 0 rfl).mem.take (js := [1, 4, 0]) rfl) hcP q1 (by omega) (by omega)) ?_
    rintro v Fs ⟨A2, c2, y2, rfl, q3, q4, hts2, rfl⟩
    simp only at hts2
    refine BIf.dec (fun h0 => ?_) (fun _ => ?_)
    · have h00 : (h.length : Int) = 0 := h0
      omega
    have hS : ∀ {n : Nat} {F : List Fact}, Sub (cx_ostiaryref19_Check w (Un [rbxF b B y])) n [⟨0, ty_ostiaryref14_Secret, x.cells⟩] F [⟨0, ty_ostiaryref14_Secret, x.cells⟩] [] := fun {n F} => Sub.of (List.Sublist.refl _) (List.nil_sublist _)
    refine draw_rule g p_ostiaryref19_Check_6 (by kernel_rfl) [⟨0, ty_ostiaryref14_Secret, x.cells⟩] [] hS ?_
    refine call_con [1] (R := outL (rbxF b) (hashB B2 h)) (fun β w' hs => rhashL_c w' b B2 y2 A2 h c2 hts2 g2.1.inv (by show B2.L.length < _; omega) (by omega) ((hs.ro 0 rfl).mem.take (js := [1, 0, 6]) rfl)) ?_
    generalize hashB B2 h = q at *
    obtain ⟨u, B3⟩ := q
    simp only at *
    rintro v Fs ⟨A3, c3, y3, rfl, q5, q6, hts3, rfl⟩
    simp only at hts3
    refine ⟨hS, ?_⟩
    obtain ⟨be, hbe⟩ : ∃ be, decide (u = x.s1) = be := ⟨_, rfl⟩
    refine call_pu (v := .bool be) (fun β w' hs => by rw [← hbe]; exact pu_of (same_c w' A3 x.A1 u x.s1 c3 x.c1 (row_rd (hs.get 0 rfl)) (hs.get 5 rfl))) ?_
    refine ⟨hS, ?_⟩
    cases be with
    | true =>
      rw [if_pos (of_decide_eq_true hbe)] at hr
      exact fun β w' hs => (hs.keepB (List.nil_sublist _)).fin [1] (chkOut_of hr.symm hts3)
    | false =>
      rw [if_neg (of_decide_eq_false hbe)] at hr
      exact fun β w' hs => (hs.keepB (List.nil_sublist _)).fin [1] (chkOut_of hr.symm hts3)
theorem checkN_c (w : World) (msg : ByteArray) (P : Value) : Pu Tryz.prog n_proof_Check #[.pointer none, noSec, .string msg, P] w (.int .i64 6) := by
  refine con_of_sx (cx := cx_proof_Check w (Un [])) (good_proof_Check w (Un [])) b_proof_Check rfl rfl (β := Va.z) [.c (.v (.pointer none)), .agg [.v (.slice none 0 0), .v (.int .i64 0), .v (.slice none 0 0), .v (.slice none 0 0), .v (.slice none 0 0)], .c (.v (.string msg)), .c (.v P)] 0 [] [] rfl rfl (Sat.start rfl) ?_
  intro β w' hs
  exact (hs.keepB (List.nil_sublist _)).fin [] ⟨rfl, rfl⟩
end Go.Proofs.YthkjfepbmnabkaaGreatDoor.Sx

/- A script, read. -/
namespace Go.Proofs.YthkjfepbmnabkaaGreatDoor.Sx
open Go
attribute [local irreducible] Calls

theorem len_cons {l : List Value} {n : Nat} (h : l.length = n + 1) : ∃ a r, l = a :: r ∧ r.length = n := by
  cases l with
  | nil => cases h
  | cons a r => exact ⟨a, r, rfl, by simpa using h⟩
end Go.Proofs.YthkjfepbmnabkaaGreatDoor.Sx

/- ProofChecks. -/
namespace Go.Proofs.YthkjfepbmnabkaaGreatDoor.Sx
open Go
attribute [local irreducible] Calls

/-- A secret that is an argument. -/
structure SecA.Ok (x : SecA) (w : World) : Prop where
  h0 : Bs w x.A0 x.s0
  h1 : Bs w x.A1 x.s1
  h2 : Bs w x.A2 x.s2
  h3 : Bs w x.A3 x.s3
  c0 : x.s0.length ≤ x.c0
  c1 : x.s1.length ≤ x.c1
  c2 : x.s2.length ≤ x.c2
  c3 : x.s3.length ≤ x.c3
theorem sec_of {w : World} {m : Nat} {cs : List Value} (ho : Opens Tryz.prog w m ty_ostiaryref14_Secret cs) : ∃ x : SecA, cs = [.slice x.A0 x.s0.length x.c0, .int .i64 x.it, .slice x.A1 x.s1.length x.c1, .slice x.A2 x.s2.length x.c2, .slice x.A3 x.s3.length x.c3] ∧ x.Ok w := by
  have cO : Tryz.prog.cellsOf ty_ostiaryref14_Secret = 5 := by kernel_rfl
  have cU : Tryz.prog.cellsOf ty_uint8 = 1 := by kernel_rfl
  have cI : Tryz.prog.cellsOf ty_int = 1 := by kernel_rfl
  have cS : Tryz.prog.cellsOf ty_sl_uint8 = 1 := by kernel_rfl
  obtain ⟨m3, hl, hf⟩ := ho.structT (ok45) rfl
  have f0 := hf 0 0 1 ty_sl_uint8 rfl rfl
  have f1 := hf 1 1 1 ty_int rfl rfl
  have f2 := hf 2 2 1 ty_sl_uint8 rfl rfl
  have f3 := hf 3 3 1 ty_sl_uint8 rfl rfl
  have f4 := hf 4 4 1 ty_sl_uint8 rfl rfl
  rw [cO] at hl
  rw [cI] at f1
  rw [cS] at f0 f2 f3 f4
  obtain ⟨x0, r0, rfl, k0⟩ := len_cons hl
  obtain ⟨x1, r1, rfl, k1⟩ := len_cons k0
  obtain ⟨x2, r2, rfl, k2⟩ := len_cons k1
  obtain ⟨x3, r3, rfl, k3⟩ := len_cons k2
  obtain ⟨x4, r4, rfl, k4⟩ := len_cons k3
  obtain rfl := List.eq_nil_of_length_eq_zero k4
  have tS := (ok23).real (d := .slice ty_uint8) rfl rfl
  have tU := (ok5).real (d := .int .u8) rfl rfl
  obtain ⟨A0, s0, c0, e0, j0, _, b0⟩ := f0.bytes tS tU cU
  obtain ⟨it, e1, _, _⟩ := f1.int ((ok3).real (d := .int .i64) rfl rfl)
  obtain ⟨A1, s1, c1, e2, j1, _, b1⟩ := f2.bytes tS tU cU
  obtain ⟨A2, s2, c2, e3, j2, _, b2⟩ := f3.bytes tS tU cU
  obtain ⟨A3, s3, c3, e4, j3, _, b3⟩ := f4.bytes tS tU cU
  simp at e0 e1 e2 e3 e4
  subst e0 e1 e2 e3 e4
  exact ⟨⟨A0, A1, A2, A3, c0, c1, c2, c3, s0, s1, s2, s3, it⟩, rfl, ⟨b0, b1, b2, b3, j0, j1, j2, j3⟩⟩
/-- A secret that is not too great, once more. -/
theorem few2_c (w : World) (x : SecA) (h : x.Ok w) (l0 : x.s0.length ≤ 40) (l1 : x.s1.length ≤ 40) (l2 : x.s2.length ≤ 40) (l3 : x.s3.length ≤ 40) :
    Con Tryz.prog n_ostiaryref14_Few #[x.val] w [] fun v Fs => ∃ A0 c0 A1 c1 A2 c2 A3 c3, v = (SecA.mk A0 A1 A2 A3 c0 c1 c2 c3 x.s0 x.s1 x.s2 x.s3 x.it).val ∧ Fs = [browF ty_uint8 A3 x.s3 c3, browF ty_uint8 A2 x.s2 c2, browF ty_uint8 A1 x.s1 c1, browF ty_uint8 A0 x.s0 c0] := by
  refine (few_c w x h.h0 h.h1 h.h2 h.h3 h.c0 h.c1 h.c2 h.c3).mono fun v Fs k => ?_
  rw [List.take_of_length_le l0, List.take_of_length_le l1, List.take_of_length_le l2, List.take_of_length_le l3] at k
  obtain ⟨A0, c0, A1, c1, A2, c2, A3, c3, rfl, _, _, _, _, rfl⟩ := k
  exact ⟨A0, c0, A1, c1, A2, c2, A3, c3, rfl, rfl⟩
def q_checks_9 : Plan := .take 0 (.take 1 (.take 2 (.take 3 (.take 4 (.exec 5 (.take 6 (.take 7 (.take 8 (.take 9 (.exec 10 (.take 11 (.take 12 (.take 13 (.take 15 (.take 16 (.take 17 (.alt 14 (.exec 18 (.take 19 (.take 20 (.take 21 (.take 22 (.take 23 (.take 24 (.take 25 (.exec 26 (.take 27 (.take 28 (.take 29 (.done))))))))))))) (.exec 18 (.take 19 (.exec 14 (.take 20 (.take 21 (.take 22 (.take 23 (.take 24 (.take 25 (.exec 26 (.take 27 (.take 28 (.take 29 (.done)))))))))))))))))))))))))))))))
structure CkJ where
  B : Bx.Box
  y : Lay
  z : Lay
set_option maxHeartbeats 4000000 in
theorem proofChecks_c (w : World) (sym server : Bool) (x0 : SecA) (m0 : ByteArray) (P : Option Addr) (pf0 : List UInt8) (cP : Nat) (hx : x0.Ok w) (hm0 : m0.size ≤ maxLen) (hcP : pf0.length ≤ cP)
    (hm : Mem w [bsF x0.A0 x0.s0, bsF x0.A1 x0.s1, bsF x0.A2 x0.s2, bsF x0.A3 x0.s3, bsF P pf0, oddF 2, firstF 0, oddF 3]) :
    Con Tryz.prog n_ostiarylaw19_ProofChecks #[.bool sym, x0.val, .string m0, .slice P pf0.length cP, .bool server] w [] fun v Fs => v = .bool true ∧ Fs = [] := by
  have g := good_ostiarylaw19_ProofChecks w (Un [])
  have hml := maxLen_eq
  have hlim : 40 ≤ lim := by rw [lim_eq]; decide
  have hs0 : Sat (cx_ostiarylaw19_ProofChecks w (Un [])) Va.z 0 [] [bsF x0.A0 x0.s0, bsF x0.A1 x0.s1, bsF x0.A2 x0.s2, bsF x0.A3 x0.s3, bsF P pf0, oddF 2, firstF 0, oddF 3] w := hm.sat0 rfl (ownIn (Gs := []) (fun f hf => by
    simp only [List.mem_cons, List.not_mem_nil, or_false] at hf
    rcases hf with rfl | rfl | rfl | rfl | rfl | rfl | rfl | rfl <;> rfl))
  refine con_of_tri (cx := cx_ostiarylaw19_ProofChecks w (Un [])) g b_ostiarylaw19_ProofChecks rfl rfl (β := Va.z) [.c (.v (.bool sym)), .agg x0.cells, .c (.v (.string m0)), .c (.v (.slice P pf0.length cP)), .c (.v (.bool server))] 0 [] _ rfl rfl hs0 ?_
  refine tri_seq g ?_
  refine tri_seq g ?_
  refine call_pu (fun β w' hs => awake19_c w' (hs.get 5 rfl) (hs.get 6 rfl)) ?_
  refine tri_seq g ?_
  refine call_con [] (fun β w' hs => few_c w' x0 (hs.get 0 rfl) (hs.get 1 rfl) (hs.get 2 rfl) (hs.get 3 rfl) hx.c0 hx.c1 hx.c2 hx.c3) ?_
  have k0 : (x0.s0.take 40).length ≤ 40 := by rw [List.length_take]; omega
  have k1 : (x0.s1.take 40).length ≤ 40 := by rw [List.length_take]; omega
  have k2 : (x0.s2.take 40).length ≤ 40 := by rw [List.length_take]; omega
  have k3 : (x0.s3.take 40).length ≤ 40 := by rw [List.length_take]; omega
  generalize x0.s0.take 40 = s0 at *
  generalize x0.s1.take 40 = s1 at *
  generalize x0.s2.take 40 = s2 at *
  generalize x0.s3.take 40 = s3 at *
  rintro v Fs ⟨A0, c0, A1, c1, A2, c2, A3, c3, rfl, d0, d1, d2, d3, rfl⟩
  refine call_pu (fun β w' hs => cutText_c w' m0 200 hm0 (by decide)) ?_
  have z0 := cut_size' m0 200
  generalize m0.extract 0 (min m0.size 200) = msg at z0 ⊢
  have hp40 : (pf0.take 40).length ≤ 40 := by rw [List.length_take]; omega
  refine call_con [] (fun β w' hs => cutC w' P pf0 cP 40 (hs.get 8 rfl) hcP hlim) ?_
  generalize pf0.take 40 = pf at hp40 ⊢
  rintro v Fs ⟨P1, cP1, rfl, p1, _, rfl⟩
  have hpl : pf.length ≤ lim := by rw [lim_eq]; omega
  refine tri_sat (fun β w' hs => hs.perm [0, 1, 2, 3, 4, 10, 11, 12]) ?_
  refine tri_seq g ?_
  refine call_con [] (fun β w' hs => newX_c w' sym) ?_
  rintro v Fs ⟨b, y0, rfl, hy0, rfl⟩
  refine reify_tri 1 (fun _ => [.bool sym, .slice none 0 0, .bool false]) rfl rfl (fun _ => rfl) (fun rb => ?_)
  refine tri_sat (fun β w' hs => hs.rbx0) ?_
  refine tri_seq g ?_
  refine call_con [] (fun β w' hs => con_row (copy_c w' P1 pf cP1 (row_rd (hs.get 2 rfl)) hpl)) ?_
  rintro v Fs ⟨P2, cP2, rfl, p2, _, rfl⟩
  have hS : ∀ {n : Nat} {F : List Fact}, Sub (cx_ostiarylaw19_ProofChecks w (Un [])) n [⟨0, ty_ostiaryref14_Secret, [.v (.slice A0 s0.length c0), .v (.int .i64 x0.it), .v (.slice A1 s1.length c1), .v (.slice A2 s2.length c2), .v (.slice A3 s3.length c3)]⟩] F [⟨0, ty_ostiaryref14_Secret, [.v (.slice A0 s0.length c0), .v (.int .i64 x0.it), .v (.slice A1 s1.length c1), .v (.slice A2 s2.length c2), .v (.slice A3 s3.length c3)]⟩] [] := fun {n F} => Sub.of (List.Sublist.refl _) (List.nil_sublist _)
  refine tri_seqJ (ι := CkJ) g (fun j => BInv j.B ∧ j.B.L.length ≤ 1 ∧ j.y.ts.map (·.1) = j.B.L ∧ j.z.ts.map (·.1) = j.B.L) 2 (fun _ => [(2, .c (.v (.string msg))), (3, .c (.v (.slice P1 pf.length cP1))), (6, .c (.p 0 0)), (11, .c (.v (ptrB b))), (12, .c (.v (ptrB rb))), (13, .c (.v (.slice P2 pf.length cP2)))])
    (fun _ => [⟨0, ty_ostiaryref14_Secret, [.v (.slice A0 s0.length c0), .v (.int .i64 x0.it), .v (.slice A1 s1.length c1), .v (.slice A2 s2.length c2), .v (.slice A3 s3.length c3)]⟩]) (fun j => [browF ty_uint8 P2 pf cP2, rbxF rb j.B j.z, bxF b j.B j.y, browF ty_uint8 P1 pf cP1, browF ty_uint8 A3 s3 c3, browF ty_uint8 A2 s2 c2, browF ty_uint8 A1 s1 c1, browF ty_uint8 A0 s0 c0, oddF 2, firstF 0, oddF 3]) ?_ ?_
  rotate_left
  · refine draw_rule g p_ostiarylaw19_ProofChecks_6 (by kernel_rfl) [⟨0, ty_ostiaryref14_Secret, [.v (.slice A0 s0.length c0), .v (.int .i64 x0.it), .v (.slice A1 s1.length c1), .v (.slice A2 s2.length c2), .v (.slice A3 s3.length c3)]⟩] [] hS ?_
    cases server with
    | false => exact ⟨⟨hS, ⟨hS, hS, hS, hS, (EntX.of ⟨box0 sym, y0, lay0⟩ ⟨box0_inv sym, Nat.zero_le _, by rw [hy0]; rfl, rfl⟩ (Ent.mk' ⟨rfl, rfl, rfl, rfl, rfl, rfl, trivial⟩ rfl (fun β w' hs => hs.lower)))⟩, ⟨hS, hS, hS, hS, (EntX.of ⟨box0 sym, y0, lay0⟩ ⟨box0_inv sym, Nat.zero_le _, by rw [hy0]; rfl, rfl⟩ (Ent.mk' ⟨rfl, rfl, rfl, rfl, rfl, rfl, trivial⟩ rfl (fun β w' hs => hs.lower)))⟩⟩, ⟨hS, hS, hS, hS, hS, (EntX.of ⟨box0 sym, y0, lay0⟩ ⟨box0_inv sym, Nat.zero_le _, by rw [hy0]; rfl, rfl⟩ (Ent.mk' ⟨rfl, rfl, rfl, rfl, rfl, rfl, trivial⟩ rfl (fun β w' hs => hs.lower)))⟩⟩
    | true =>
      have hg := mac_good (box0_inv sym) (by show 0 < 4096; decide) (k := s2) (t := msg.data.toList) (by omega) (by show msg.size ≤ _; omega)
      refine ⟨?_, ?_⟩
      · refine call_con [] (fun β w' hs => few2_c w' ⟨A0, A1, A2, A3, c0, c1, c2, c3, s0, s1, s2, s3, x0.it⟩ ⟨row_rd (hs.get 7 rfl), row_rd (hs.get 6 rfl), row_rd (hs.get 5 rfl), row_rd (hs.get 4 rfl), d0, d1, d2, d3⟩ k0 k1 k2 k3) ?_
        rintro v Fs ⟨E0, e0, E1, e1, E2, e2, E3, e3, rfl, rfl⟩
        refine ⟨hS, ?_⟩
        refine ⟨?_, ?_⟩
        · refine call_con [6] (R := outL (bxF b) (macB (box0 sym) s2 msg.data.toList)) (fun β w' hs => server_c w' b (box0 sym) y0 ⟨E0, E1, E2, E3, e0, e1, e2, e3, s0, s1, s2, s3, x0.it⟩ msg (by rw [hy0]; rfl) (box0_inv sym) (by show 0 < 4096; decide) (by show s2.length ≤ _; omega) (by omega) ((hs.ro 1 rfl).mem.take (js := [6, 1, 12, 13]) rfl)) ?_
          rintro v Fs ⟨U1, u1, y1, rfl, r1, r2, r3, rfl⟩
          refine ⟨hS, ?_⟩
          intro bm cm hcm _
          refine ⟨hS, ?_⟩
          refine call_con [8] (R := outL (rbxF rb) (macB (box0 sym) s2 msg.data.toList)) (fun β w' hs => rmacL_c w' rb (box0 sym) lay0 A2 (some ⟨bm, 0, none⟩) s2 msg.data.toList c2 cm rfl (box0_inv sym) (by show 0 < 4096; decide) (by omega) (by show msg.size ≤ _; omega) (((hs.unown 0 rfl).ro 11 rfl).mem.take (js := [8, 11, 0, 16]) rfl)) ?_
          rintro v Fs ⟨U2, u2, z1, rfl, r4, r5, r6, rfl⟩
          refine ⟨hS, ?_⟩
          refine call_pu (v := .bool true) (fun β w' hs => by
            have k1 := pu_of (same_c w' U1 U2 (macB (box0 sym) s2 msg.data.toList).1 (macB (box0 sym) s2 msg.data.toList).1 u1 u2 (row_rd (hs.get 3 rfl)) (row_rd (hs.get 0 rfl)))
            rw [decide_eq_true rfl] at k1
            exact k1) ?_
          refine ⟨hS, ?_⟩
          exact EntX.of ⟨(macB (box0 sym) s2 msg.data.toList).2, y1, z1⟩ ⟨hg.1.inv, by have := hg.1.len; exact this, r3, r6⟩ (Ent.mk' ⟨rfl, rfl, rfl, rfl, rfl, rfl, trivial⟩ rfl (fun β w' hs => (hs.perm [9, 1, 4, 10, 11, 12, 13, 14, 15, 16, 17]).lower))
        · intro bm cm hcm _
          refine ⟨hS, ?_⟩
          refine call_con [7] (R := outL (bxF b) (macB (box0 sym) s2 msg.data.toList)) (fun β w' hs => server_c w' b (box0 sym) y0 ⟨E0, E1, E2, E3, e0, e1, e2, e3, s0, s1, s2, s3, x0.it⟩ msg (by rw [hy0]; rfl) (box0_inv sym) (by show 0 < 4096; decide) (by show s2.length ≤ _; omega) (by omega) ((hs.ro 2 rfl).mem.take (js := [7, 2, 13, 14]) rfl)) ?_
          rintro v Fs ⟨U1, u1, y1, rfl, r1, r2, r3, rfl⟩
          refine ⟨hS, ?_⟩
          refine call_con [8] (R := outL (rbxF rb) (macB (box0 sym) s2 msg.data.toList)) (fun β w' hs => rmacL_c w' rb (box0 sym) lay0 A2 (some ⟨bm, 0, none⟩) s2 msg.data.toList c2 cm rfl (box0_inv sym) (by show 0 < 4096; decide) (by omega) (by show msg.size ≤ _; omega) (((hs.unown 2 rfl).ro 11 rfl).mem.take (js := [8, 11, 2, 16]) rfl)) ?_
          rintro v Fs ⟨U2, u2, z1, rfl, r4, r5, r6, rfl⟩
          refine ⟨hS, ?_⟩
          refine call_pu (v := .bool true) (fun β w' hs => by
            have k1 := pu_of (same_c w' U1 U2 (macB (box0 sym) s2 msg.data.toList).1 (macB (box0 sym) s2 msg.data.toList).1 u1 u2 (row_rd (hs.get 2 rfl)) (row_rd (hs.get 0 rfl)))
            rw [decide_eq_true rfl] at k1
            exact k1) ?_
          refine ⟨hS, ?_⟩
          exact EntX.of ⟨(macB (box0 sym) s2 msg.data.toList).2, y1, z1⟩ ⟨hg.1.inv, by have := hg.1.len; exact this, r3, r6⟩ (Ent.mk' ⟨rfl, rfl, rfl, rfl, rfl, rfl, trivial⟩ rfl (fun β w' hs => (hs.perm [9, 1, 3, 10, 11, 12, 13, 14, 15, 16, 17]).lower))
      · intro bm cm hcm _
        refine ⟨hS, ?_⟩
        refine call_con [] (fun β w' hs => few2_c w' ⟨A0, A1, A2, A3, c0, c1, c2, c3, s0, s1, s2, s3, x0.it⟩ ⟨row_rd (hs.get 8 rfl), row_rd (hs.get 7 rfl), row_rd (hs.get 6 rfl), row_rd (hs.get 5 rfl), d0, d1, d2, d3⟩ k0 k1 k2 k3) ?_
        rintro v Fs ⟨E0, e0, E1, e1, E2, e2, E3, e3, rfl, rfl⟩
        refine ⟨hS, ?_⟩
        refine call_con [7] (R := outL (bxF b) (macB (box0 sym) s2 msg.data.toList)) (fun β w' hs => server_c w' b (box0 sym) y0 ⟨E0, E1, E2, E3, e0, e1, e2, e3, s0, s1, s2, s3, x0.it⟩ msg (by rw [hy0]; rfl) (box0_inv sym) (by show 0 < 4096; decide) (by show s2.length ≤ _; omega) (by omega) ((hs.ro 1 rfl).mem.take (js := [7, 1, 13, 14]) rfl)) ?_
        rintro v Fs ⟨U1, u1, y1, rfl, r1, r2, r3, rfl⟩
        refine ⟨hS, ?_⟩
        refine call_con [8] (R := outL (rbxF rb) (macB (box0 sym) s2 msg.data.toList)) (fun β w' hs => rmacL_c w' rb (box0 sym) lay0 A2 (some ⟨bm, 0, none⟩) s2 msg.data.toList c2 cm rfl (box0_inv sym) (by show 0 < 4096; decide) (by omega) (by show msg.size ≤ _; omega) (((hs.unown 6 rfl).ro 11 rfl).mem.take (js := [8, 11, 6, 16]) rfl)) ?_
        rintro v Fs ⟨U2, u2, z1, rfl, r4, r5, r6, rfl⟩
        refine ⟨hS, ?_⟩
        refine call_pu (v := .bool true) (fun β w' hs => by
          have k1 := pu_of (same_c w' U1 U2 (macB (box0 sym) s2 msg.data.toList).1 (macB (box0 sym) s2 msg.data.toList).1 u1 u2 (row_rd (hs.get 2 rfl)) (row_rd (hs.get 0 rfl)))
          rw [decide_eq_true rfl] at k1
          exact k1) ?_
        refine ⟨hS, ?_⟩
        exact EntX.of ⟨(macB (box0 sym) s2 msg.data.toList).2, y1, z1⟩ ⟨hg.1.inv, by have := hg.1.len; exact this, r3, r6⟩ (Ent.mk' ⟨rfl, rfl, rfl, rfl, rfl, rfl, trivial⟩ rfl (fun β w' hs => (hs.perm [9, 1, 3, 10, 11, 12, 13, 14, 15, 16, 17]).lower))
  rintro ⟨B, y, z⟩ ⟨hi, hlen, hy, hz⟩
  simp only at hi hlen hy hz
  refine tri_seq g ?_
  refine call_con [] (fun β w' hs => few2_c w' ⟨A0, A1, A2, A3, c0, c1, c2, c3, s0, s1, s2, s3, x0.it⟩ ⟨row_rd (hs.get 7 rfl), row_rd (hs.get 6 rfl), row_rd (hs.get 5 rfl), row_rd (hs.get 4 rfl), d0, d1, d2, d3⟩ k0 k1 k2 k3) ?_
  rintro v Fs ⟨E0, e0, E1, e1, E2, e2, E3, e3, rfl, rfl⟩
  refine call_con [6] (R := chkOut (bxF b) (chk B s1 msg.data.toList pf)) (fun β w' hs => check_c w' b B y ⟨E0, E1, E2, E3, e0, e1, e2, e3, s0, s1, s2, s3, x0.it⟩ msg P2 pf cP2 hy hi (by omega) (by show s1.length ≤ _; omega) (by omega) p2 (by omega) (((hs.ro 2 rfl).ro 4 rfl).mem.take (js := [6, 2, 4, 12, 13]) rfl)) ?_
  rintro v Fs ⟨y2, rfl, hts2, rfl⟩
  refine tri_seq g ?_
  refine draw_rule g q_checks_9 (by kernel_rfl) [⟨0, ty_ostiaryref14_Secret, [.v (.slice A0 s0.length c0), .v (.int .i64 x0.it), .v (.slice A1 s1.length c1), .v (.slice A2 s2.length c2), .v (.slice A3 s3.length c3)]⟩] [] hS ?_
  refine call_con [6] (R := chkOut (rbxF rb) (chk B s1 msg.data.toList pf)) (fun β w' hs => rcheck_c w' rb B z ⟨A0, A1, A2, A3, c0, c1, c2, c3, s0, s1, s2, s3, x0.it⟩ msg P1 pf cP1 hz hi (by omega) (by show s1.length ≤ _; omega) (by omega) p1 (by omega) (((hs.ro 10 rfl).ro 7 rfl).mem.take (js := [6, 10, 7, 14]) rfl)) ?_
  rintro v Fs ⟨z2, rfl, htz2, rfl⟩
  generalize chk B s1 msg.data.toList pf = r at *
  obtain ⟨e, B'⟩ := r
  simp only at hts2 htz2
  obtain ⟨N, hN⟩ : ∃ N : Int, (B'.L.length : Int) = N := ⟨_, rfl⟩
  refine ⟨hS, ?_⟩
  refine BIf.dec (fun _ => ?_) (fun h => absurd rfl h)
  refine call_pu (v := .bool true) (fun β w' hs => by
    have k1 := pu_of (same_c w' P2 P1 pf pf cP2 cP1 (row_rd (hs.get 6 rfl)) (row_rd (hs.get 7 rfl)))
    rw [decide_eq_true rfl] at k1
    exact k1) ?_
  refine ⟨hS, ?_⟩
  refine ⟨?_, ?_⟩
  · refine call_pu (v := .int .i64 N) (fun β w' hs => by rw [← hN]; exact lenX_c w' b B' y2 (hs.get 1 rfl) (hs.getLt 1 rfl)) ?_
    refine ⟨hS, ?_⟩
    refine ⟨.slice z2.A B'.L.length z2.c, fun β w' hs => bk_cell (rbx_bk (hs.get 0 rfl)) (o := 1) rfl, ?_⟩
    refine ⟨hS, ?_⟩
    refine BIf.dec (fun _ => ?_) (fun h => absurd hN.symm h)
    refine call_pu (fun β w' hs => checkN_c w' msg (.slice P2 pf.length cP2)) ?_
    refine ⟨hS, ?_⟩
    refine tri_of g ?_
    intro β w' hs
    exact (hs.keepB (List.nil_sublist _)).fin [] ⟨rfl, rfl⟩
  · refine ⟨.slice z2.A B'.L.length z2.c, fun β w' hs => bk_cell (rbx_bk (hs.get 0 rfl)) (o := 1) rfl, ?_⟩
    refine ⟨hS, ?_⟩
    refine call_pu (v := .int .i64 N) (fun β w' hs => by rw [← hN]; exact lenX_c w' b B' y2 (hs.get 1 rfl) (hs.getLt 1 rfl)) ?_
    refine ⟨hS, ?_⟩
    refine BIf.dec (fun _ => ?_) (fun h => absurd hN.symm h)
    refine call_pu (fun β w' hs => checkN_c w' msg (.slice P2 pf.length cP2)) ?_
    refine ⟨hS, ?_⟩
    refine tri_of g ?_
    intro β w' hs
    exact (hs.keepB (List.nil_sublist _)).fin [] ⟨rfl, rfl⟩
end Go.Proofs.YthkjfepbmnabkaaGreatDoor.Sx

/- What a law begins with: tables, and what is only read. -/
namespace Go.Proofs.YthkjfepbmnabkaaGreatDoor.Sx
open Go

def RoOk (w : World) (f : Fact) : Prop := f.own = false ∧ f.p w ∧ ∀ k, f.D k → k < w.heap.size
theorem mem_ro {w : World} {Fs : List Fact} (h : ∀ f ∈ Fs, RoOk w f) : Mem w Fs := by
  refine ⟨fun f hf => (h f hf).2.1, fun f hf k hk => (h f hf).2.2 k hk, ?_⟩
  induction Fs with
  | nil => exact List.Pairwise.nil
  | cons f r ih =>
    refine List.pairwise_cons.2 ⟨fun g hg q => ?_, ih (fun g hg => h g (List.mem_cons_of_mem _ hg))⟩
    rcases q with q | q
    · rw [(h f List.mem_cons_self).1] at q; cases q
    · rw [(h g (List.mem_cons_of_mem _ hg)).1] at q; cases q
theorem rd_ok {w : World} {size : Nat} {A : Option Addr} {k : Nat} {xs : List Value} (h : Rd size A k xs w) : RoOk w (rdF size A k xs) := ⟨rfl, h, rd_lt h⟩
theorem ro_nil {w : World} : ∀ f ∈ ([] : List Fact), RoOk w f := fun f h => by cases h
theorem ro_cons {w : World} {f : Fact} {r : List Fact} (h1 : RoOk w f) (h2 : ∀ g ∈ r, RoOk w g) : ∀ g ∈ f :: r, RoOk w g := fun g hg => by
  rcases List.mem_cons.1 hg with rfl | hg
  · exact h1
  · exact h2 g hg
end Go.Proofs.YthkjfepbmnabkaaGreatDoor.Sx

/- What a statement's proof has of its arguments, in this executor's words. -/
namespace Go.Proofs.YthkjfepbmnabkaaGreatDoor.Sx
open Go Go.RowKit

theorem below_of {w w' : World} (h : Chg None_ w w') : Below w.heap.size w w' :=
  ⟨h.os, h.tape, h.output, h.size, fun k hk => h.same k hk (fun q => q)⟩
end Go.Proofs.YthkjfepbmnabkaaGreatDoor.Sx

/- Tables that are laid: what their cells are. -/
namespace Go.Proofs.YthkjfepbmnabkaaGreatDoor.Sx
open Go

theorem rd_of_ints {H : Type} {enc : TypeId × Value → H} {P : Program} {W : World} {base : Nat} {sp : Nat → Bool} {held : Bool} {fuel g n : Nat} {t e : TypeId} {k : IntKind} {cs : Array Value} {zs : List Int} {q : List MemPlace}
    (ht : P.underlying t = some (.array n e)) (he : P.underlying e = some (.int k)) (hc : P.cellsOf e = 1) (hd : DataW.trod enc P W base sp held fuel t cs.toList = some (.agg (zs.map fun z => .lit (.int k z)), q)) (hcell : ∀ j, W.cell? ⟨g, j, none⟩ = cs[j]?) :
    Rd 1 (some ⟨g, 0, none⟩) zs.length (zs.map (Value.int k)) W := by
  obtain ⟨xs, m, _, hx, hlen, hn, hel⟩ := DataW.trod_array ht hd
  simp only [Prod.mk.injEq, DataW.agg.injEq] at hx
  have hzn : zs.length = n := by
    have h9 := congrArg List.length hx.1
    simp only [List.length_map] at h9
    omega
  refine ⟨by simp, fun hp => ⟨_, rfl, fun j u hu => ?_⟩⟩
  rw [List.getElem?_map] at hu
  obtain ⟨z, hz, rfl⟩ := Option.map_eq_some_iff.1 hu
  have hj : j < zs.length := (List.getElem?_eq_some_iff.1 hz).1
  have h1 := hel j (by omega)
  have h2 : (xs.map (·.1))[j]? = some (.lit (.int k z)) := by rw [← hx.1, List.getElem?_map, hz]; rfl
  rw [List.getElem?_map] at h2
  obtain ⟨x, hxj, hx1⟩ := Option.map_eq_some_iff.1 h2
  rw [hxj, hc, Nat.mul_one] at h1
  obtain ⟨y, e1, e2, _⟩ := DataW.trod_int he h1
  have hy : y = z := by
    rw [e2] at hx1
    simpa using hx1
  subst hy
  rw [add_none, Nat.zero_add, hcell j, ← Array.getElem?_toList]
  have h3 := congrArg (fun l => l[0]?) e1
  simpa [List.getElem?_drop] using h3
theorem opens_string {P : Program} {w : World} {m : Nat} {t : TypeId} {s : ByteArray} (ht : P.underlying t = some .string) (h : Opens P w m t (Value.cells (.string s)).toList) : s.size ≤ maxLen := by
  cases m with
  | zero => exact h.elim
  | succ m =>
    unfold Opens at h
    rw [ht] at h
    obtain ⟨s', h1, h2⟩ := h
    simp [Value.cells] at h1
    subst h1
    exact h2
abbrev u32s (l : List UInt32) : List Int := l.map fun x => (x.toNat : Int)
theorem rd_u32 {g : Nat} {W : World} {l : List UInt32} (h : Rd 1 (some ⟨g, 0, none⟩) (u32s l).length ((u32s l).map (Value.int .u32)) W) : Rd 1 (some ⟨g, 0, none⟩) l.length (l.map u32) W := by
  have e : (u32s l).map (Value.int .u32) = l.map u32 := by rw [List.map_map]; rfl
  rw [e, List.length_map] at h
  exact h
end Go.Proofs.YthkjfepbmnabkaaGreatDoor.Sx

/- Tables that are laid, of any plain types: their cells are what they hold, in order. -/
namespace Go.Proofs.YthkjfepbmnabkaaGreatDoor.Sx
open Go

section
variable {H : Type} {enc : TypeId × Value → H} {P : Program} {w : World} {base : Nat} {sp : Nat → Bool} {held : Bool}
end
end Go.Proofs.YthkjfepbmnabkaaGreatDoor.Sx
