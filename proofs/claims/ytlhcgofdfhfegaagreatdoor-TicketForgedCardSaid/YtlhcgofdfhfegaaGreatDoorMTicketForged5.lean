/- Texts joined: Tk9, Tkd, SmP, Tki, RgK, MpI, BxL, RgR, RgN, RgW, RgS, RgV, RgD, Rg0, Rg1, Kn1, RgP, RgS2, Tke, Tkf, Tkc, Tkg, Dec, RgA, RfR, RfR2, RfR3, RpL, EqT, Tkj, Tkk, Tkn, Hnd, SxArg, Laid, Laid2. -/
import Derived.Test.YtlhcgofdfhfegaaGreatDoorMTicketForged4
import Derived.Test.YtlhcgofdfhfegaaGreatDoorMTicketForged3
import Derived.Test.YtlhcgofdfhfegaaGreatDoorMTicketForged2
import Derived.Handed
import Derived.Shelf.Vars
import Derived.Below
import Derived.OpenShut
import Derived.ChangeArms
import Derived.LaidMore
set_option linter.unusedVariables false
set_option linter.unusedSimpArgs false
namespace Go.Proofs.YtlhcgofdfhfegaaGreatDoor.Sx
open Go
attribute [local irreducible] Calls
theorem idx_dot : ∀ s : List UInt8, _root_.Go.Lib.index s [46] = if (46 : UInt8) ∈ s then ((dotA s).length : Int) else -1
  | [] => by rw [if_neg (fun h => by cases h)]; rfl
  | c :: r => by
    have ih := idx_dot r
    unfold _root_.Go.Lib.index dotA
    by_cases hc : c = 46
    · subst hc
      rw [if_pos (by simp), if_pos List.mem_cons_self, if_pos rfl]
      rfl
    · rw [if_neg (by simpa using fun h => hc h.symm), if_neg hc, ih]
      by_cases hr : (46 : UInt8) ∈ r
      · rw [if_pos hr, if_pos (List.mem_cons_of_mem _ hr), if_neg (by simp)]
        simp
      · rw [if_neg hr, if_neg (fun q => (List.mem_cons.1 q).elim (fun q => hc q.symm) hr)]
        rfl
theorem libCut_eq (s : List UInt8) : libCut s = if (46 : UInt8) ∈ s then (dotA s, dotB s, true) else (s, [], false) := by
  unfold libCut _root_.Go.Lib.cut
  rw [idx_dot]
  by_cases h : (46 : UInt8) ∈ s
  · obtain ⟨e, _⟩ := dot_split h
    rw [if_pos h, if_pos h, if_pos (Int.natCast_nonneg _), Int.toNat_natCast]
    generalize dotA s = a at e ⊢
    generalize dotB s = b at e ⊢
    subst e
    rw [List.take_left, ← List.drop_drop, List.drop_left]
    rfl
  · rw [if_neg h, if_neg h, if_neg (by decide)]
theorem num_lt8 (r : Rdr) (n : Nat) (h : n ≤ 8) : (r.num n).1 < 18446744073709551616 := by
  have h1 := numB_lt n _ (take_len r n) h
  exact Nat.lt_of_lt_of_le h1 (show 256 ^ n ≤ 256 ^ 8 from Nat.pow_le_pow_right (by decide) h)
theorem txt_ltK (r : Rdr) : r.txt.1.length ≤ 100000 := by
  have h1 : (r.num 1).1 < 256 := numB_lt 1 _ (take_len r 1) (by decide)
  have h2 : r.txt.1.length = (r.num 1).1 := take_len _ _
  omega
theorem ml_old {w w' : World} (h : mlF.p w) (ho : (oldF w).p w') : mlF.p w' := by
  refine mlF.st w w' (fun k hk => ho k ?_) h
  obtain ⟨m, hm⟩ := h
  obtain rfl : k = 0 := hk
  unfold World.cell? at hm
  rcases Nat.lt_or_ge 0 w.heap.size with q | q
  · exact q
  · simp [Array.getElem?_eq_none q] at hm
def readV (p : List UInt8) (v : Value) : Prop := (∃ t, readT p = some t ∧ t.Ok ∧ v = .tuple #[.agg t.cells.toArray, .int .i64 0]) ∨ (readT p = none ∧ v = .tuple #[.agg tk0.cells.toArray, .int .i64 4])
open Classical in
theorem tkRead_c (w : World) (A : Option Addr) (p : List UInt8) (c : Nat) (hc : p.length ≤ c) (hn : NamT w) (hA : Bs w A p) : Con Tryz.prog n_ticket_Read #[.slice A p.length c] w [] fun v Fs => readV p v ∧ Fs = [] := by
  have g := good_ticket_Read w (Un [])
  refine con_of_tri (cx := cx_ticket_Read w (Un [])) g b_ticket_Read rfl rfl (β := Va.z) [.c (.v (.slice A p.length c))] 0 [] [oldF w] rfl rfl (old_sat rfl) ?_
  refine tri_seq g ?_
  refine tri_seq g ?_
  refine reify_tri 1 (fun _ => [.slice A p.length c, .bool false]) rfl rfl (fun _ => rfl) (fun rb => ?_)
  refine tri_of g ?_
  have no : ∀ {r : Rdr} {A1 : Option Addr} {w' : World}, Lies A A1 p r.p → (oldF w).p w' → Bs w' A1 r.p := fun hl h => hl.rd _ (hA.old h)
  have dom : ∀ {r : Rdr} {A1 : Option Addr}, Lies A A1 p r.p → ∀ k, (bsF A1 r.p).D k → (oldF w).D k := fun hl k hk => rd_lt hA k (hl.d k hk)
  obtain ⟨r0, hr0⟩ : ∃ r0 : Rdr, (⟨p, false⟩ : Rdr) = r0 := ⟨_, rfl⟩
  have hrp : r0.p = p := by rw [← hr0]
  have hrc : ([.slice A p.length c, .bool false] : List Value) = rdCells A c r0 := by rw [← hr0]; rfl
  rw [hrc]
  have hl0 : Lies A A p r0.p := hrp ▸ Lies.refl A p
  have hc0 : r0.p.length ≤ c := hrp ▸ hc
  refine call_con [0] (fun β w' hs => tkRNum_c w' rb A c r0 1 (by decide) hc0 ((hs.sub 1 rfl rfl (bsF A r0.p) rfl (no hl0 (hs.get 1 rfl)) (dom hl0)).mem.take (js := [1, 0]) rfl)) ?_
  rintro v Fs ⟨A1, c1, rfl, hc1, hm1, rfl⟩
  have hl1 := hl0.trans hm1
  have b0 := num_lt8 r0 1 (by decide)
  clear hm1
  generalize hq0 : r0.num 1 = q0 at *
  obtain ⟨n0, r1⟩ := q0
  simp only at hc1 hl1 b0
  refine call_con [0] (fun β w' hs => tkRNum_c w' rb A1 c1 r1 4 (by decide) hc1 ((hs.sub 1 rfl rfl (bsF A1 r1.p) rfl (no hl1 (hs.get 1 rfl)) (dom hl1)).mem.take (js := [1, 0]) rfl)) ?_
  rintro v Fs ⟨A2, c2, rfl, hc2, hm2, rfl⟩
  have hl2 := hl1.trans hm2
  have b1 := num_lt8 r1 4 (by decide)
  clear hm2
  generalize hq1 : r1.num 4 = q1 at *
  obtain ⟨n1, r2⟩ := q1
  simp only at hc2 hl2 b1
  refine call_con [0] (fun β w' hs => tkRNum_c w' rb A2 c2 r2 8 (by decide) hc2 ((hs.sub 1 rfl rfl (bsF A2 r2.p) rfl (no hl2 (hs.get 1 rfl)) (dom hl2)).mem.take (js := [1, 0]) rfl)) ?_
  rintro v Fs ⟨A3, c3, rfl, hc3, hm3, rfl⟩
  have hl3 := hl2.trans hm3
  have b2 := num_lt8 r2 8 (by decide)
  clear hm3
  generalize hq2 : r2.num 8 = q2 at *
  obtain ⟨n2, r3⟩ := q2
  simp only at hc3 hl3 b2
  refine call_con [0] (fun β w' hs => tkRNum_c w' rb A3 c3 r3 8 (by decide) hc3 ((hs.sub 1 rfl rfl (bsF A3 r3.p) rfl (no hl3 (hs.get 1 rfl)) (dom hl3)).mem.take (js := [1, 0]) rfl)) ?_
  rintro v Fs ⟨A4, c4, rfl, hc4, hm4, rfl⟩
  have hl4 := hl3.trans hm4
  have b3 := num_lt8 r3 8 (by decide)
  clear hm4
  generalize hq3 : r3.num 8 = q3 at *
  obtain ⟨n3, r4⟩ := q3
  simp only at hc4 hl4 b3
  refine call_con [0] (fun β w' hs => tkRNum_c w' rb A4 c4 r4 8 (by decide) hc4 ((hs.sub 1 rfl rfl (bsF A4 r4.p) rfl (no hl4 (hs.get 1 rfl)) (dom hl4)).mem.take (js := [1, 0]) rfl)) ?_
  rintro v Fs ⟨A5, c5, rfl, hc5, hm5, rfl⟩
  have hl5 := hl4.trans hm5
  have b4 := num_lt8 r4 8 (by decide)
  clear hm5
  generalize hq4 : r4.num 8 = q4 at *
  obtain ⟨n4, r5⟩ := q4
  simp only at hc5 hl5 b4
  refine call_con [0] (fun β w' hs => tkRNum_c w' rb A5 c5 r5 8 (by decide) hc5 ((hs.sub 1 rfl rfl (bsF A5 r5.p) rfl (no hl5 (hs.get 1 rfl)) (dom hl5)).mem.take (js := [1, 0]) rfl)) ?_
  rintro v Fs ⟨A6, c6, rfl, hc6, hm6, rfl⟩
  have hl6 := hl5.trans hm6
  have b5 := num_lt8 r5 8 (by decide)
  clear hm6
  generalize hq5 : r5.num 8 = q5 at *
  obtain ⟨n5, r6⟩ := q5
  simp only at hc6 hl6 b5
  refine call_con [0] (fun β w' hs => tkRTxt_c w' rb A6 c6 r6 hc6 ((hs.sub 1 rfl rfl (bsF A6 r6.p) rfl (no hl6 (hs.get 1 rfl)) (dom hl6)).mem.take (js := [1, 0]) rfl)) ?_
  rintro v Fs ⟨A7, c7, rfl, hc7, hm7, rfl⟩
  have hl7 := hl6.trans hm7
  have b6 := txt_ltK r6
  clear hm7
  generalize hq6 : r6.txt = q6 at *
  obtain ⟨s6, r7⟩ := q6
  simp only at hc7 hl7 b6
  refine call_con [0] (fun β w' hs => tkRTxt_c w' rb A7 c7 r7 hc7 ((hs.sub 1 rfl rfl (bsF A7 r7.p) rfl (no hl7 (hs.get 1 rfl)) (dom hl7)).mem.take (js := [1, 0]) rfl)) ?_
  rintro v Fs ⟨A8, c8, rfl, hc8, hm8, rfl⟩
  have hl8 := hl7.trans hm8
  have b7 := txt_ltK r7
  clear hm8
  generalize hq7 : r7.txt = q7 at *
  obtain ⟨s7, r8⟩ := q7
  simp only at hc8 hl8 b7
  refine call_con [0] (fun β w' hs => tkRTxt_c w' rb A8 c8 r8 hc8 ((hs.sub 1 rfl rfl (bsF A8 r8.p) rfl (no hl8 (hs.get 1 rfl)) (dom hl8)).mem.take (js := [1, 0]) rfl)) ?_
  rintro v Fs ⟨A9, c9, rfl, hc9, hm9, rfl⟩
  have hl9 := hl8.trans hm9
  have b8 := txt_ltK r8
  clear hm9
  generalize hq8 : r8.txt = q8 at *
  obtain ⟨s8, r9⟩ := q8
  simp only at hc9 hl9 b8
  have hall : rdAll p = (n0, ⟨n1, n2, n3, n4, n5, s6, s7, s8⟩, r9) := by
    unfold rdAll
    simp only [hr0, hq0, hq1, hq2, hq3, hq4, hq5, hq6, hq7, hq8]
  refine ⟨.bool r9.bad, fun β w' hs => cell_bk (hs.get 0 rfl) (o := 1) rfl, ?_⟩
  have bad : ¬ (r9.bad = false ∧ r9.p = [] ∧ n0 = 1 ∧ (⟨n1, n2, n3, n4, n5, s6, s7, s8⟩ : Tk).Right) → readT p = none := fun h => by
    unfold readT
    rw [hall, if_neg h]
  cases hb : r9.bad with
  | true =>
    intro β w' hs
    exact (hs.keepB (List.nil_sublist _)).fin [] ⟨.inr ⟨bad (fun h => by rw [hb] at h; cases h.1), rfl⟩, rfl⟩
  | false =>
  refine ⟨.slice A9 r9.p.length c9, fun β w' hs => cell_bk (hs.get 0 rfl) (o := 0) rfl, ?_⟩
  refine BIf.dec (fun h1 => ?_) (fun h1 => ?_)
  · have h10 : (r9.p.length : Int) > 0 := h1
    intro β w' hs
    exact (hs.keepB (List.nil_sublist _)).fin [] ⟨.inr ⟨bad (fun h => by rw [h.2.1] at h10; exact absurd h10 (by decide)), rfl⟩, rfl⟩
  have h10 : ¬ (r9.p.length : Int) > 0 := h1
  refine BIf.not (BIf.dec (fun h2 => ?_) (fun h2 => ?_))
  rotate_left
  · have h20 : ¬ (n0 : Int) = 1 := h2
    intro β w' hs
    exact (hs.keepB (List.nil_sublist _)).fin [] ⟨.inr ⟨bad (fun h => h20 (by rw [h.2.2.1]; rfl)), rfl⟩, rfl⟩
  have h20 : (n0 : Int) = 1 := h2
  have hok : (⟨n1, n2, n3, n4, n5, s6, s7, s8⟩ : Tk).Ok := ⟨b1, b2, b3, b4, b5, b6, b7, b8⟩
  refine call_pu (v := .bool (decide (⟨n1, n2, n3, n4, n5, s6, s7, s8⟩ : Tk).Right)) (fun β w' hs => tkRight_c w' ⟨n1, n2, n3, n4, n5, s6, s7, s8⟩ (hn.old (hs.get 1 rfl)) hok) ?_
  refine BIf.not (BIf.dec (fun h3 => ?_) (fun h3 => ?_))
  rotate_left
  · intro β w' hs
    exact (hs.keepB (List.nil_sublist _)).fin [] ⟨.inr ⟨bad (fun h => h3 h.2.2.2), rfl⟩, rfl⟩
  have h11 : r9.p = [] := List.length_eq_zero_iff.1 (by clear hall; omega)
  have hrd : readT p = some ⟨n1, n2, n3, n4, n5, s6, s7, s8⟩ := by
    unfold readT
    rw [hall]
    exact if_pos ⟨hb, h11, by clear hall; show n0 = 1; omega, h3⟩
  intro β w' hs
  exact (hs.keepB (List.nil_sublist _)).fin [] ⟨.inl ⟨_, hrd, hok, rfl⟩, rfl⟩
theorem split_ok {s b m : List UInt8} (hd : (46 : UInt8) ∈ s) (hl : ¬ 4096 < s.length) (h1 : decU (dotA s) = some b) (h2 : decU (dotB s) = some m) (hm : m.length = 32) : splitT s = (some (b, m), 0) := by
  unfold splitT
  rw [if_neg hl, if_pos hd, h1, h2]
  exact if_pos hm
theorem split_no {s : List UInt8} (hl : ¬ 4096 < s.length) (h : ∀ b m, (46 : UInt8) ∈ s → decU (dotA s) = some b → decU (dotB s) = some m → m.length = 32 → False) : splitT s = (none, 4) := by
  unfold splitT
  rw [if_neg hl]
  by_cases hd : (46 : UInt8) ∈ s
  · rw [if_pos hd]
    cases h1 : decU (dotA s) with
    | none => rfl
    | some b =>
      cases h2 : decU (dotB s) with
      | none => rfl
      | some m => exact if_neg (fun q => h b m hd h1 h2 q)
  · rw [if_neg hd]
def splV (s : List UInt8) (v : Value) (Fs : List Fact) : Prop := (∃ b m A c B d, splitT s = (some (b, m), 0) ∧ b.length ≤ s.length ∧ m.length = 32 ∧ v = .tuple #[.slice A b.length c, .slice B m.length d, .int .i64 0] ∧ b.length ≤ c ∧ m.length ≤ d ∧ Fs = [browF ty_uint8 A b c, browF ty_uint8 B m d]) ∨ (∃ e, splitT s = (none, e) ∧ (e = 3 ∨ e = 4) ∧ v = .tuple #[.slice none 0 0, .slice none 0 0, .int .i64 e] ∧ Fs = [])
open Classical in
theorem tkSplit_c (w : World) (s : List UInt8) (hL : s.length ≤ 1000000) (hm : mlF.p w) : Con Tryz.prog n_ticket_Split #[.string (mkS s)] w [] (splV s) := by
  have g := good_ticket_Split w (Un [])
  refine con_of_sx (cx := cx_ticket_Split w (Un [])) g b_ticket_Split rfl rfl (β := Va.z) [.c (.v (.string (mkS s)))] 0 [] [oldF w] rfl rfl (old_sat rfl) ?_
  have hz := mkS_sz s
  refine BIf.dec (fun h1 => ?_) (fun h1 => ?_)
  · have h10 : ((mkS s).size : Int) > 4096 := h1
    intro β w' hs
    refine hs.fin [] (.inr ⟨3, ?_, .inl rfl, rfl, rfl⟩)
    unfold splitT
    rw [if_pos (by omega)]
  have h10 : ¬ ((mkS s).size : Int) > 4096 := h1
  refine call_pu (fun β w' hs => tkCut_c w' s hL (ml_old hm (hs.get 0 rfl))) ?_
  rw [libCut_eq]
  by_cases hd : (46 : UInt8) ∈ s
  · obtain ⟨e0, _⟩ := dot_split hd
    have hlen : s.length = (dotA s).length + ((dotB s).length + 1) := by conv => lhs; rw [e0, List.length_append, List.length_cons]
    rw [if_pos hd]
    refine call_con [] (fun β w' hs => DecodeURL_c w' (dotA s) (by omega)) ?_
    rintro v Fs ⟨A, b, c, e, rfl, he, hc, rfl⟩
    refine call_con [] (fun β w' hs => DecodeURL_c w' (dotB s) (by omega)) ?_
    rintro v Fs ⟨B, m, d, f, rfl, hf, hdc, rfl⟩
    rcases he with ⟨rfl, he⟩ | ⟨he0, he⟩
    rotate_left
    · refine BIf.not (BIf.dec (fun q => absurd q he0) (fun _ => ?_))
      intro β w' hs
      exact hs.fin [] (.inr ⟨4, split_no (by omega) (fun b m _ q => by rw [he] at q; cases q), .inr rfl, rfl, rfl⟩)
    rcases hf with ⟨rfl, hf⟩ | ⟨hf0, hf⟩
    rotate_left
    · refine BIf.not (BIf.dec (fun q => absurd q hf0) (fun _ => ?_))
      intro β w' hs
      exact hs.fin [] (.inr ⟨4, split_no (by omega) (fun b m _ _ q => by rw [hf] at q; cases q), .inr rfl, rfl, rfl⟩)
    refine BIf.not (BIf.dec (fun h2 => ?_) (fun h2 => ?_))
    · have h20 : (m.length : Int) = 32 := h2
      intro β w' hs
      exact hs.fin [1, 0] (.inl ⟨b, m, A, c, B, d, split_ok hd (by omega) he hf (by omega), by have := decU_len he; omega, by omega, rfl, hc, hdc, rfl⟩) rfl rfl rfl ⟨rfl, rfl, trivial⟩
    · have h20 : ¬ (m.length : Int) = 32 := h2
      intro β w' hs
      exact hs.fin [] (.inr ⟨4, split_no (by omega) (fun b' m' _ _ q h => by rw [hf] at q; injection q with q; subst q; exact h20 (by omega)), .inr rfl, rfl, rfl⟩)
  · rw [if_neg hd]
    refine call_con [] (fun β w' hs => DecodeURL_c w' s (by omega)) ?_
    rintro v Fs ⟨A, b, c, e, rfl, he, hc, rfl⟩
    refine call_con [] (fun β w' hs => DecodeURL_c w' [] (by decide)) ?_
    rintro v Fs ⟨B, m, d, f, rfl, hf, hdc, rfl⟩
    intro β w' hs
    exact hs.fin [] (.inr ⟨4, split_no (by omega) (fun b m q => absurd q hd), .inr rfl, rfl, rfl⟩)
theorem sameB_c (w : World) (A B : Option Addr) (l m : List UInt8) (c d : Nat) (h1 : Bs w A l) (h2 : Bs w B m) : Pu Tryz.prog n_ostiaryref01_Same #[.slice A l.length c, .slice B m.length d] w (.bool (decide (l = m))) := pu_of (same_c w A B l m c d h1 h2)
theorem fact_oldR {f : Fact} {W w : World} (h : f.p W) (hD : ∀ k, f.D k → k < W.heap.size) (ho : (oldF W).p w) : f.p w := f.st W w (fun k hk => ho k (hD k hk)) h
theorem zero_slB (w : World) : (zeroValue ty_sl_uint8).run Tryz.prog w = .ok (.slice none 0 0) w := by kernel_rfl
theorem epochs_c (w : World) (r : Rg) : Con Tryz.prog n_ring_Ring_Epochs #[ptrR r.b] w [] (fun v Fs => ∃ bx, v = .func (.func n_ring_Ring_Epochs_1) #[] #[.pointer (some ⟨bx, 0, none⟩)] ∧ Fs = [bkF bx ty_ptr_ring_Ring [ptrR r.b]]) := by
  refine con_of_sx (cx := cx_ring_Ring_Epochs w (Un [])) (good_ring_Ring_Epochs w (Un [])) b_ring_Ring_Epochs rfl rfl (β := Va.z) [.c (.v (ptrR r.b))] 0 [] [] rfl rfl (Sat.start rfl) ?_
  intro β w' hs
  exact hs.ofBk.fin [0] ⟨β 0, rfl, rfl⟩
def Rg.key (r : Rg) (e : Int) : Option RKey := r.ks.find? fun k => decide ((k.e : Int) = e)
theorem key_look (e : Int) : ∀ ks : List RKey, ilook (ks.map fun k => ((k.e : Int), k.v)) e = (ks.find? fun k => decide ((k.e : Int) = e)).map RKey.v
  | [] => rfl
  | k :: t => by
    by_cases h : (k.e : Int) = e
    · simp [ilook, List.find?, h]
    · simp only [List.map_cons, ilook, if_neg h, List.find?, decide_eq_false h]
      exact key_look e t
theorem rg_key {r : Rg} {w : World} (h : (rgF r).p w) {k : RKey} (hk : k ∈ r.ks) : k.f.p w := by
  have h1 : (sepF (r.ks.map RKey.f)).p w := h.1 (sepF (r.ks.map RKey.f)) (by simp)
  exact h1.1 k.f (List.mem_map.2 ⟨k, hk, rfl⟩)
def keyOut (o : Option RKey) (v : Value) (Fs : List Fact) : Prop := match o with
  | none => v = .tuple #[.slice none 0 0, .int .i64 15] ∧ Fs = []
  | some k => ∃ A c, v = .tuple #[.slice A k.p.length c, .int .i64 0] ∧ k.p.length ≤ c ∧ Fs = [browF ty_uint8 A k.p c]
theorem key_c (w : World) (r : Rg) (e : Int) (h : (rgF r).p w) (hl : ∀ k, (rgF r).D k → k < w.heap.size) (hp : ∀ k ∈ r.ks, k.p.length ≤ 1000) : Con Tryz.prog n_ring_Ring_Key #[ptrR r.b, .int .u64 e] w [] (keyOut (r.key e)) := by
  have g := good_ring_Ring_Key w (Un [])
  refine con_of_sx (cx := cx_ring_Ring_Key w (Un [])) g b_ring_Ring_Key rfl rfl (β := Va.z) [.c (.v (ptrR r.b)), .c (.v (.int .u64 e))] 0 [] [oldF w] rfl rfl (old_sat rfl) ?_
  refine ⟨.map (some r.m), fun β w' hs => cell_bk (rg_bk (fact_oldR h hl (hs.get 0 rfl))) (o := 3) rfl, ?_⟩
  refine ⟨rfl, .slice none 0 0, fun w => zero_slB w, r.ml, (r.key e).map RKey.v, fun β w' hs => rg_map (fact_oldR h hl (hs.get 0 rfl)), key_look e r.ks, ?_⟩
  cases hk : r.key e with
  | none =>
    intro β w' hs
    exact hs.fin [] ⟨rfl, rfl⟩
  | some k =>
    have hm : k ∈ r.ks := List.mem_of_find?_eq_some hk
    refine call_con [] (fun β w' hs => clone_c w' k.A k.p k.c (row_rd (rg_key (fact_oldR h hl (hs.get 0 rfl)) hm)) (by have := hp k hm; omega)) ?_
    rintro v Fs ⟨A, c, rfl, hc, _, rfl⟩
    intro β w' hs
    exact hs.fin [0] ⟨A, c, rfl, hc, rfl⟩
end Go.Proofs.YtlhcgofdfhfegaaGreatDoor.Sx

namespace Go.Proofs.YtlhcgofdfhfegaaGreatDoor.Sx
open Go
theorem Sat.mapPutI {cx : Cx} {β : Va} {n : Nat} {H : List Bk} {F : List Fact} {w : World} (h : Sat cx β n H F w) (g : Good cx) (j : Nat) {b : Nat} {l : MLI} {kk : IntKind} (hj : nth F j = some (mapIF kk b l)) {t kt et : TypeId} {i ik : TI} (s : Int) (v : Value) (hi : lk cx.tt t = some i := by rfl) (hd : i.desc = .map kt et := by rfl) (hik : lk cx.tt kt = some ik := by rfl) (hdk : ik.desc = .int kk := by rfl) :
    ∃ w', (Instr.mapUpdate t (.map (some b)) (.int kk s) v).run cx.P w = .ok () w' ∧ Sat cx β n H (putAt F j (mapIF kk b (iput l s v))) w' := by
  obtain ⟨o, e1, e2⟩ := run_putI (P := cx.P) ((g.ti hi).real (d := .map _ _) hd rfl) ((g.ti hik).real (d := .int kk) hdk rfl) (h.get j hj) s v
  exact ⟨_, e1, h.upd hj rfl (chg_put o) e2 (fun k hk => .inl hk)⟩
theorem Sat.mapPutIY {cx : Cx} {β : Va} {n : Nat} {H : List Bk} {F : List Fact} {w : World} (h : Sat cx β n H F w) (g : Good cx) (j : Nat) {b : Nat} {l : MLI} {kk : IntKind} (hj : nth F j = some (mapIF kk b l)) {t kt et : TypeId} {i ik : TI} (s : Int) (v : Value) (hi : lk cx.tt t = some i := by rfl) (hd : i.desc = .map kt et := by rfl) (hik : lk cx.tt kt = some ik := by rfl) (hdk : ik.desc = .int kk := by rfl) :
    ∃ (w' : World) (y : Nat), (Instr.mapUpdate t (.map (some b)) (.int kk s) v).run cx.P w = .ok () w' ∧ Sat cx β n H ((fun _ => putAt F j (mapIF kk b (iput l s v))) y) w' := by
  obtain ⟨w', e1, e2⟩ := h.mapPutI g j hj s v hi hd hik hdk
  exact ⟨w', 0, e1, e2⟩
theorem Sat.mapDelI {cx : Cx} {β : Va} {n : Nat} {H : List Bk} {F : List Fact} {w : World} (h : Sat cx β n H F w) (g : Good cx) (j : Nat) {b : Nat} {l : MLI} {kk : IntKind} (hj : nth F j = some (mapIF kk b l)) {t tk kt et : TypeId} {i ik : TI} (s : Int) (ty : TypeId) (cst : Array Bool) (hi : lk cx.tt t = some i := by rfl) (hd : i.desc = .map kt et := by rfl) (hik : lk cx.tt kt = some ik := by rfl) (hdk : ik.desc = .int kk := by rfl) :
    ∃ w', (builtin .delete #[t, tk] ty cst #[.map (some b), .int kk s]).run cx.P w = .ok (.value (.tuple #[])) w' ∧ Sat cx β n H (putAt F j (mapIF kk b (idel l s))) w' := by
  obtain ⟨o, e1, e2⟩ := run_delI (P := cx.P) (tk := tk) ((g.ti hi).real (d := .map _ _) hd rfl) ((g.ti hik).real (d := .int kk) hdk rfl) (h.get j hj) s ty cst
  exact ⟨_, e1, h.upd hj rfl (chg_put o) e2 (fun k hk => .inl hk)⟩
end Go.Proofs.YtlhcgofdfhfegaaGreatDoor.Sx

namespace Go.Proofs.YtlhcgofdfhfegaaGreatDoor.Sx
open Go
attribute [local irreducible] Calls
def outL (F : Bx.Box → Lay → Fact) (r : List UInt8 × Bx.Box) (v : Value) (Fs : List Fact) : Prop :=
  ∃ A c y', v = .slice A r.1.length c ∧ r.1.length ≤ c ∧ c ≤ maxLen ∧ y'.ts.map (·.1) = r.2.L ∧ Fs = [browF ty_uint8 A r.1 c, F r.2 y']
theorem boxOut_L {b : Nat} {r : List UInt8 × Bx.Box} {v : Value} {Fs : List Fact} (h : r.1.length = 32) (k : boxOut b r v Fs) : outL (bxF b) r v Fs := by
  obtain ⟨A, c, y', rfl, h1, h2, h3, rfl⟩ := k
  exact ⟨A, c, y', by rw [h], by rw [h]; exact h1, h2, h3, rfl⟩
theorem one_part (A : Option Addr) (l : List UInt8) (c : Nat) : partsT [(A, l, c)] = l := by simp [partsT]
theorem macL_c (w : World) (b : Nat) (B : Bx.Box) (y : Lay) (K : Option Addr) (key : List UInt8) (cK : Nat) (b0 : Nat) (A : Option Addr) (l : List UInt8) (c : Nat) (hts : y.ts.map (·.1) = B.L) (hi : BInv B) (hL : B.L.length < 4096) (hk : key.length ≤ 1000000) (hn : l.length ≤ 1000000) (hm : Mem w [bxF b B y, partF (some ⟨b0, 0, none⟩) [(A, l, c)], bsF K key, oddF 4, firstF 1]) :
    Con Tryz.prog n_box_Box_Mac #[ptrB b, .slice K key.length cK, .slice (some ⟨b0, 0, none⟩) 1 1] w [bxF b B y] (outL (bxF b) (macB B key l)) := by
  have k := macP_c w b B y K key cK b0 [(A, l, c)] 1 hts (by omega) hk (by simp) (Nat.le_refl 1) (by show 1 ≤ 1000; decide) (by rw [one_part]; exact hn) hm
  rw [one_part] at k
  exact k.mono fun v Fs h => boxOut_L (mac_good hi hL hk hn).2.1 h
structure RgOk (r : Rg) : Prop where
  rise : (r.ks.map (·.e)).Pairwise (· < ·)
  le : ∀ k ∈ r.ks, k.e ≤ r.epoch
  len : r.ks.length ≤ r.room
  room : r.room ≤ 8
  master : r.master.length ≤ 64
  ep : r.epoch < 98
def keyS : ByteArray := ⟨#[107, 101, 121, 32]⟩
def keyT (e : Nat) : ByteArray := keyS ++ decimS e
def Rg.more (r : Rg) (A : Option Addr) (c : Nat) (p : List UInt8) : Rg := { r with epoch := r.epoch + 1, ks := r.ks ++ [⟨r.epoch + 1, A, c, p⟩] }
def Rg.cut (r : Rg) : Rg := if r.room < r.ks.length then { r with ks := r.ks.tail } else r
theorem decS_size {u : Nat} (hu : u < 100) : (decimS u).size ≤ 2 := by
  have h : ∀ u : _root_.Fin 100, (decimS u.1).size ≤ 2 := by decide +kernel
  exact h ⟨u, hu⟩
theorem more_look {r : Rg} (hok : RgOk r) : ilook r.ml ((r.epoch + 1 : Nat) : Int) = none := by
  rw [Rg.ml, key_look]
  have : (r.ks.find? fun k => decide ((k.e : Int) = ((r.epoch + 1 : Nat) : Int))) = none := by
    refine List.find?_eq_none.2 fun k hk => ?_
    have := hok.le k hk
    simp
    omega
  rw [this]
  rfl
theorem iput_end : ∀ {l : MLI} {s : Int} {v : Value}, ilook l s = none → iput l s v = l ++ [(s, v)]
  | [], _, _, _ => rfl
  | (k, u) :: r, s, v, h => by
    simp only [ilook] at h
    split at h
    · cases h
    · rename_i hne
      simp only [iput, if_neg hne, List.cons_append]
      rw [iput_end h]
theorem more_rise {r : Rg} (hok : RgOk r) {A : Option Addr} {c : Nat} {p : List UInt8} : (r.more A c p).rise = (r.more A c p).es := by
  have h1 : ((r.ks ++ [(⟨r.epoch + 1, A, c, p⟩ : RKey)]).map (·.e)).Pairwise (· < ·) := by
    rw [List.map_append, List.pairwise_append]
    refine ⟨hok.rise, List.pairwise_singleton _ _, fun x hx y hy => ?_⟩
    obtain ⟨k, hk, rfl⟩ := List.mem_map.1 hx
    obtain rfl := List.mem_singleton.1 hy
    have := hok.le k hk
    show k.e < r.epoch + 1
    omega
  have h2 := List.pairwise_map.1 h1
  unfold Rg.rise
  refine List.mergeSort_of_pairwise (List.pairwise_map.2 (h2.imp fun {a b} q => ?_))
  simp
  omega
set_option maxHeartbeats 2000000 in
theorem rotate_c (w : World) (r : Rg) (B : Bx.Box) (y : Lay) (hok : RgOk r) (hts : y.ts.map (·.1) = B.L) (hi : BInv B) (hL : B.L.length < 4000) (hm : Mem w [rgF r, bxF r.bx B y, oddF 4, firstF 1]) :
    Con Tryz.prog n_ring_Ring_Rotate #[ptrR r.b] w [rgF r, bxF r.bx B y] fun v Fs => ∃ A c y', v = .tuple #[.int .u64 ((r.epoch + 1 : Nat) : Int), .int .i64 0] ∧ y'.ts.map (·.1) = (macB B r.master (keyT (r.epoch + 1)).data.toList).2.L ∧
      Fs = [rgF (r.more A c (macB B r.master (keyT (r.epoch + 1)).data.toList).1).cut, bxF r.bx (macB B r.master (keyT (r.epoch + 1)).data.toList).2 y'] := by
  have g := good_ring_Ring_Rotate w (Un [rgF r, bxF r.bx B y])
  have hml := maxLen_eq
  have hs0 : Sat (cx_ring_Ring_Rotate w (Un [rgF r, bxF r.bx B y])) Va.z 0 [] [rgF r, bxF r.bx B y, oddF 4, firstF 1] w := hm.sat0 rfl (ownIn (Gs := [rgF r, bxF r.bx B y]) (fun f hf => by
    simp only [List.mem_cons, List.not_mem_nil, or_false] at hf
    rcases hf with rfl | rfl <;> rfl))
  have hs1 := hs0.unsep 0 rfl
  obtain ⟨e, he⟩ : ∃ e, r.epoch = e := ⟨_, rfl⟩
  have hep := hok.ep
  have hma := hok.master
  refine con_of_sx (cx := cx_ring_Ring_Rotate w (Un [rgF r, bxF r.bx B y])) g b_ring_Ring_Rotate rfl rfl (β := Va.z) [.c (.v (ptrR r.b))] 0 [] _ rfl rfl hs1 ?_
  obtain ⟨x, hx⟩ : ∃ x : Int, (r.epoch : Int) = x := ⟨_, rfl⟩
  obtain ⟨x1, hx1⟩ : ∃ x1 : Int, ((r.epoch + 1 : Nat) : Int) = x1 := ⟨_, rfl⟩
  refine ⟨.int .u64 x, fun β w' hs => by rw [← hx]; exact cell_bk (hs.get 0 rfl) (o := 4) rfl, ?_⟩
  refine BIf.dec (fun h => absurd h (show ¬ (4294967296 : Int) ≤ x by omega)) (fun _ => ?_)
  refine ⟨.int .u64 x, fun β w' hs => by rw [← hx]; exact cell_bk (hs.get 0 rfl) (o := 4) rfl, ?_⟩
  refine ⟨x1, by rw [wrap_u64']; omega, ?_⟩
  refine ⟨_, fun β w' hs => hs.bkSet 0 (o := 4) (us := [.int .u64 x1]) rfl (by show 5 ≤ 5; decide) (one_mem rfl), ?_⟩
  have hds := decS_size (u := r.epoch + 1) (by omega)
  have hks : keyS.size = 4 := rfl
  have hkl : (keyT (r.epoch + 1)).data.toList.length ≤ 10 := by show (keyS ++ decimS (r.epoch + 1)).size ≤ 10; rw [ByteArray.size_append]; omega
  refine draw_rule g p_ring_Ring_Rotate_6 (by kernel_rfl) [⟨0, ty_ptr_ring_Ring, [.v (ptrR r.b)]⟩] [bkF r.b ty_ring_Ring (putAll r.vs 4 [.int .u64 x1])] (subPerm [0]) ?_
  refine ⟨.map (some r.m), fun β w' hs => cell_bk (hs.get 0 rfl) (o := 3) rfl, ?_⟩
  refine ⟨.int .u64 x1, fun β w' hs => cell_bk (hs.get 0 rfl) (o := 4) rfl, ?_⟩
  refine ⟨.pointer (some ⟨r.bx, 0, none⟩), fun β w' hs => cell_bk (hs.get 0 rfl) (o := 0) rfl, ?_⟩
  refine ⟨.slice r.mA r.master.length r.mc, fun β w' hs => cell_bk (hs.get 0 rfl) (o := 1) rfl, ?_⟩
  refine ⟨.int .u64 x1, fun β w' hs => cell_bk (hs.get 0 rfl) (o := 4) rfl, ?_⟩
  refine call_pu (v := .string (decimS (r.epoch + 1))) (fun β w' hs => by rw [← hx1]; exact fmtU_c w' (r.epoch + 1) (by omega)) ?_
  refine ⟨subPerm [0], ?_⟩
  refine ⟨by show keyS.size + (decimS (r.epoch + 1)).size ≤ maxLen; omega, ?_⟩
  intro bb cb hcb _
  refine ⟨subPerm [1], ?_⟩
  intro br
  refine ⟨subPerm [2], ?_⟩
  refine call_con [6] (R := outL (bxF r.bx) (macB B r.master (keyT (r.epoch + 1)).data.toList)) (fun β w' hs => by
    have h2 := (((hs.rowRd 0 rfl).unown 1 rfl).ro 3 rfl).part1 (l := (keyT (r.epoch + 1)).data.toList) [0, 1] rfl
    exact macL_c w' r.bx B y r.mA r.master r.mc br (some ⟨bb, 0, none⟩) (keyT (r.epoch + 1)).data.toList cb hts hi (by omega) (by omega) (by omega) (h2.mem.take (js := [7, 0, 4, 8, 9]) rfl)) ?_
  rintro v Fs ⟨A, c, y1, rfl, q1, q2, hts1, rfl⟩
  refine ⟨subPerm [4], ?_⟩
  generalize macB B r.master (keyT (r.epoch + 1)).data.toList = k at *
  obtain ⟨kp, kB⟩ := k
  simp only at q1 hts1
  refine ⟨_, fun _ => _, fun β w' hs => hs.mapPutIY g 6 rfl (t := ty_map_uint64_sl_uint8) x1 (.slice A kp.length c), fun _ => ?_⟩
  refine ⟨subPerm [4], ?_⟩
  rw [show iput r.ml x1 (.slice A kp.length c) = (r.more A c kp).ml from by rw [iput_end (by rw [← hx1]; exact more_look hok)]; simp [Rg.ml, Rg.more, RKey.v, ← hx1]]
  have hx1' : x1 = ((r.more A c kp).epoch : Int) := hx1.symm
  have e1 : rgF (r.more A c kp) = sepF [bkF r.b ty_ring_Ring (putAll r.vs 4 [.int .u64 x1]), browF ty_uint8 r.mA r.master r.mc, mapIF .u64 r.m (r.more A c kp).ml, sepF (r.ks.map RKey.f ++ [browF ty_uint8 A kp c])] := by
    rw [hx1']
    unfold rgF
    simp [Rg.more, Rg.vs, putAll, putAt_eq, RKey.f]
  refine call_con [] (fun β w' hs => epochs_c w' (r.more A c kp)) ?_
  rintro v Fs ⟨bx2, rfl, rfl⟩
  refine range_rule (α := Int) (ι := Unit) (κ := Unit) g rfl (cv := [.pointer (some ⟨bx2, 0, none⟩)]) rfl (by kernel_rfl) 1 (Nat.le_refl 1)
    (fun pre _ => pre = []) (fun _ => [⟨0, ty_ptr_ring_Ring, [.v (ptrR r.b)]⟩]) (fun _ => [bxF r.bx kB y1]) (fun i => ⟨rfl, trivial⟩)
    (fun e _ _ => e = .exit 1) (fun _ => [⟨0, ty_ptr_ring_Ring, [.v (ptrR r.b)]⟩]) (fun _ => [rgF (r.more A c kp).cut, bxF r.bx kB y1]) (fun _ => ⟨rfl, rfl, trivial⟩)
    [bkF bx2 ty_ptr_ring_Ring [ptrR r.b], rgF (r.more A c kp)] [] [] ⟨rfl, rfl, trivial⟩ (fun g h => by cases h) () rfl
    (fun β w hs => ⟨β, Agr.refl _ _, by
      have h2 := hs.blur 1 8 (A := r.ks.map RKey.f) (B := []) (x := browF ty_uint8 A kp c) rfl (by show some (sepF (r.ks.map RKey.f)) = _; rw [List.append_nil]) rfl (by decide)
      have h3 := h2.sep [5, 6, 7, 0] rfl ⟨rfl, rfl, rfl, rfl, trivial⟩
      rw [e1]
      exact h3.perm [1, 0, 2]⟩) (insE (r.more A c kp) (r.more A c kp).rise)
    (fun xs Fs' => xs = (r.more A c kp).rise ∧ Fs' = onFst (r.more A c kp).rise [rgF (r.more A c kp)] []) (fun _ Fs' => Fs' = [])
    (fun l w f0 R J Jx hJ0 hJo hRo hY hm => (ep_it l w bx2 (r.more A c kp) f0 R J Jx (by have h1 := hok.len; have h2 := hok.room; show (r.ks ++ [_]).length ≤ 12; rw [List.length_append]; show r.ks.length + 1 ≤ 12; omega) hJ0 hJo hRo hY hm).mono fun _ Fs h => by
      obtain ⟨f, Fs', e0, h⟩ := h
      refine ⟨f, Fs', e0, ?_⟩
      rcases h with ⟨xs, a1, a2, a3⟩ | ⟨pre, a1, a2⟩
      · exact .inl ⟨xs, a1, a2, a3⟩
      · exact .inr ⟨pre, a1, a2⟩) ?_ ?_ ?_
  · rintro ⟨⟩ pre x args X W S' lb bs pn pn' hbs rfl ⟨rfl, rfl, hx0⟩
    refine ⟨_, rfl, ?_⟩
    obtain ⟨rm, hrm⟩ : ∃ rm : Int, (r.room : Int) = rm := ⟨_, rfl⟩
    refine draw_rule (rcx_good g) p_ring_Ring_Rotate_9 (by kernel_rfl) [⟨0, ty_ptr_ring_Ring, [.v (ptrR r.b)]⟩] [rgF (r.more A c kp)] (subPerm [0]) ?_
    refine ⟨.map (some r.m), fun β w' hs => cell_bk (rg_bk (hs.get 0 rfl)) (o := 3) rfl, ?_⟩
    refine ⟨(r.more A c kp).ml, fun β w' hs => rg_map (hs.get 0 rfl), ?_⟩
    refine ⟨.int .i64 rm, fun β w' hs => by rw [← hrm]; exact cell_bk (rg_bk (hs.get 0 rfl)) (o := 2) rfl, ?_⟩
    have hmll : (r.more A c kp).ml.length = (r.more A c kp).ks.length := by rw [Rg.ml, List.length_map]
    refine BIf.dec (fun hgt => ?_) (fun hle => ?_)
    · have hgt0 : rm < ((r.more A c kp).ml.length : Int) := hgt
      have hcut : (r.more A c kp).cut = { (r.more A c kp) with ks := (r.more A c kp).ks.tail } := by
        unfold Rg.cut
        rw [if_pos (by show r.room < _; omega)]
      refine ⟨.map (some r.m), fun β w' hs => cell_bk (rg_bk (hs.get 0 rfl)) (o := 3) rfl, ?_⟩
      obtain ⟨k0, t, hkt⟩ : ∃ k0 t, (r.more A c kp).ks = k0 :: t := by
        cases hq : (r.more A c kp).ks with
        | nil =>
          have h2 : (r.more A c kp).ks.length = r.ks.length + 1 := by show (r.ks ++ [_]).length = _; rw [List.length_append]; rfl
          rw [hq] at h2
          cases h2
        | cons k0 t => exact ⟨k0, t, rfl⟩
      have hxk : x = (k0.e : Int) := by
        rw [more_rise hok, Rg.es, hkt] at hx0
        exact (Option.some.inj hx0).symm
      have hdel : idel (r.more A c kp).ml x = (r.more A c kp).cut.ml := by
        rw [hcut, Rg.ml, Rg.ml, hkt, hxk]
        simp [idel]
      refine ⟨[⟨0, ty_ptr_ring_Ring, [.v (ptrR r.b)]⟩], [rgF (r.more A c kp).cut, bxF r.bx kB y1], .c (.v (.tuple #[])), fun β w' ty hs => ?_, trivial, ?_⟩
      · have h1 := Sat.unsep hs 0 rfl
        obtain ⟨w2, f1, f2⟩ := h1.mapDelI (rcx_good g) 2 rfl (t := ty_map_uint64_sl_uint8) (tk := ty_uint64) x ty _
        refine ⟨w2, f1, ?_⟩
        have h3 := f2.fuse [3] (sepF ((r.more A c kp).cut.ks.map RKey.f)) (fun w hm => by
          have h := hm.fact (sepF ((r.more A c kp).ks.map RKey.f)) List.mem_cons_self
          rw [hkt] at h
          rw [hcut, hkt]
          exact ⟨fun f hf => h.1 f (List.mem_cons_of_mem _ hf), (List.pairwise_cons.1 h.2).2⟩) (fun k hk => by
          refine ⟨sepF ((r.more A c kp).ks.map RKey.f), List.mem_cons_self, ?_⟩
          rw [hcut, hkt] at hk
          rw [hkt]
          obtain ⟨f, hf, hk⟩ := hk
          exact ⟨f, List.mem_cons_of_mem _ hf, hk⟩)
        have h4 := h3.sep [1, 2, 3, 0] rfl ⟨rfl, rfl, rfl, rfl, trivial⟩
        have e2 : rgF (r.more A c kp).cut = sepF [bkF (r.more A c kp).b ty_ring_Ring (r.more A c kp).vs, browF ty_uint8 (r.more A c kp).mA (r.more A c kp).master (r.more A c kp).mc, mapIF .u64 (r.more A c kp).m (idel (r.more A c kp).ml x), sepF ((r.more A c kp).cut.ks.map RKey.f)] := by
          rw [hdel]
          unfold rgF
          rw [hcut]
          rfl
        rw [e2]
        exact h4
      · exact ⟨(), rfl, Ent.mk' trivial rfl (fun β w hs => hs)⟩
    · have hle0 : ¬ rm < ((r.more A c kp).ml.length : Int) := hle
      have hcut : (r.more A c kp).cut = r.more A c kp := by
        unfold Rg.cut
        rw [if_neg (by show ¬ r.room < _; omega)]
      exact ⟨(), rfl, Ent.mk' trivial rfl (fun β w hs => by rw [hcut]; exact hs)⟩
  · rintro xs ⟨⟩ Fs rfl ⟨hxs, rfl⟩
    exfalso
    have h1 : (r.more A c kp).rise.length = (r.more A c kp).ks.length := by rw [Rg.rise, List.length_mergeSort, Rg.es, List.length_map]
    rw [← hxs] at h1
    have h2 : (r.more A c kp).ks.length = r.ks.length + 1 := by show (r.ks ++ [_]).length = _; rw [List.length_append]; rfl
    rw [h2] at h1
    cases h1
  · rintro e' pre ⟨⟩ Fs rfl rfl
    have hcb : (r.more A c kp).cut.b = r.b := by unfold Rg.cut; split <;> rfl
    have hcv : (r.more A c kp).cut.vs = (r.more A c kp).vs := by unfold Rg.cut; split <;> rfl
    refine ⟨.int .u64 x1, fun β w' hs => ?_, ?_⟩
    · have h := rg_bk (hs.get 0 rfl)
      rw [hcb, hcv] at h
      rw [← hx1]
      exact cell_bk h (o := 4) rfl
    intro β w' hs
    rw [← hx1] at *
    exact (hs.keepB (List.nil_sublist _)).fin [0, 1] ⟨A, c, y1, rfl, hts1, rfl⟩
theorem more_ok {r : Rg} (hok : RgOk r) (hep : r.epoch + 1 < 98) {A : Option Addr} {c : Nat} {p : List UInt8} : RgOk (r.more A c p).cut := by
  have h1 : ((r.ks ++ [(⟨r.epoch + 1, A, c, p⟩ : RKey)]).map (·.e)).Pairwise (· < ·) := by
    rw [List.map_append, List.pairwise_append]
    refine ⟨hok.rise, List.pairwise_singleton _ _, fun x hx y hy => ?_⟩
    obtain ⟨k, hk, rfl⟩ := List.mem_map.1 hx
    obtain rfl := List.mem_singleton.1 hy
    have := hok.le k hk
    show k.e < r.epoch + 1
    omega
  have h2 : ∀ k ∈ r.ks ++ [(⟨r.epoch + 1, A, c, p⟩ : RKey)], k.e ≤ r.epoch + 1 := by
    intro k hk
    rcases List.mem_append.1 hk with hk | hk
    · have := hok.le k hk
      omega
    · obtain rfl := List.mem_singleton.1 hk
      exact Nat.le_refl _
  have h3 : (r.ks ++ [(⟨r.epoch + 1, A, c, p⟩ : RKey)]).length = r.ks.length + 1 := by rw [List.length_append]; rfl
  have hl := hok.len
  unfold Rg.cut
  split
  · refine ⟨?_, fun k hk => h2 k (List.mem_of_mem_tail hk), ?_, hok.room, hok.master, hep⟩
    · show (((r.ks ++ [(⟨r.epoch + 1, A, c, p⟩ : RKey)]).tail).map (·.e)).Pairwise (· < ·)
      exact h1.sublist ((List.tail_sublist _).map _)
    · show ((r.ks ++ [(⟨r.epoch + 1, A, c, p⟩ : RKey)]).tail).length ≤ r.room
      rw [List.length_tail, h3]
      omega
  · rename_i hn
    have hn2 : ¬ r.room < (r.ks ++ [(⟨r.epoch + 1, A, c, p⟩ : RKey)]).length := hn
    exact ⟨h1, h2, by show (r.ks ++ [(⟨r.epoch + 1, A, c, p⟩ : RKey)]).length ≤ r.room; omega, hok.room, hok.master, hep⟩
def ring0 (b bx : Nat) (mA : Option Addr) (mc : Nat) (master : List UInt8) (room m : Nat) : Rg := ⟨b, bx, mA, mc, master, room, m, [], 0⟩
theorem newR_c (w : World) (bx : Nat) (B : Bx.Box) (y : Lay) (M : Option Addr) (master : List UInt8) (cM room : Nat) (h1 : 1 ≤ master.length) (h2 : master.length ≤ 64) (h3 : 1 ≤ room) (h4 : room ≤ 8) (hts : y.ts.map (·.1) = B.L) (hi : BInv B) (hL : B.L.length < 4000) (hm : Mem w [bxF bx B y, bsF M master, oddF 4, firstF 1]) :
    Con Tryz.prog n_ring_New #[ptrB bx, .slice M master.length cM, .int .i64 (room : Int)] w [bxF bx B y] fun v Fs => ∃ b mA mc m A c y', v = .tuple #[ptrR b, .int .i64 0] ∧ y'.ts.map (·.1) = (macB B master (keyT 1).data.toList).2.L ∧
      Fs = [rgF ((ring0 b bx mA mc master room m).more A c (macB B master (keyT 1).data.toList).1).cut, bxF bx (macB B master (keyT 1).data.toList).2 y'] := by
  have g := good_ring_New w (Un [bxF bx B y])
  have hml := maxLen_eq
  have hs0 : Sat (cx_ring_New w (Un [bxF bx B y])) Va.z 0 [] [bxF bx B y, bsF M master, oddF 4, firstF 1] w := hm.sat0 rfl (ownIn (Gs := [bxF bx B y]) (fun f hf => by
    simp only [List.mem_cons, List.not_mem_nil, or_false] at hf
    rcases hf with rfl | rfl | rfl <;> rfl))
  obtain ⟨rm, hrm⟩ : ∃ rm : Int, (room : Int) = rm := ⟨_, rfl⟩
  rw [hrm]
  refine con_of_tri (cx := cx_ring_New w (Un [bxF bx B y])) g b_ring_New rfl rfl (β := Va.z) [.c (.v (ptrB bx)), .c (.v (.slice M master.length cM)), .c (.v (.int .i64 rm))] 0 [] _ rfl rfl hs0 ?_
  refine tri_seq g ?_
  refine tri_seq g ?_
  refine BIf.dec (fun h => absurd h (show ¬ (master.length : Int) < 1 by omega)) (fun _ => ?_)
  refine BIf.dec (fun h => absurd h (show ¬ (64 : Int) < (master.length : Int) by omega)) (fun _ => ?_)
  refine BIf.dec (fun h => absurd h (show ¬ rm < 1 by omega)) (fun _ => ?_)
  refine BIf.dec (fun h => absurd h (show ¬ (8 : Int) < rm by omega)) (fun _ => ?_)
  refine tri_seq g ?_
  refine call_con [] (fun β w' hs => clone_c w' M master cM (hs.get 1 rfl) (by omega)) ?_
  rintro v Fs ⟨mA, mc, rfl, q1, q2, rfl⟩
  intro m
  refine reify_tri 0 (fun _ => [.pointer (some ⟨bx, 0, none⟩), .slice mA master.length mc, .int .i64 rm, .map (some m), .int .u64 0]) rfl rfl (fun _ => rfl) (fun rb => ?_)
  refine tri_sat (F' := [rgF (ring0 rb bx mA mc master room m), bxF bx B y, oddF 4, firstF 1]) (fun β w' hs => by
    have h1 := (hs.emptyI (kk := .u64) 1 rfl).noMem (sepF []) ⟨fun f hf => (by cases hf), List.Pairwise.nil⟩ (fun k hk => by obtain ⟨f, hf, _⟩ := hk; cases hf)
    have h2 := h1.sep [1, 3, 2, 0] rfl ⟨rfl, rfl, rfl, rfl, trivial⟩
    have e : rgF (ring0 rb bx mA mc master room m) = sepF [bkF rb ty_ring_Ring [.pointer (some ⟨bx, 0, none⟩), .slice mA master.length mc, .int .i64 rm, .map (some m), .int .u64 0], browF ty_uint8 mA master mc, mapIF .u64 m [], sepF []] := by
      rw [← hrm]
      rfl
    rw [e]
    exact h2.perm [0, 1, 3, 4]) ?_
  have hok : RgOk (ring0 rb bx mA mc master room m) := ⟨List.Pairwise.nil, fun k hk => (by cases hk), Nat.zero_le _, h4, h2, by show 0 < 98; decide⟩
  refine tri_seq g ?_
  refine call_con [0, 1] (fun β w' hs => rotate_c w' (ring0 rb bx mA mc master room m) B y hok hts hi hL (hs.mem.take (js := [0, 1, 2, 3]) rfl)) ?_
  rintro v Fs ⟨A, c, y', rfl, hts', rfl⟩
  refine tri_seq g ?_
  refine tri_of g ?_
  intro β w' hs
  exact (hs.keepB (List.nil_sublist _)).fin [0, 1] ⟨rb, mA, mc, m, A, c, y', rfl, hts', rfl⟩
def newestOut (r : Rg) (v : Value) (Fs : List Fact) : Prop := match r.key (r.epoch : Int) with
  | none => v = .tuple #[.int .u64 0, .slice none 0 0, .bool false] ∧ Fs = []
  | some k => ∃ A c, v = .tuple #[.int .u64 (r.epoch : Int), .slice A k.p.length c, .bool true] ∧ k.p.length ≤ c ∧ Fs = [browF ty_uint8 A k.p c]
theorem newest_c (w : World) (r : Rg) (h : (rgF r).p w) (hl : ∀ k, (rgF r).D k → k < w.heap.size) (hp : ∀ k ∈ r.ks, k.p.length ≤ 1000) : Con Tryz.prog n_ring_Ring_Newest #[ptrR r.b] w [] (newestOut r) := by
  have g := good_ring_Ring_Newest w (Un [])
  refine con_of_sx (cx := cx_ring_Ring_Newest w (Un [])) g b_ring_Ring_Newest rfl rfl (β := Va.z) [.c (.v (ptrR r.b))] 0 [] [oldF w] rfl rfl (old_sat rfl) ?_
  refine ⟨.int .u64 (r.epoch : Int), fun β w' hs => cell_bk (rg_bk (fact_oldR h hl (hs.get 0 rfl))) (o := 4) rfl, ?_⟩
  refine call_con [] (fun β w' hs => key_c w' r (r.epoch : Int) (fact_oldR h hl (hs.get 0 rfl)) (fun k hk => Nat.lt_of_lt_of_le (hl k hk) hs.chg.size) hp) ?_
  unfold newestOut
  cases hk : r.key (r.epoch : Int) with
  | none =>
    rintro v Fs ⟨rfl, rfl⟩
    intro β w' hs
    exact hs.fin [] ⟨rfl, rfl⟩
  | some k =>
    rintro v Fs ⟨A, c, rfl, hc, rfl⟩
    refine ⟨.int .u64 (r.epoch : Int), fun β w' hs => cell_bk (rg_bk (fact_oldR h hl (hs.get 1 rfl))) (o := 4) rfl, ?_⟩
    intro β w' hs
    exact hs.fin [0] ⟨A, c, rfl, hc, rfl⟩
def signOut (r : Rg) (B : Bx.Box) (l : List UInt8) (v : Value) (Fs : List Fact) : Prop := match r.key (r.epoch : Int) with
  | none => v = .tuple #[.int .u64 0, .slice none 0 0, .int .i64 15] ∧ ∃ y', y'.ts.map (·.1) = B.L ∧ Fs = [rgF r, bxF r.bx B y']
  | some k => ∃ A c y', v = .tuple #[.int .u64 (r.epoch : Int), .slice A (macB B k.p l).1.length c, .int .i64 0] ∧ (macB B k.p l).1.length ≤ c ∧ y'.ts.map (·.1) = (macB B k.p l).2.L ∧ Fs = [browF ty_uint8 A (macB B k.p l).1 c, rgF r, bxF r.bx (macB B k.p l).2 y']
def verOut (r : Rg) (B : Bx.Box) (e : Int) (s l : List UInt8) (v : Value) (Fs : List Fact) : Prop := match r.key e with
  | none => v = .int .i64 15 ∧ ∃ y', y'.ts.map (·.1) = B.L ∧ Fs = [rgF r, bxF r.bx B y']
  | some k => v = .int .i64 (if (macB B k.p l).1 = s then 0 else 13) ∧ ∃ y', y'.ts.map (·.1) = (macB B k.p l).2.L ∧ Fs = [rgF r, bxF r.bx (macB B k.p l).2 y']
def Rg.drop (r : Rg) (e : Int) : Rg := { r with ks := r.ks.eraseP fun k => decide ((k.e : Int) = e) }
end Go.Proofs.YtlhcgofdfhfegaaGreatDoor.Sx

namespace Go.Proofs.YtlhcgofdfhfegaaGreatDoor.Sx
open Go
structure Pre (B B' : Bx.Box) : Prop where
  sym : B'.sym = B.sym
  full : B'.full = B.full
  terms : ∃ l, B'.L = B.L ++ l
theorem Pre.refl (B : Bx.Box) : Pre B B := ⟨rfl, rfl, [], by simp⟩
theorem Pre.trans {A B C : Bx.Box} (h : Pre A B) (k : Pre B C) : Pre A C := by
  obtain ⟨l, hl⟩ := h.terms
  obtain ⟨m, hm⟩ := k.terms
  exact ⟨k.sym.trans h.sym, k.full.trans h.full, l ++ m, by rw [hm, hl, List.append_assoc]⟩
theorem place_app {t : Bx.Term} : ∀ {L : List Bx.Term} {i : Nat} (l : List Bx.Term), Bx.place t L = some i → Bx.place t (L ++ l) = some i
  | x :: r, i, l, h => by
    simp only [List.cons_append, Bx.place] at h ⊢
    split
    · rename_i q; rw [if_pos q] at h; exact h
    · rename_i q
      rw [if_neg q] at h
      obtain ⟨j, hj, rfl⟩ := Option.map_eq_some_iff.1 h
      rw [place_app l hj]
      rfl
theorem place_new {t : Bx.Term} : ∀ {L : List Bx.Term}, Bx.place t L = none → Bx.place t (L ++ [t]) = some L.length
  | [], _ => by simp [Bx.place]
  | x :: r, h => by
    simp only [List.cons_append, Bx.place] at h ⊢
    split
    · rename_i q; rw [if_pos q] at h; cases h
    · rename_i q
      rw [if_neg q] at h
      have h' : Bx.place t r = none := by simpa using h
      rw [place_new h']
      simp
theorem tag_pre {B : Bx.Box} (hl : B.L.length < 4096) (t : Bx.Term) : Pre B (B.tag t).2 := by
  unfold Bx.Box.tag
  cases Bx.place t B.L with
  | some i => exact Pre.refl B
  | none =>
    simp only
    rw [if_neg (by omega)]
    exact ⟨rfl, rfl, [t], rfl⟩
theorem tag_place {B : Bx.Box} (hl : B.L.length < 4096) (t : Bx.Term) : ∃ i, Bx.place t (B.tag t).2.L = some i ∧ (B.tag t).1 = Bx.handle (i + 1) := by
  unfold Bx.Box.tag
  cases h : Bx.place t B.L with
  | some i => exact ⟨i, h, rfl⟩
  | none =>
    simp only
    rw [if_neg (by omega)]
    exact ⟨B.L.length, place_new h, rfl⟩
theorem tag_again {B B' : Bx.Box} (hl : B.L.length < 4096) (t : Bx.Term) (h : Pre (B.tag t).2 B') : B'.tag t = ((B.tag t).1, B') := by
  obtain ⟨i, h1, h2⟩ := tag_place hl t
  obtain ⟨l, hl2⟩ := h.terms
  have h3 : Bx.place t B'.L = some i := by rw [hl2]; exact place_app l h1
  rw [h2]
  unfold Bx.Box.tag
  rw [h3]
noncomputable def opB (B : Bx.Box) (t : Bx.Term) (raw : List UInt8) : List UInt8 × Bx.Box := if B.sym then B.tag t else (raw, B)
theorem op_pre {B : Bx.Box} (hl : B.L.length < 4096) (t : Bx.Term) (raw : List UInt8) : Pre B (opB B t raw).2 := by
  unfold opB
  split
  · exact tag_pre hl t
  · exact Pre.refl B
theorem op_again {B B' : Bx.Box} (hl : B.L.length < 4096) (t : Bx.Term) (raw : List UInt8) (h : Pre (opB B t raw).2 B') : opB B' t raw = ((opB B t raw).1, B') := by
  cases hs : B.sym with
  | true =>
    have e : opB B t raw = B.tag t := by unfold opB; rw [hs]; rfl
    rw [e] at h ⊢
    have hs' : B'.sym = true := by rw [h.sym, (tag_pre hl t).sym, hs]
    unfold opB
    rw [hs', if_pos rfl]
    exact tag_again hl t h
  | false =>
    have e : opB B t raw = (raw, B) := by unfold opB; rw [hs]; rfl
    rw [e] at h ⊢
    have hs' : B'.sym = false := by rw [h.sym]; exact hs
    unfold opB
    rw [hs']
    rfl
theorem mac_pre {B : Bx.Box} (hl : B.L.length < 4096) (k t : List UInt8) : Pre B (macB B k t).2 := op_pre hl _ _
theorem mac_again {B B' : Bx.Box} (hl : B.L.length < 4096) (k t : List UInt8) (h : Pre (macB B k t).2 B') : macB B' k t = ((macB B k t).1, B') := op_again hl _ _ h
theorem opens_app {h : List UInt8} {r : List Nat × List UInt8} : ∀ (l : List Bx.Term) {B : Bx.Box}, B.opens h = some r → ({ B with L := B.L ++ l } : Bx.Box).opens h = some r
  | [], B, e => by rw [List.append_nil]; exact e
  | t :: l, B, e => by
    have h1 := opens_app l (opens_grow (t := t) e)
    simp only [List.append_assoc, List.cons_append, List.nil_append] at h1
    exact h1
theorem Pre.opens {B B' : Bx.Box} (h : Pre B B') {t : List UInt8} {r : List Nat × List UInt8} (e : B.opens t = some r) : B'.opens t = some r := by
  obtain ⟨l, hl⟩ := h.terms
  have h1 := opens_app l e
  have e2 : B' = { B with L := B.L ++ l } := by
    obtain ⟨s, f, L⟩ := B'
    have a := h.sym
    have b := h.full
    simp only at a b hl
    subst a b hl
    rfl
  rw [e2]
  exact h1
theorem mac_apart {B B' : Bx.Box} (hi : BInv B) (hi' : BInv B') (hs : B.sym = true) (hs' : B'.sym = true) (hl : B.L.length < 4096) (hl' : B'.L.length < 4096) {k t k' t' : List UInt8} (hk : k.length ≤ 1000000) (ht : t.length ≤ 1000000) (hk' : k'.length ≤ 1000000) (ht' : t'.length ≤ 1000000)
    (hp : Pre (macB B k t).2 B') (h : (macB B k t).1 = (macB B' k' t').1) : k = k' ∧ t = t' := by
  have a1 : macB B k t = B.tag (macT k t) := by unfold macB; rw [hs]; rfl
  have a2 : macB B' k' t' = B'.tag (macT k' t') := by unfold macB; rw [hs']; rfl
  have l1 := (mac_good hi hl hk ht).1.len
  have l2 := (mac_good hi' hl' hk' ht').1.len
  obtain ⟨i, p1, p2⟩ := tag_place (B := B) (by omega) (macT k t)
  obtain ⟨j, p3, p4⟩ := tag_place (B := B') (by omega) (macT k' t')
  rw [← a1] at p1 p2
  rw [← a2] at p3 p4
  rw [h, p4] at p2
  have hi1 := (List.getElem?_eq_some_iff.1 (Bx.place_some p1)).1
  have hj1 := (List.getElem?_eq_some_iff.1 (Bx.place_some p3)).1
  have hij := Bx.handle_inj (by omega) (by omega) p2
  obtain rfl : i = j := by omega
  have hpre2 : Pre (macB B k t).2 (macB B' k' t').2 := hp.trans (mac_pre (by omega) k' t')
  obtain ⟨l, hl2⟩ := hpre2.terms
  have p5 : Bx.place (macT k t) (macB B' k' t').2.L = some i := by rw [hl2]; exact place_app l p1
  have q1 := Bx.place_some p5
  have q2 := Bx.place_some p3
  rw [q1] at q2
  have q3 := Option.some.inj q2
  unfold macT at q3
  injection q3 with _ e1 e2
  exact ⟨e1, e2⟩
structure Kept (r : Rg) (k t : Nat) (k1 : List UInt8) : Prop where
  ok : RgOk r
  rm : r.room = k
  ep : r.epoch = t + 1
  p32 : ∀ q ∈ r.ks, q.p.length = 32
  lo : t < k → ∃ A c ks, r.ks = ⟨1, A, c, k1⟩ :: ks ∧ ks.length = t
  hi : k ≤ t → r.ks.length = k ∧ ∀ q ∈ r.ks, 1 < q.e
  eslo : t < k → r.ks.map (·.e) = List.range' 1 (t + 1)
  eshi : k ≤ t → r.ks.map (·.e) = List.range' (t + 2 - k) k
theorem Kept.p {r : Rg} {k t : Nat} {k1 : List UInt8} (h : Kept r k t k1) : ∀ q ∈ r.ks, q.p.length ≤ 1000 := fun q hq => by rw [h.p32 q hq]; decide
theorem kept_new {b bx : Nat} {mA : Option Addr} {mc : Nat} {master : List UInt8} {room m : Nat} {A : Option Addr} {c : Nat} {p : List UInt8} (h2 : master.length ≤ 64) (h3 : 1 ≤ room) (h4 : room ≤ 8) (hp : p.length = 32) : Kept ((ring0 b bx mA mc master room m).more A c p).cut room 0 p := by
  have hok : RgOk (ring0 b bx mA mc master room m) := ⟨List.Pairwise.nil, fun k hk => (by cases hk), Nat.zero_le _, h4, h2, by show 0 < 98; decide⟩
  have e : ((ring0 b bx mA mc master room m).more A c p).cut = (ring0 b bx mA mc master room m).more A c p := by
    unfold Rg.cut
    rw [if_neg]
    show ¬ room < 1
    omega
  refine ⟨more_ok hok (by show 0 + 1 < 98; decide), ?_, ?_, ?_, ?_, fun h => absurd h (by omega), fun _ => by rw [e]; rfl, fun h => absurd h (by omega)⟩
  · rw [e]; rfl
  · rw [e]; rfl
  · rw [e]
    intro q hq
    have hq' : q ∈ [(⟨1, A, c, p⟩ : RKey)] := hq
    obtain rfl := List.mem_singleton.1 hq'
    exact hp
  · intro _
    rw [e]
    exact ⟨A, c, [], rfl, rfl⟩
theorem cut_room (r : Rg) : r.cut.room = r.room := by unfold Rg.cut; split <;> rfl
theorem cut_epoch (r : Rg) : r.cut.epoch = r.epoch := by unfold Rg.cut; split <;> rfl
theorem cut_bx (r : Rg) : r.cut.bx = r.bx := by unfold Rg.cut; split <;> rfl
theorem cut_b (r : Rg) : r.cut.b = r.b := by unfold Rg.cut; split <;> rfl
theorem cut_master (r : Rg) : r.cut.master = r.master := by unfold Rg.cut; split <;> rfl
theorem cut_mem {r : Rg} {q : RKey} (h : q ∈ r.cut.ks) : q ∈ r.ks := by
  unfold Rg.cut at h
  split at h
  · exact List.mem_of_mem_tail h
  · exact h
theorem Kept.next {r : Rg} {k t : Nat} {k1 : List UInt8} (h : Kept r k t k1) (hk : 1 ≤ k) (ht : t < 90) {A : Option Addr} {c : Nat} {p : List UInt8} (hp : p.length = 32) : Kept (r.more A c p).cut k (t + 1) k1 := by
  have hrm := h.rm
  have hep := h.ep
  have hlen : (r.more A c p).ks.length = r.ks.length + 1 := by show (r.ks ++ [_]).length = _; rw [List.length_append]; rfl
  have hroom : (r.more A c p).room = k := hrm
  have hme : (r.more A c p).ks.map (·.e) = r.ks.map (·.e) ++ [t + 2] := by show (r.ks ++ [(⟨r.epoch + 1, A, c, p⟩ : RKey)]).map (·.e) = _; rw [List.map_append, hep]; rfl
  refine ⟨more_ok h.ok (by omega), by rw [cut_room]; exact hrm, by rw [cut_epoch]; show r.epoch + 1 = _; omega, ?_, ?_, ?_, ?_, ?_⟩
  · intro q hq
    have hq' : q ∈ r.ks ++ [(⟨r.epoch + 1, A, c, p⟩ : RKey)] := cut_mem hq
    rcases List.mem_append.1 hq' with hq' | hq'
    · exact h.p32 q hq'
    · obtain rfl := List.mem_singleton.1 hq'
      exact hp
  · intro hlt
    obtain ⟨A0, c0, ks, e, hl⟩ := h.lo (by omega)
    have hcut : (r.more A c p).cut = r.more A c p := by
      unfold Rg.cut
      rw [if_neg]
      rw [hlen, e, hroom, List.length_cons]
      omega
    rw [hcut]
    exact ⟨A0, c0, ks ++ [⟨r.epoch + 1, A, c, p⟩], by show r.ks ++ _ = _; rw [e]; rfl, by rw [List.length_append, hl]; rfl⟩
  · intro hge
    have hl : r.ks.length = k := by
      rcases Nat.lt_or_ge t k with hlt | hge2
      · obtain ⟨A0, c0, ks, e, hl⟩ := h.lo hlt
        rw [e, List.length_cons]
        omega
      · exact (h.hi hge2).1
    have hcut : (r.more A c p).cut = { r.more A c p with ks := (r.more A c p).ks.tail } := by
      unfold Rg.cut
      rw [if_pos (by rw [hlen, hroom]; omega)]
    rw [hcut]
    refine ⟨by show (r.more A c p).ks.tail.length = k; rw [List.length_tail, hlen]; omega, fun q hq => ?_⟩
    have hq' : q ∈ (r.ks ++ [(⟨r.epoch + 1, A, c, p⟩ : RKey)]).tail := hq
    have hrise := h.ok.rise
    have hr0 : r.ks ≠ [] := by intro e; rw [e] at hl; simp at hl; omega
    rw [List.tail_append_of_ne_nil hr0] at hq'
    rcases List.mem_append.1 hq' with hq' | hq'
    · rcases Nat.lt_or_ge t k with hlt | hge2
      · obtain ⟨A0, c0, ks, e, hl⟩ := h.lo hlt
        rw [e] at hq' hrise
        rw [List.map_cons, List.pairwise_cons] at hrise
        exact hrise.1 q.e (List.mem_map.2 ⟨q, hq', rfl⟩)
      · exact (h.hi hge2).2 q (List.mem_of_mem_tail hq')
    · obtain rfl := List.mem_singleton.1 hq'
      show 1 < r.epoch + 1
      omega
  · intro hlt
    obtain ⟨A0, c0, ks, e, hl⟩ := h.lo (by omega)
    have hcut : (r.more A c p).cut = r.more A c p := by
      unfold Rg.cut
      rw [if_neg]
      rw [hlen, e, hroom, List.length_cons]
      omega
    rw [hcut, hme, h.eslo (by omega), List.range'_concat (n := t + 1)]
    simp
    omega
  · intro hge
    have hl : r.ks.length = k := by
      rcases Nat.lt_or_ge t k with hlt | hge2
      · obtain ⟨A0, c0, ks, e, hl⟩ := h.lo hlt
        rw [e, List.length_cons]
        omega
      · exact (h.hi hge2).1
    have hcut : (r.more A c p).cut = { r.more A c p with ks := (r.more A c p).ks.tail } := by
      unfold Rg.cut
      rw [if_pos (by rw [hlen, hroom]; omega)]
    rw [hcut]
    show (r.more A c p).ks.tail.map (·.e) = _
    rw [List.map_tail, hme]
    obtain ⟨s, hs, e⟩ : ∃ s, s + k = t + 2 ∧ r.ks.map (·.e) = List.range' s k := by
      rcases Nat.lt_or_ge t k with hlt | hge2
      · obtain rfl : t + 1 = k := by omega
        exact ⟨1, by omega, h.eslo hlt⟩
      · exact ⟨t + 2 - k, by omega, h.eshi hge2⟩
    have e2 : List.range' s k ++ [t + 2] = List.range' s (k + 1) := by
      rw [List.range'_concat]
      simp
      omega
    rw [e, e2, List.range'_succ, List.tail_cons]
    congr 1
    omega
theorem drop_sub {r : Rg} {e : Int} {q : RKey} (h : q ∈ (r.drop e).ks) : q ∈ r.ks := List.mem_of_mem_eraseP h
theorem Kept.key {r : Rg} {k t : Nat} {k1 : List UInt8} (h : Kept r k t k1) (hlt : t < k) : ∃ q, r.key 1 = some q ∧ q.p = k1 := by
  obtain ⟨A, c, ks, e, _⟩ := h.lo hlt
  exact ⟨⟨1, A, c, k1⟩, by unfold Rg.key; rw [e]; rfl, rfl⟩
theorem Kept.gone {r : Rg} {k t : Nat} {k1 : List UInt8} (h : Kept r k t k1) (hge : k ≤ t) : r.key 1 = none := by
  unfold Rg.key
  refine List.find?_eq_none.2 fun q hq => ?_
  have := (h.hi hge).2 q hq
  simp
  omega
end Go.Proofs.YtlhcgofdfhfegaaGreatDoor.Sx

namespace Go.Proofs.YtlhcgofdfhfegaaGreatDoor.Sx
open Go
attribute [local irreducible] Calls
theorem macQ_c (w : World) (b : Nat) (B : Bx.Box) (y : Lay) (K : Option Addr) (key : List UInt8) (cK : Nat) (b0 : Nat) (ps : List Part) (n : Nat) (hn0 : ps.length = n) (hts : y.ts.map (·.1) = B.L) (hi : BInv B) (hL : B.L.length < 4096) (hk : key.length ≤ 1000000) (h0 : ps ≠ []) (hl : ps.length ≤ 1000) (hn : (partsT ps).length ≤ 1000000) (hm : Mem w [bxF b B y, partF (some ⟨b0, 0, none⟩) ps, bsF K key, oddF 4, firstF 1]) :
    Con Tryz.prog n_box_Box_Mac #[ptrB b, .slice K key.length cK, .slice (some ⟨b0, 0, none⟩) n n] w [bxF b B y] (outL (bxF b) (macB B key (partsT ps))) := by
  subst hn0
  exact (macP_c w b B y K key cK b0 ps ps.length hts (by omega) hk h0 (Nat.le_refl _) hl hn hm).mono fun v Fs h => boxOut_L (mac_good hi hL hk hn).2.1 h
theorem signP_c (w : World) (r : Rg) (B : Bx.Box) (y : Lay) (b0 : Nat) (ps : List Part) (n : Nat) (hn0 : ps.length = n) (h0 : ps ≠ []) (hpl : ps.length ≤ 1000) (hp : ∀ k ∈ r.ks, k.p.length ≤ 1000) (hln : (partsT ps).length ≤ 1000000) (hts : y.ts.map (·.1) = B.L) (hi : BInv B) (hL : B.L.length < 4000)
    (hm : Mem w [rgF r, bxF r.bx B y, partF (some ⟨b0, 0, none⟩) ps, oddF 4, firstF 1]) :
    Con Tryz.prog n_ring_Ring_Sign #[ptrR r.b, .slice (some ⟨b0, 0, none⟩) n n] w [rgF r, bxF r.bx B y] (signOut r B (partsT ps)) := by
  have g := good_ring_Ring_Sign w (Un [rgF r, bxF r.bx B y])
  have hs0 : Sat (cx_ring_Ring_Sign w (Un [rgF r, bxF r.bx B y])) Va.z 0 [] [rgF r, bxF r.bx B y, partF (some ⟨b0, 0, none⟩) ps, oddF 4, firstF 1] w := hm.sat0 rfl (ownIn (Gs := [rgF r, bxF r.bx B y]) (fun f hf => by
    simp only [List.mem_cons, List.not_mem_nil, or_false] at hf
    rcases hf with rfl | rfl | rfl <;> rfl))
  refine con_of_sx (cx := cx_ring_Ring_Sign w (Un [rgF r, bxF r.bx B y])) g b_ring_Ring_Sign rfl rfl (β := Va.z) [.c (.v (ptrR r.b)), .c (.v (.slice (some ⟨b0, 0, none⟩) n n))] 0 [] _ rfl rfl hs0 ?_
  refine call_con [] (fun β w' hs => newest_c w' r (hs.get 0 rfl) (hs.getLt 0 rfl) hp) ?_
  unfold newestOut signOut
  cases hk : r.key (r.epoch : Int) with
  | none =>
    rintro v Fs ⟨rfl, rfl⟩
    intro β w' hs
    exact hs.fin [0, 1] ⟨rfl, y, hts, rfl⟩
  | some k =>
    have hm2 : k ∈ r.ks := List.mem_of_find?_eq_some hk
    have hkl := hp k hm2
    rintro v Fs ⟨A, c, rfl, hc, rfl⟩
    refine ⟨.pointer (some ⟨r.bx, 0, none⟩), fun β w' hs => cell_bk (rg_bk (hs.get 1 rfl)) (o := 0) rfl, ?_⟩
    refine call_con [2] (R := outL (bxF r.bx) (macB B k.p (partsT ps))) (fun β w' hs => macQ_c w' r.bx B y A k.p c b0 ps n hn0 hts hi (by omega) (by omega) h0 hpl hln ((hs.ro 0 rfl).mem.take (js := [2, 3, 0, 4, 5]) rfl)) ?_
    rintro v Fs ⟨A2, c2, y2, rfl, q1, q2, hts2, rfl⟩
    intro β w' hs
    exact hs.fin [0, 3, 1] ⟨A2, c2, y2, rfl, q1, hts2, rfl⟩ rfl rfl rfl ⟨rfl, rfl, rfl, trivial⟩
theorem verifyP_c (w : World) (r : Rg) (B : Bx.Box) (y : Lay) (e : Int) (A0 : Option Addr) (s : List UInt8) (cs b0 : Nat) (ps : List Part) (n : Nat) (hn0 : ps.length = n) (h0 : ps ≠ []) (hpl : ps.length ≤ 1000) (hp : ∀ k ∈ r.ks, k.p.length ≤ 1000) (hln : (partsT ps).length ≤ 1000000) (hts : y.ts.map (·.1) = B.L) (hi : BInv B) (hL : B.L.length < 4000)
    (hm : Mem w [rgF r, bxF r.bx B y, partF (some ⟨b0, 0, none⟩) ps, bsF A0 s, oddF 4, firstF 1]) :
    Con Tryz.prog n_ring_Ring_Verify #[ptrR r.b, .int .u64 e, .slice A0 s.length cs, .slice (some ⟨b0, 0, none⟩) n n] w [rgF r, bxF r.bx B y] (verOut r B e s (partsT ps)) := by
  have g := good_ring_Ring_Verify w (Un [rgF r, bxF r.bx B y])
  have hs0 : Sat (cx_ring_Ring_Verify w (Un [rgF r, bxF r.bx B y])) Va.z 0 [] [rgF r, bxF r.bx B y, partF (some ⟨b0, 0, none⟩) ps, bsF A0 s, oddF 4, firstF 1] w := hm.sat0 rfl (ownIn (Gs := [rgF r, bxF r.bx B y]) (fun f hf => by
    simp only [List.mem_cons, List.not_mem_nil, or_false] at hf
    rcases hf with rfl | rfl | rfl | rfl <;> rfl))
  refine con_of_sx (cx := cx_ring_Ring_Verify w (Un [rgF r, bxF r.bx B y])) g b_ring_Ring_Verify rfl rfl (β := Va.z) [.c (.v (ptrR r.b)), .c (.v (.int .u64 e)), .c (.v (.slice A0 s.length cs)), .c (.v (.slice (some ⟨b0, 0, none⟩) n n))] 0 [] _ rfl rfl hs0 ?_
  refine call_con [] (fun β w' hs => key_c w' r e (hs.get 0 rfl) (hs.getLt 0 rfl) hp) ?_
  unfold verOut
  cases hk : r.key e with
  | none =>
    rintro v Fs ⟨rfl, rfl⟩
    intro β w' hs
    exact hs.fin [0, 1] ⟨rfl, y, hts, rfl⟩
  | some k =>
    have hm2 : k ∈ r.ks := List.mem_of_find?_eq_some hk
    have hkl := hp k hm2
    have hG := mac_good hi (by omega) (k := k.p) (t := partsT ps) (by omega) hln
    rintro v Fs ⟨A, c, rfl, hc, rfl⟩
    refine ⟨.pointer (some ⟨r.bx, 0, none⟩), fun β w' hs => cell_bk (rg_bk (hs.get 1 rfl)) (o := 0) rfl, ?_⟩
    refine call_con [2] (R := outL (bxF r.bx) (macB B k.p (partsT ps))) (fun β w' hs => macQ_c w' r.bx B y A k.p c b0 ps n hn0 hts hi (by omega) (by omega) h0 hpl hln ((hs.ro 0 rfl).mem.take (js := [2, 3, 0, 5, 6]) rfl)) ?_
    rintro v Fs ⟨A2, c2, y2, rfl, q1, q2, hts2, rfl⟩
    have hl32 := hG.2.1
    obtain ⟨bb, hbb⟩ : ∃ bb, decide ((macB B k.p (partsT ps)).1 = s) = bb := ⟨_, rfl⟩
    refine call_pu (v := .bool bb) (fun β w' hs => by rw [← hbb]; exact equal_c w' A2 A0 (macB B k.p (partsT ps)).1 s c2 cs (row_rd (hs.get 0 rfl)) (hs.get 5 rfl) (by omega)) ?_
    cases bb with
    | true =>
      have hq := of_decide_eq_true hbb
      intro β w' hs
      exact hs.fin [3, 1] ⟨by rw [if_pos hq]; rfl, y2, hts2, rfl⟩
    | false =>
      have hq := of_decide_eq_false hbb
      intro β w' hs
      exact hs.fin [3, 1] ⟨by rw [if_neg hq]; rfl, y2, hts2, rfl⟩
theorem signB_c (w : World) (bx : Nat) (r : Rg) (hb : r.bx = bx) (q : RKey) (hk : r.key (r.epoch : Int) = some q) (B : Bx.Box) (y : Lay) (b0 : Nat) (ps : List Part) (n : Nat) (hn0 : ps.length = n) (h0 : ps ≠ []) (hpl : ps.length ≤ 1000) (hp : ∀ k ∈ r.ks, k.p.length ≤ 1000) (hln : (partsT ps).length ≤ 1000000) (hts : y.ts.map (·.1) = B.L) (hi : BInv B) (hL : B.L.length < 4000)
    (hm : Mem w [rgF r, bxF bx B y, partF (some ⟨b0, 0, none⟩) ps, oddF 4, firstF 1]) :
    Con Tryz.prog n_ring_Ring_Sign #[ptrR r.b, .slice (some ⟨b0, 0, none⟩) n n] w [rgF r, bxF bx B y] fun v Fs => ∃ A c y', v = .tuple #[.int .u64 (r.epoch : Int), .slice A (macB B q.p (partsT ps)).1.length c, .int .i64 0] ∧ (macB B q.p (partsT ps)).1.length ≤ c ∧ y'.ts.map (·.1) = (macB B q.p (partsT ps)).2.L ∧ Fs = [browF ty_uint8 A (macB B q.p (partsT ps)).1 c, rgF r, bxF bx (macB B q.p (partsT ps)).2 y'] := by
  subst hb
  refine (signP_c w r B y b0 ps n hn0 h0 hpl hp hln hts hi hL hm).mono fun v Fs h => ?_
  unfold signOut at h
  rw [hk] at h
  exact h
theorem verB_c (w : World) (bx : Nat) (r : Rg) (hb : r.bx = bx) (e : Int) (q : RKey) (hk : r.key e = some q) (B : Bx.Box) (y : Lay) (A0 : Option Addr) (s : List UInt8) (cs b0 : Nat) (ps : List Part) (n : Nat) (code : Int) (hn0 : ps.length = n) (h0 : ps ≠ []) (hpl : ps.length ≤ 1000) (hp : ∀ k ∈ r.ks, k.p.length ≤ 1000) (hln : (partsT ps).length ≤ 1000000) (hts : y.ts.map (·.1) = B.L) (hi : BInv B) (hL : B.L.length < 4000)
    (hcode : (if (macB B q.p (partsT ps)).1 = s then 0 else 13) = code)
    (hm : Mem w [rgF r, bxF bx B y, partF (some ⟨b0, 0, none⟩) ps, bsF A0 s, oddF 4, firstF 1]) :
    Con Tryz.prog n_ring_Ring_Verify #[ptrR r.b, .int .u64 e, .slice A0 s.length cs, .slice (some ⟨b0, 0, none⟩) n n] w [rgF r, bxF bx B y] fun v Fs => v = .int .i64 code ∧ ∃ y', y'.ts.map (·.1) = (macB B q.p (partsT ps)).2.L ∧ Fs = [rgF r, bxF bx (macB B q.p (partsT ps)).2 y'] := by
  subst hb
  refine (verifyP_c w r B y e A0 s cs b0 ps n hn0 h0 hpl hp hln hts hi hL hm).mono fun v Fs h => ?_
  unfold verOut at h
  rw [← hcode]
  rw [hk] at h
  exact h
theorem verNo_c (w : World) (bx : Nat) (r : Rg) (hb : r.bx = bx) (e : Int) (hk : r.key e = none) (B : Bx.Box) (y : Lay) (A0 : Option Addr) (s : List UInt8) (cs b0 : Nat) (ps : List Part) (n : Nat) (hn0 : ps.length = n) (h0 : ps ≠ []) (hpl : ps.length ≤ 1000) (hp : ∀ k ∈ r.ks, k.p.length ≤ 1000) (hln : (partsT ps).length ≤ 1000000) (hts : y.ts.map (·.1) = B.L) (hi : BInv B) (hL : B.L.length < 4000)
    (hm : Mem w [rgF r, bxF bx B y, partF (some ⟨b0, 0, none⟩) ps, bsF A0 s, oddF 4, firstF 1]) :
    Con Tryz.prog n_ring_Ring_Verify #[ptrR r.b, .int .u64 e, .slice A0 s.length cs, .slice (some ⟨b0, 0, none⟩) n n] w [rgF r, bxF bx B y] fun v Fs => v = .int .i64 15 ∧ ∃ y', y'.ts.map (·.1) = B.L ∧ Fs = [rgF r, bxF bx B y'] := by
  subst hb
  refine (verifyP_c w r B y e A0 s cs b0 ps n hn0 h0 hpl hp hln hts hi hL hm).mono fun v Fs h => ?_
  unfold verOut at h
  rw [hk] at h
  exact h
theorem two_parts (A B : Option Addr) (l m : List UInt8) (c d : Nat) : partsT [(A, l, c), (B, m, d)] = l ++ m := by simp [partsT]
structure Dk where
  b : Nat
  rb : Nat
  life : Nat
  serial : Nat
  m1 : Nat
  m2 : Nat
  to : MLI
  rv : MLI
def Dk.vs (d : Dk) : List Value := [ptrR d.rb, .int .u64 (d.life : Int), .int .u64 (d.serial : Int), .map (some d.m1), .map (some d.m2)]
def dkF (d : Dk) : Fact := sepF [bkF d.b ty_ticket_Desk d.vs, mapIF .u64 d.m1 d.to, mapIF .u64 d.m2 d.rv]
def ptrD (b : Nat) : Value := .pointer (some ⟨b, 0, none⟩)
theorem dk_bk {d : Dk} {w : World} (h : (dkF d).p w) : (bkF d.b ty_ticket_Desk d.vs).p w := h.1 _ (by simp)
theorem dk_to {d : Dk} {w : World} (h : (dkF d).p w) : mapIP .u64 d.m1 d.to w := h.1 (mapIF .u64 d.m1 d.to) (by simp)
theorem dk_rv {d : Dk} {w : World} (h : (dkF d).p w) : mapIP .u64 d.m2 d.rv w := h.1 (mapIF .u64 d.m2 d.rv) (by simp)
theorem newDesk_c (w : World) (rb life : Nat) : Con Tryz.prog n_ticket_NewDesk #[ptrR rb, .int .u64 (life : Int)] w [] fun v Fs => (1 ≤ life ∧ life ≤ 1099511627776 ∧ ∃ b m1 m2, v = .tuple #[ptrD b, .int .i64 0] ∧ Fs = [dkF ⟨b, rb, life, 0, m1, m2, [], []⟩]) ∨ (¬ (1 ≤ life ∧ life ≤ 1099511627776) ∧ v = .tuple #[.pointer none, .int .i64 1] ∧ Fs = []) := by
  have g := good_ticket_NewDesk w (Un [])
  refine con_of_sx (cx := cx_ticket_NewDesk w (Un [])) g b_ticket_NewDesk rfl rfl (β := Va.z) [.c (.v (ptrR rb)), .c (.v (.int .u64 (life : Int)))] 0 [] [] rfl rfl (Sat.start rfl) ?_
  refine BIf.dec (fun h1 => ?_) (fun h1 => ?_)
  · have h10 : (life : Int) < 1 := h1
    intro β w' hs
    exact hs.fin [] (.inr ⟨by omega, rfl, rfl⟩)
  have h10 : ¬ (life : Int) < 1 := h1
  refine BIf.dec (fun h2 => ?_) (fun h2 => ?_)
  · have h20 : (life : Int) > 1099511627776 := h2
    intro β w' hs
    exact hs.fin [] (.inr ⟨by omega, rfl, rfl⟩)
  have h20 : ¬ (life : Int) > 1099511627776 := h2
  intro b1 b2 β w' hs
  have k1 := (((hs.emptyI (kk := .u64) 0 rfl).emptyI (kk := .u64) 1 rfl).ofBk).sep [0, 2, 1] rfl ⟨rfl, rfl, rfl, trivial⟩
  exact k1.fin [0] (.inl ⟨by omega, by omega, β 0, b1, b2, rfl, rfl⟩)
def revD (d : Dk) (s : Int) : Int × Dk := if ilook d.to s = none then (6, d) else if ilook d.rv s = none then (0, { d with rv := iput d.rv s (.bool true) }) else (10, d)
theorem zeroU64 (w : World) : (zeroValue ty_uint64).run Tryz.prog w = .ok (.int .u64 0) w := by kernel_rfl
theorem zeroBoo (w : World) : (zeroValue ty_bool).run Tryz.prog w = .ok (.bool false) w := by kernel_rfl
theorem tkRevoke_c (w : World) (d : Dk) (s : Nat) (hrv : ∀ v, ilook d.rv (s : Int) = some v → v = .bool true) (hm : Mem w [dkF d]) : Con Tryz.prog n_ticket_Desk_Revoke #[ptrD d.b, .int .u64 (s : Int)] w [dkF d] fun v Fs => v = .int .i64 (revD d s).1 ∧ Fs = [dkF (revD d s).2] := by
  have g := good_ticket_Desk_Revoke w (Un [dkF d])
  refine con_go (cx := cx_ticket_Desk_Revoke w (Un [dkF d])) g b_ticket_Desk_Revoke [.c (.v (ptrD d.b)), .c (.v (.int .u64 (s : Int)))] [] hm ?_
  refine ⟨.map (some d.m1), fun β w' hs => cell_bk (dk_bk (hs.get 0 rfl)) (o := 3) rfl, ?_⟩
  refine ⟨rfl, .int .u64 0, zeroU64, d.to, ilook d.to (s : Int), fun β w' hs => dk_to (hs.get 0 rfl), rfl, ?_⟩
  unfold revD
  cases h1 : ilook d.to (s : Int) with
  | none =>
    intro β w' hs
    exact hs.fin [0] ⟨rfl, rfl⟩
  | some v1 =>
  refine ⟨.map (some d.m2), fun β w' hs => cell_bk (dk_bk (hs.get 0 rfl)) (o := 4) rfl, ?_⟩
  refine ⟨rfl, .bool false, zeroBoo, d.rv, ilook d.rv (s : Int), fun β w' hs => dk_rv (hs.get 0 rfl), rfl, ?_⟩
  cases h2 : ilook d.rv (s : Int) with
  | some v2 =>
    obtain rfl := hrv v2 h2
    intro β w' hs
    exact hs.fin [0] ⟨rfl, rfl⟩
  | none =>
  refine ⟨.map (some d.m2), fun β w' hs => cell_bk (dk_bk (hs.get 0 rfl)) (o := 4) rfl, ?_⟩
  refine ⟨[], fun _ => [dkF { d with rv := iput d.rv (s : Int) (.bool true) }], fun β w' hs => ?_, fun _ => ?_⟩
  · obtain ⟨w2, f1, f2⟩ := (hs.unsep 0 rfl).mapPutI g 2 rfl (t := ty_map_uint64_bool) (s : Int) (.bool true)
    exact ⟨w2, 0, f1, f2.sep [0, 1, 2] rfl ⟨rfl, rfl, rfl, trivial⟩⟩
  · intro β w' hs
    exact hs.fin [0] ⟨rfl, rfl⟩
def labL : List UInt8 := [116, 105, 99, 107, 101, 116, 32]
def Tk.v (t : Tk) : Value := .agg t.cells.toArray
noncomputable def openT (ky : Int → Option (List UInt8)) (gone : Int → Bool) (B : Bx.Box) (s : List UInt8) (now : Nat) : Tk × Int × Bx.Box :=
  match splitT s with
  | (none, e) => (tk0, e, B)
  | (some (b, m), _) => match readT b with
    | none => (tk0, 4, B)
    | some t => match ky (t.epoch : Int) with
      | none => (tk0, 15, B)
      | some k => if (macB B k (labL ++ b)).1 = m then (if now < t.fro ∨ t.til ≤ now then (tk0, 9, (macB B k (labL ++ b)).2) else if gone (t.serial : Int) = true then (tk0, 16, (macB B k (labL ++ b)).2) else (t, 0, (macB B k (labL ++ b)).2)) else (tk0, 13, (macB B k (labL ++ b)).2)
def Rg.ky (r : Rg) (e : Int) : Option (List UInt8) := (r.key e).map (·.p)
def Dk.gone (d : Dk) (s : Int) : Bool := (ilook d.rv s).isSome
def opnOut (r : Rg) (d : Dk) (q : Tk × Int × Bx.Box) (v : Value) (Fs : List Fact) : Prop := ∃ y', y'.ts.map (·.1) = q.2.2.L ∧ v = .tuple #[q.1.v, .int .i64 q.2.1] ∧ Fs = [dkF d, rgF r, bxF r.bx q.2.2 y']
def q_opn_8 : Plan := .take 0 (.take 1 (.take 2 (.take 3 (.take 4 (.take 5 (.take 6 (.take 9 (.exec 7 (.exec 8 (.exec 10 (.exec 11 (.take 12 (.done)))))))))))))
theorem tkOpen_c (w : World) (d : Dk) (r : Rg) (B : Bx.Box) (y : Lay) (s : List UInt8) (now : Nat) (hL : s.length ≤ 100000) (hrb : d.rb = r.b) (hp : ∀ k ∈ r.ks, k.p.length ≤ 1000) (hts : y.ts.map (·.1) = B.L) (hi : BInv B) (hBL : B.L.length < 4000) (hrv : ∀ k v, ilook d.rv k = some v → v = .bool true) 
    (hm : Mem w [dkF d, rgF r, bxF r.bx B y, oddF 4, firstF 1, mlF, namF]) :
    Con Tryz.prog n_ticket_Desk_Open #[ptrD d.b, .string (mkS s), .int .u64 (now : Int)] w [dkF d, rgF r, bxF r.bx B y] (opnOut r d (openT r.ky d.gone B s now)) := by
  have g := good_ticket_Desk_Open w (Un [dkF d, rgF r, bxF r.bx B y])
  refine con_go (cx := cx_ticket_Desk_Open w (Un [dkF d, rgF r, bxF r.bx B y])) g b_ticket_Desk_Open [.c (.v (ptrD d.b)), .c (.v (.string (mkS s))), .c (.v (.int .u64 (now : Int)))] [oddF 4, firstF 1, mlF, namF] hm ?_
  refine call_con [] (fun β w' hs => tkSplit_c w' s (by omega) (hs.get 5 rfl)) ?_
  unfold openT
  rintro v Fs (⟨b, m, A, c, M, dm, hsp, hbl, hm32, rfl, hc, hdm, rfl⟩ | ⟨e, hsp, he, rfl, rfl⟩)
  rotate_left
  · rw [hsp]
    have he0 : ¬ e = 0 := by omega
    refine BIf.not (BIf.dec (fun q => absurd q he0) (fun _ => ?_))
    intro β w' hs
    exact (hs.keepB (List.nil_sublist _)).fin [0, 1, 2] ⟨y, hts, rfl, rfl⟩ rfl rfl rfl ⟨rfl, rfl, rfl, trivial⟩
  rw [hsp]
  refine call_con [] (fun β w' hs => tkRead_c w' A b c hc (namF_T (hs.get 8 rfl)) (row_rd (hs.get 0 rfl))) ?_
  rintro v Fs ⟨⟨t, hrd, hok, rfl⟩ | ⟨hrd, rfl⟩, rfl⟩
  rotate_left
  · simp only [hrd]
    intro β w' hs
    exact (hs.keepB (List.nil_sublist _)).fin [2, 3, 4] ⟨y, hts, rfl, rfl⟩ rfl rfl rfl ⟨rfl, rfl, rfl, trivial⟩
  simp only [hrd]
  refine draw_rule g q_opn_8 (by kernel_rfl) [⟨1, ty_ticket_Ticket, t.cells.map SL.v⟩, ⟨0, ty_ticket_Ticket, tk0.cells.map SL.v⟩] [dkF d] (subPerm [2]) ?_
  refine ⟨ptrR d.rb, fun β w' hs => cell_bk (dk_bk (hs.get 0 rfl)) (o := 0) rfl, ?_⟩
  intro b1
  refine ⟨subPerm [3], ?_⟩
  refine ⟨0, labL.map byte, rfl, ?_⟩
  refine ⟨subPerm [3], ?_⟩
  intro b2
  refine ⟨subPerm [4], ?_⟩
  have hkk : r.ky (t.epoch : Int) = (r.key (t.epoch : Int)).map (·.p) := rfl
  rw [hkk]
  have hlb : (labL ++ b).length ≤ 1000000 := by rw [List.length_append]; show 7 + _ ≤ _; omega
  cases hk : r.key (t.epoch : Int) with
  | none =>
    refine call_con [5, 6] (fun β w' hs => by
      have h := (((hs.rowRd 0 rfl).rowRd 2 rfl).rowRd 3 rfl).part2 (P := some ⟨b2, 0, none⟩) (A := some ⟨b1, 0, none⟩) (l := labL) (c := 7) (B := A) (m := b) (d := c) [0, 1, 2] rfl
      have h2 := verNo_c w' r.bx r rfl (t.epoch : Int) hk B y M m dm b2 [(some ⟨b1, 0, none⟩, labL, 7), (A, b, c)] 2 rfl (by simp) (by show 2 ≤ 1000; decide) hp (by rw [two_parts]; exact hlb) hts hi (by omega) (h.mem.take (js := [6, 7, 0, 4, 8, 9]) rfl)
      rw [← hrb] at h2
      exact h2) ?_
    rintro v Fs ⟨rfl, y2, hy2, rfl⟩
    refine ⟨subPerm [6], ?_⟩
    intro β w' hs
    exact (hs.keepB (List.nil_sublist _)).fin [6, 0, 1] ⟨y2, hy2, rfl, rfl⟩ rfl rfl rfl ⟨rfl, rfl, rfl, trivial⟩
  | some k =>
  have hop : Option.map (fun x : RKey => x.p) (some k) = some k.p := rfl
  rw [hop]
  simp only
  by_cases hq : (macB B k.p (labL ++ b)).1 = m
  · rw [if_pos hq]
    refine call_con [5, 6] (fun β w' hs => by
      have h := (((hs.rowRd 0 rfl).rowRd 2 rfl).rowRd 3 rfl).part2 (P := some ⟨b2, 0, none⟩) (A := some ⟨b1, 0, none⟩) (l := labL) (c := 7) (B := A) (m := b) (d := c) [0, 1, 2] rfl
      have h2 := verB_c w' r.bx r rfl (t.epoch : Int) k hk B y M m dm b2 [(some ⟨b1, 0, none⟩, labL, 7), (A, b, c)] 2 0 rfl (by simp) (by show 2 ≤ 1000; decide) hp (by rw [two_parts]; exact hlb) hts hi (by omega) (by rw [two_parts]; exact if_pos hq) (h.mem.take (js := [6, 7, 0, 4, 8, 9]) rfl)
      rw [← hrb, two_parts] at h2
      exact h2) ?_
    rintro v Fs ⟨rfl, y2, hy2, rfl⟩
    refine ⟨subPerm [6], ?_⟩
    refine BIf.dec (fun h1 => ?_) (fun h1 => ?_)
    · have h10 : (now : Int) < (t.fro : Int) := h1
      rw [if_pos (.inl (by omega))]
      intro β w' hs
      exact (hs.keepB (List.nil_sublist _)).fin [6, 0, 1] ⟨y2, hy2, rfl, rfl⟩ rfl rfl rfl ⟨rfl, rfl, rfl, trivial⟩
    have h10 : ¬ (now : Int) < (t.fro : Int) := h1
    refine BIf.dec (fun h2 => ?_) (fun h2 => ?_)
    · have h20 : (now : Int) ≥ (t.til : Int) := h2
      rw [if_pos (.inr (by omega))]
      intro β w' hs
      exact (hs.keepB (List.nil_sublist _)).fin [6, 0, 1] ⟨y2, hy2, rfl, rfl⟩ rfl rfl rfl ⟨rfl, rfl, rfl, trivial⟩
    have h20 : ¬ (now : Int) ≥ (t.til : Int) := h2
    rw [if_neg (by omega)]
    refine draw_rule g p_ticket_Desk_Open_13 (by kernel_rfl) [⟨1, ty_ticket_Ticket, t.cells.map SL.v⟩, ⟨0, ty_ticket_Ticket, tk0.cells.map SL.v⟩] [dkF d] (subPerm [6]) ?_
    refine ⟨.map (some d.m2), fun β w' hs => cell_bk (dk_bk (hs.get 0 rfl)) (o := 4) rfl, ?_⟩
    refine ⟨rfl, .bool false, zeroBoo, d.rv, ilook d.rv (t.serial : Int), fun β w' hs => dk_rv (hs.get 0 rfl), rfl, ?_⟩
    unfold Dk.gone
    cases h3 : ilook d.rv (t.serial : Int) with
    | some v2 =>
      obtain rfl := hrv _ v2 h3
      intro β w' hs
      exact (hs.keepB (List.nil_sublist _)).fin [6, 0, 1] ⟨y2, hy2, rfl, rfl⟩ rfl rfl rfl ⟨rfl, rfl, rfl, trivial⟩
    | none =>
      intro β w' hs
      exact (hs.keepB (List.nil_sublist _)).fin [6, 0, 1] ⟨y2, hy2, rfl, rfl⟩ rfl rfl rfl ⟨rfl, rfl, rfl, trivial⟩
  · rw [if_neg hq]
    refine call_con [5, 6] (fun β w' hs => by
      have h := (((hs.rowRd 0 rfl).rowRd 2 rfl).rowRd 3 rfl).part2 (P := some ⟨b2, 0, none⟩) (A := some ⟨b1, 0, none⟩) (l := labL) (c := 7) (B := A) (m := b) (d := c) [0, 1, 2] rfl
      have h2 := verB_c w' r.bx r rfl (t.epoch : Int) k hk B y M m dm b2 [(some ⟨b1, 0, none⟩, labL, 7), (A, b, c)] 2 13 rfl (by simp) (by show 2 ≤ 1000; decide) hp (by rw [two_parts]; exact hlb) hts hi (by omega) (by rw [two_parts]; exact if_neg hq) (h.mem.take (js := [6, 7, 0, 4, 8, 9]) rfl)
      rw [← hrb, two_parts] at h2
      exact h2) ?_
    rintro v Fs ⟨rfl, y2, hy2, rfl⟩
    refine ⟨subPerm [6], ?_⟩
    intro β w' hs
    exact (hs.keepB (List.nil_sublist _)).fin [6, 0, 1] ⟨y2, hy2, rfl, rfl⟩ rfl rfl rfl ⟨rfl, rfl, rfl, trivial⟩
def insTri (A : Option Addr) (p : List UInt8) (pre : List (List UInt8)) (x : List UInt8) (args : Array Value) (X : Fact) : Prop := ∃ A', args = #[.slice A' x.length x.length] ∧ X = noF ∧ Lies A A' p x ∧ (triL p)[pre.length]? = some x
def triEnd (L : List (List UInt8)) (J Jx : List (List UInt8) → Fact → Prop) (Fs : List Fact) : Prop :=
  ∃ f Fs', Fs = f :: Fs' ∧ ((∃ xs, J xs f ∧ xs = L ∧ Fs' = []) ∨ (∃ pre, Jx pre f ∧ Fs' = []))
theorem tri_it (l : Nat) (w : World) (bs : Nat) (A : Option Addr) (p : List UInt8) (c : Nat) (hc : p.length ≤ c) (hL : p.length ≤ 1000000) (f0 R : Fact) (J Jx : List (List UInt8) → Fact → Prop) (hJ0 : J [] f0) (hJo : ∀ pre f, J pre f → f.own = true) (hRo : R.own = false) (hY : Yc Tryz.prog l J Jx R (insTri A p))
    (hm : Mem w (f0 :: R :: [bkF bs ty_sl_uint8 [.slice A p.length c]])) :
    Con Tryz.prog n_b64_triples_1 #[.func (.yield l) #[] #[], .pointer (some ⟨bs, 0, none⟩)] w [f0, bkF bs ty_sl_uint8 [.slice A p.length c]] (fun _ Fs => triEnd (triL p) J Jx Fs) := by
  have g := good_b64_triples_1 w (Un [f0, bkF bs ty_sl_uint8 [.slice A p.length c]]) [bs]
  have hs0 : Sat (cx_b64_triples_1 w (Un [f0, bkF bs ty_sl_uint8 [.slice A p.length c]]) [bs]) (Va.of fun i => [bs].getD i 0) 1 [] (f0 :: R :: [bkF bs ty_sl_uint8 [.slice A p.length c]]) w := by
    refine hm.sat rfl (fun f hf ho k hk => ?_) ⟨Nat.le_refl 1, fun i _ => rfl⟩
    simp only [List.mem_cons, List.not_mem_nil, or_false] at hf
    rcases hf with rfl | rfl | rfl
    · exact ⟨_, by simp, hk⟩
    · rw [hRo] at ho; cases ho
    · exact ⟨bkF bs ty_sl_uint8 [.slice A p.length c], by simp, hk⟩
  have hs1 := hs0.toBk 2 rfl 0 (by decide) rfl
  refine con_of_sx (cx := cx_b64_triples_1 w (Un [f0, bkF bs ty_sl_uint8 [.slice A p.length c]]) [bs]) g b_b64_triples_1 rfl rfl (β := Va.of fun i => [bs].getD i 0) [.c (.v (.func (.yield l) #[] #[])), .c (.p 0 0)] 1 _ _ rfl rfl hs1 ?_
  refine loop_rule (ι := (List UInt8 × Option Addr × Nat) × List (List UInt8) × Fact) 1 (fun i => [(0, .c (.v (.func (.yield l) #[] #[]))), (1, .c (.p 0 0))]) (fun i => [⟨0, ty_sl_uint8, [.v (.slice i.1.2.1 i.1.1.length i.1.2.2)]⟩]) (fun i => [i.2.2, R])
    (fun i => J i.2.1 i.2.2 ∧ triL p = i.2.1 ++ triL i.1.1 ∧ Lies A i.1.2.1 p i.1.1 ∧ i.1.1.length ≤ i.1.2.2 ∧ i.1.1.length ≤ 1000000) (fun i => i.1.1.length) ((p, A, c), [], f0) ⟨hJ0, rfl, Lies.refl A p, hc, hL⟩ (Ent.mk' ⟨rfl, rfl, trivial⟩ rfl (fun β w' hs => hs)) g ?_
  rintro ⟨⟨r, B, d⟩, pre, f⟩ ⟨hJ, hpre, hin, hrd, hrl⟩
  simp only at hJ hpre hin hrd hrl
  have hfo := hJo _ _ hJ
  simp only
  by_cases hr : r = []
  · subst hr
    rw [show triL [] = [] from rfl, List.append_nil] at hpre
    intro β w' hs
    exact (hs.keepB (List.nil_sublist _)).fin [0] ⟨f, _, rfl, .inl ⟨pre, hJ, hpre.symm, rfl⟩⟩ rfl rfl rfl ⟨hfo, trivial⟩
  have hr0 : 0 < r.length := List.length_pos_iff.2 hr
  obtain ⟨m, hm⟩ : ∃ m : Nat, m = min r.length 3 := ⟨_, rfl⟩
  have hmt : r.take m = r.take 3 := by
    rcases Nat.le_total r.length 3 with h | h
    · rw [hm, Nat.min_eq_left h, List.take_length, List.take_of_length_le h]
    · rw [hm, Nat.min_eq_right h]
  have hmd : r.drop m = r.drop 3 := by
    rcases Nat.le_total r.length 3 with h | h
    · rw [hm, Nat.min_eq_left h, List.drop_length, List.drop_of_length_le h]
    · rw [hm, Nat.min_eq_right h]
  have hml : (r.take 3).length = m := by rw [← hmt, List.length_take]; omega
  have hdl : (r.drop 3).length = r.length - m := by rw [← hmd, List.length_drop]
  refine BIf.dec (fun _ => ?_) (fun h => absurd (show (0 : Int) < (r.length : Int) by omega) h)
  refine ⟨(m : Int), by show min _ _ = _; omega, ?_⟩
  refine ⟨m, m, 0, m, m, B, rfl, rfl, rfl, by omega, by omega, Nat.zero_le _, rfl, rfl, cutZ, ?_⟩
  have hLx : (triL p)[pre.length]? = some (r.take 3) := by
    rw [hpre, tri_next hr, List.getElem?_append_right (Nat.le_refl _), Nat.sub_self]
    rfl
  refine yield_ro (X := noF) (x := r.take 3) hY 0 1 rfl hJ hfo rfl hRo (by decide) (fun β => ⟨B, by rw [hml]; rfl, rfl, hin.trans (hmt ▸ Lies.take B r m), hLx⟩) rfl (fun β w _ => ⟨trivial, fun k hk => hk.elim, fun k _ h => h.elim⟩) ?_ ?_
  · intro f2 hfo2 hJ2
    refine ⟨d, r.length, m, r.length - m, d - m, _, rfl, rfl, rfl, by omega, by omega, by omega, rfl, rfl, rfl, ?_⟩
    refine ⟨((r.drop 3, cutA B d m 1, d - m), pre ++ [r.take 3], f2), ⟨hJ2, ?_, hin.trans (hmd ▸ Lies.drop hrd (by omega)), by show (r.drop 3).length ≤ d - m; omega, by show (r.drop 3).length ≤ _; omega⟩, by show (r.drop 3).length < r.length; omega, ?_⟩
    · show triL p = (pre ++ [r.take 3]) ++ triL (r.drop 3)
      rw [hpre, tri_next hr, List.append_assoc]
      rfl
    · simp only [hdl]
      exact Ent.mk' ⟨rfl, rfl, trivial⟩ rfl (fun β w' hs => hs.perm [0, 1])
  · intro f2 hfo2 hJ2 β w' hs
    exact (hs.keepB (List.nil_sublist _)).fin [0] ⟨f2, _, rfl, .inr ⟨_, hJ2, rfl⟩⟩ rfl rfl rfl ⟨hfo2, trivial⟩
theorem triples_c (w : World) (A : Option Addr) (n c : Nat) : Con Tryz.prog n_b64_triples #[.slice A n c] w [] (fun v Fs => ∃ bs, v = .func (.func n_b64_triples_1) #[] #[.pointer (some ⟨bs, 0, none⟩)] ∧ Fs = [bkF bs ty_sl_uint8 [.slice A n c]]) := by
  refine con_of_sx (cx := cx_b64_triples w (Un [])) (good_b64_triples w (Un [])) b_b64_triples rfl rfl (β := Va.z) [.c (.v (.slice A n c))] 0 [] [] rfl rfl (Sat.start rfl) ?_
  intro β w' hs
  exact hs.ofBk.fin [0] ⟨β 0, rfl, rfl⟩
theorem sizeB : (Tryz.prog.info? ty_strings_Builder).map (·.size) = some 2 := by kernel_rfl
theorem liesB : liesAt Tryz.prog Tryz.prog.depth ty_strings_Builder (2 / Tryz.prog.cellsOf ty_strings_Builder) 0 ty_strings_Builder 1 = true := by kernel_rfl
set_option maxHeartbeats 1000000 in
set_option maxRecDepth 100000 in
theorem cck_used (b : Nat) (w : World) (h0 : w.cell? ⟨b, 0, none⟩ = some (.pointer (some ⟨b, 0, none⟩))) :
    Calls Tryz.prog 140 #[.pointer (some ⟨b, 0, none⟩)] w fun e w' => e = .returned (.tuple #[]) ∧ w' = w := by
  obtain ⟨j, hj, _⟩ := Option.map_eq_some_iff.1 sizeB
  have t70 := Tryz.underlying182
  go_enter Tryz.func140, Tryz.ntmps140
  go_wp2
  rw [Lib.run_neq_ptr_same w _ t70 hj]
  go_wp2
  go_end0
  exact ⟨rfl, rfl⟩
set_option maxHeartbeats 1000000 in
set_option maxRecDepth 100000 in
theorem cck_fresh (b : Nat) (w : World) (h0 : w.cell? ⟨b, 0, none⟩ = some (.pointer none)) (hsh : w.shape? b = some (ty_strings_Builder, 2)) (hfz : w.frozen? ⟨b, 0, none⟩ = false) :
    Calls Tryz.prog 140 #[.pointer (some ⟨b, 0, none⟩)] w fun e w' => e = .returned (.tuple #[]) ∧ w' = w.setCell ⟨b, 0, none⟩ (.pointer (some ⟨b, 0, none⟩)) := by
  obtain ⟨j, hj, hjs⟩ := Option.map_eq_some_iff.1 sizeB
  have t70 := Tryz.underlying182
  have t164 := Tryz.underlying252
  go_enter Tryz.func140, Tryz.ntmps140
  go_wp2
  rw [Lib.run_to_unsafe w ⟨b, 0, none⟩ t70 t164 hj (by rw [hjs]; decide) hsh (Nat.zero_lt_succ 1)]
  simp only [Result.andThen]
  rw [Oper.upon_value]
  go_wp2
  rw [run_callFunc_extern Tryz.func176 (by kernel_rfl) (by kernel_rfl) (by kernel_rfl) (e := Extern.AbiNoEscape.same) (by kernel_rfl)]
  rw [Lib.run_noEscape]
  simp only [Result.andThen]
  rw [Oper.upon_value]
  go_wp2
  rw [Lib.run_from_unsafe w ⟨b, 0, none⟩ t164 t70 hj hsh liesB]
  simp only [Result.andThen]
  rw [Oper.upon_value]
  go_wp2
  go_end0
  exact ⟨rfl, rfl⟩
theorem copyCheckW_c (w : World) (b : Nat) (p x : Value) (hp : p = .pointer none ∨ p = selfV b) (h : (bkF b ty_strings_Builder [p, x]).p w) :
    Con Tryz.prog n_strings_Builder_copyCheck #[selfV b] w [bkF b ty_strings_Builder [p, x]] fun v Fs => v = .tuple #[] ∧ Fs = [bkF b ty_strings_Builder [selfV b, x]] := by
  have hb : w.heap[b]? = some (.cells #[p, x] ty_strings_Builder (0, 0)) := h
  have hlt : b < w.heap.size := (Array.getElem?_eq_some_iff.1 hb).1
  have h0 : w.cell? ⟨b, 0, none⟩ = some p := by rw [cell_of_row w b 0 _ _ _ hb]; rfl
  rcases hp with rfl | rfl
  · refine con_of_calls (Calls.mono (cck_fresh b w h0 (by simp [World.shape?, hb]) (by simp [World.frozen?, hb])) ?_)
    rintro e w' ⟨rfl, rfl⟩
    have h2 := heap_setCell_same w b 0 #[.pointer none, x] ty_strings_Builder (selfV b) hb
    refine ⟨_, rfl, fin_one (f' := bkF b ty_strings_Builder [selfV b, x]) ⟨rfl, rfl⟩ ⟨rfl, rfl, rfl, by simp [World.setCell], fun k _ hk => heap_setCell_other w _ k _ hk⟩ h2 rfl (fun k hk => ⟨hk, ?_⟩)⟩
    obtain rfl : k = b := hk
    simpa [World.setCell] using hlt
  · refine con_of_calls (Calls.mono (cck_used b w h0) ?_)
    rintro e w' ⟨rfl, rfl⟩
    refine ⟨_, rfl, fin_one (f' := bkF b ty_strings_Builder [selfV b, x]) ⟨rfl, rfl⟩ (Chg.refl _ _) h rfl (fun k hk => ⟨hk, ?_⟩)⟩
    obtain rfl : k = b := hk
    exact hlt
theorem bWrite_c (w : World) (b : Nat) (p : Value) (A : Option Addr) (l : List UInt8) (c : Nat) (X : Option Addr) (xs : List UInt8) (cX : Nat) (hp : p = .pointer none ∨ p = selfV b) (hl : l.length ≤ 10000000) (hx : xs.length ≤ 10000000) (hm : Mem w (bldF b p A l c ++ [bsF X xs])) :
    Con Tryz.prog n_strings_Builder_Write #[selfV b, .slice X xs.length cX] w (bldF b p A l c) fun v Fs => v = .tuple #[.int .i64 (xs.length : Int), .nilIface] ∧ ∃ A' c', Fs = bldF b (selfV b) A' (l ++ xs) c' := by
  have g := good_strings_Builder_Write w (Un (bldF b p A l c))
  have hml := maxLen_eq
  refine con_go (cx := cx_strings_Builder_Write w (Un (bldF b p A l c))) g b_strings_Builder_Write [.c (.v (selfV b)), .c (.v (.slice X xs.length cX))] [bsF X xs] hm ?_
  refine call_con [0] (fun β w' hs => copyCheckW_c w' b p _ hp (hs.get 0 rfl)) ?_
  rintro v Fs ⟨rfl, rfl⟩
  refine ⟨.slice A l.length c, fun β w' hs => cell_bk (hs.get 0 rfl) (o := 1) rfl, ?_⟩
  refine ⟨1, l.length, (l ++ xs).length, l.map byte, xs.map byte, (l ++ xs).map byte, rfl, fun β w' hs => hs.get 2 rfl, bytes_one xs, by rw [List.length_append], by rw [List.map_append], by rw [List.length_append]; omega, by rw [List.length_append]; show _ * 1 ≤ _; omega, ?_⟩
  intro A' c' _ _ _
  refine ⟨_, fun β w' hs => hs.bkSet 0 (o := 1) (us := [.slice A' (l ++ xs).length c']) rfl (by show 2 ≤ 2; decide) (one_mem rfl), ?_⟩
  intro β w' hs
  exact hs.fin [0, 1] ⟨rfl, A', c', rfl⟩
structure BdS where
  v : Value
  A : Option Addr
  l : List UInt8
  c : Nat
theorem tri_count : ∀ p : List UInt8, (triL p).length ≤ p.length
  | [] => Nat.le_refl _
  | [_] => Nat.le_refl _
  | [_, _] => by simp [triL]
  | a :: b :: c :: r => by
    have := tri_count r
    simp only [triL, List.length_cons]
    omega
structure BdS.Ok (i : BdS) (b : Nat) (url : Bool) (p : List UInt8) (pre : List (List UInt8)) : Prop where
  eq : pre = (triL p).take pre.length
  l : i.l = pre.flatMap (b64L url)
  n : i.l.length ≤ 4 * pre.length
  v : i.v = .pointer none ∨ i.v = selfV b
theorem b64all_c (w : World) (al : ByteArray) (url : Bool) (hal : AlphE al url) (A : Option Addr) (p : List UInt8) (c : Nat) (h0 : p ≠ []) (hc : p.length ≤ c) (hL : p.length ≤ 1000000) (hm : Mem w [bsF A p]) :
    Con Tryz.prog n_b64_all #[.string al, .slice A p.length c, .bool false] w [] fun v Fs => v = .string (mkS (b64L url p)) ∧ Fs = [] := by
  have g := good_b64_all w (Un [])
  have hml := maxLen_eq
  refine con_go (cx := cx_b64_all w (Un [])) g b_b64_all [.c (.v (.string al)), .c (.v (.slice A p.length c)), .c (.v (.bool false))] [bsF A p] hm ?_
  refine call_con [] (fun β w' hs => triples_c w' A p.length c) ?_
  rintro v Fs ⟨bs, rfl, rfl⟩
  refine reify_rule g 2 (fun _ => [.pointer none, .slice none 0 0]) rfl rfl (fun _ => rfl) (fun b => ?_)
  refine range_rule (α := List UInt8) (ι := BdS) (κ := Unit) g rfl (cv := [.pointer (some ⟨bs, 0, none⟩)]) rfl (by kernel_rfl) 3 (Nat.le_refl 3)
    (fun pre i => i.Ok b url p pre) (fun i => [⟨1, ty_bool, [.v (.bool false)]⟩, ⟨0, ty_string, [.v (.string al)]⟩]) (fun i => bldF b i.v i.A (i.l) i.c) (fun i => ⟨rfl, rfl, trivial⟩)
    (fun _ _ _ => False) (fun _ => []) (fun _ => []) (fun _ => trivial)
    [bkF bs ty_sl_uint8 [.slice A p.length c]] [] [bsF A p] ⟨rfl, trivial⟩ (fun g h => by obtain rfl := List.mem_singleton.1 h; rfl) ⟨.pointer none, none, [], 0⟩ ⟨rfl, rfl, Nat.le_refl _, .inl rfl⟩
    (fun β w hs => ⟨β, Agr.refl _ _, (hs.nilRow ty_uint8 1).perm [2, 1, 0, 3]⟩) (insTri A p)
    (fun xs Fs' => xs = triL p ∧ Fs' = []) (fun _ Fs' => Fs' = [])
    (fun l w f0 R J Jx hJ0 hJo hRo hY hm => tri_it l w bs A p c hc hL f0 R J Jx hJ0 hJo hRo hY hm) ?_ ?_ ?_
  · rintro ⟨v, A1, l1, c1⟩ pre x args X W S' lb bs' pn pn' hbs hok ⟨A', rfl, rfl, hin, hx⟩
    obtain ⟨q1, q3⟩ := tri_len p x (List.mem_of_getElem? hx)
    have hv := hok.v
    have hl1 := hok.l
    have hn1 := hok.n
    have hpl : pre.length < (triL p).length := (List.getElem?_eq_some_iff.1 hx).1
    have hpc := tri_count p
    have hxl : (b64L url x).length = (8 * x.length + 5) / 6 := b64L_len url x
    simp only at hv hl1 hn1
    refine ⟨_, rfl, ?_⟩
    refine call_con [] (fun β w' hs => encode_c w' al url hal A' x x.length q1 q3 ((hs.sub 3 rfl rfl (bsF A' x) rfl (hin.rd w' (hs.get 3 rfl)) (fun k hk => hin.d k hk)).mem.take (js := [0]) rfl)) ?_
    rintro v2 Fs ⟨A2, c2, rfl, hc2, rfl⟩
    refine call_con [2, 3] (fun β w' hs => bWrite_c w' b v A1 l1 c1 A2 (b64L url x) c2 hv (by omega) (by omega) ((hs.rowRd 0 rfl).mem.take (js := [2, 3, 0]) rfl)) ?_
    rintro v3 Fs ⟨rfl, A3, c3, rfl⟩
    refine ⟨⟨selfV b, A3, l1 ++ b64L url x, c3⟩, ⟨?_, ?_, ?_, .inr rfl⟩, Ent.mk' trivial rfl (fun β w' hs => hs.perm [0, 1])⟩
    · rw [List.length_append, List.length_singleton, List.take_add_one, hx, ← hok.eq]
      rfl
    · show l1 ++ b64L url x = _
      rw [List.flatMap_append, ← hl1]
      simp
    · show (l1 ++ b64L url x).length ≤ _
      rw [List.length_append, List.length_append, List.length_singleton]
      omega
  · rintro xs ⟨v, A1, l1, c1⟩ Fs hok ⟨rfl, rfl⟩
    have hl1 : l1 = b64L url p := by rw [b64_tri]; exact hok.l
    subst hl1
    have hv := hok.v
    simp only at hv
    have hne : b64L url p ≠ [] := fun e => by
      have h := b64L_len url p
      rw [e] at h
      have := List.length_pos_iff.2 h0
      simp only [List.length_nil] at h
      omega
    refine call_con [0, 1] (fun β w' hs => text_c w' b v A1 (b64L url p) c1 hne (hs.mem.take (js := [0, 1]) rfl)) ?_
    rintro v3 Fs ⟨rfl, rfl⟩
    intro β w' hs
    exact (hs.keepB (List.nil_sublist _)).fin [] ⟨rfl, rfl⟩
  · rintro e pre j Fs h
    exact h.elim
theorem alphE_url : AlphE (mkS [65, 66, 67, 68, 69, 70, 71, 72, 73, 74, 75, 76, 77, 78, 79, 80, 81, 82, 83, 84, 85, 86, 87, 88, 89, 90, 97, 98, 99, 100, 101, 102, 103, 104, 105, 106, 107, 108, 109, 110, 111, 112, 113, 114, 115, 116, 117, 118, 119, 120, 121, 122, 48, 49, 50, 51, 52, 53, 54, 55, 56, 57, 45, 95]) true := by
  have key : ∀ n : _root_.Fin 64, (mkS [65, 66, 67, 68, 69, 70, 71, 72, 73, 74, 75, 76, 77, 78, 79, 80, 81, 82, 83, 84, 85, 86, 87, 88, 89, 90, 97, 98, 99, 100, 101, 102, 103, 104, 105, 106, 107, 108, 109, 110, 111, 112, 113, 114, 115, 116, 117, 118, 119, 120, 121, 122, 48, 49, 50, 51, 52, 53, 54, 55, 56, 57, 45, 95]).data.toList[n.1]? = some (letA true n.1) := by decide +kernel
  exact fun n h => key ⟨n, h⟩
theorem EncodeURL_c (w : World) (A : Option Addr) (p : List UInt8) (c : Nat) (h0 : p ≠ []) (hc : p.length ≤ c) (hL : p.length ≤ 1000000) (hm : Mem w [bsF A p]) :
    Con Tryz.prog n_b64_EncodeURL #[.slice A p.length c] w [] fun v Fs => v = .string (mkS (encS true p)) ∧ Fs = [] := by
  have g := good_b64_EncodeURL w (Un [])
  refine con_go (cx := cx_b64_EncodeURL w (Un [])) g b_b64_EncodeURL [.c (.v (.slice A p.length c))] [bsF A p] hm ?_
  refine call_con [] (fun β w' hs => b64all_c w' _ true alphE_url A p c h0 hc hL (hs.mem.take (js := [0]) rfl)) ?_
  rintro v Fs ⟨rfl, rfl⟩
  intro β w' hs
  exact hs.fin [] ⟨rfl, rfl⟩
def tkTxt (t : Tk) (m : List UInt8) : List UInt8 := encS true (bodyL t) ++ 46 :: encS true m
def Dk.more (d : Dk) (t : Tk) : Dk := { d with serial := d.serial + 1, to := iput d.to (t.serial : Int) (.int .u64 (t.til : Int)) }
open Classical in
def mntOut (r : Rg) (d : Dk) (B : Bx.Box) (t : Tk) (v : Value) (Fs : List Fact) : Prop :=
  (∃ k y', t.Right ∧ r.ky (r.epoch : Int) = some k ∧ v = .tuple #[.string (mkS (tkTxt t (macB B k (labL ++ bodyL t)).1)), t.v, .int .i64 0] ∧ y'.ts.map (·.1) = (macB B k (labL ++ bodyL t)).2.L ∧ Fs = [dkF (d.more t), rgF r, bxF r.bx (macB B k (labL ++ bodyL t)).2 y']) ∨
  (∃ e y', ((¬ t.Right ∧ e = 4) ∨ (t.Right ∧ r.ky (r.epoch : Int) = none ∧ e = 15)) ∧ v = .tuple #[.string (mkS []), tk0.v, .int .i64 e] ∧ y'.ts.map (·.1) = B.L ∧ Fs = [dkF d, rgF r, bxF r.bx B y'])
def Rg.ep (r : Rg) : Nat := match r.key (r.epoch : Int) with | some _ => r.epoch | none => 1
def q_mnt_14 : Plan := .take 0 (.take 1 (.take 2 (.take 3 (.take 4 (.take 5 (.take 6 (.take 7 (.brk 8 .done))))))))
open Classical in
theorem tkMint_c (w : World) (d : Dk) (r : Rg) (B : Bx.Box) (y : Lay) (ten usr rol : List UInt8) (gen now : Nat) (ht : ten.length ≤ 100000) (hu : usr.length ≤ 100000) (hr : rol.length ≤ 100000) (hg : gen < 18446744073709551616) (hnw : now < 18446744073709551616) (hrb : d.rb = r.b) (hds : d.serial ≤ 1000000) (hep : r.epoch < 18446744073709551616) (hp : ∀ k ∈ r.ks, k.p.length ≤ 1000) (hts : y.ts.map (·.1) = B.L) (hi : BInv B) (hBL : B.L.length < 4000)
    (hm : Mem w [dkF d, rgF r, bxF r.bx B y, oddF 4, firstF 1, namF]) :
    Con Tryz.prog n_ticket_Desk_Mint #[ptrD d.b, .agg #[.string (mkS ten), .string (mkS usr), .string (mkS rol)], .int .u64 (gen : Int), .int .u64 (now : Int)] w [dkF d, rgF r, bxF r.bx B y] (mntOut r d B ⟨r.ep, d.serial + 1, now, addT now d.life, gen, ten, usr, rol⟩) := by
  have g := good_ticket_Desk_Mint w (Un [dkF d, rgF r, bxF r.bx B y])
  refine con_goT (cx := cx_ticket_Desk_Mint w (Un [dkF d, rgF r, bxF r.bx B y])) g b_ticket_Desk_Mint [.c (.v (ptrD d.b)), .agg [.v (.string (mkS ten)), .v (.string (mkS usr)), .v (.string (mkS rol))], .c (.v (.int .u64 (gen : Int))), .c (.v (.int .u64 (now : Int)))] [oddF 4, firstF 1, namF] hm ?_
  refine tri_seq g ?_
  refine tri_seq g ?_
  refine tri_seqJ (ι := Int × Bool) g (fun i => i = (if (r.key (r.epoch : Int)).isSome then ((r.epoch : Int), true) else (0, false))) 2 (fun i => [(0, .c (.v (ptrD d.b))), (2, .c (.v (.int .u64 (gen : Int)))), (3, .c (.v (.int .u64 (now : Int)))), (5, .c (.p 0 0)), (9, .c (.p 1 0)), (11, .c (.v (.int .u64 i.1))), (13, .c (.v (.bool i.2)))])
    (fun _ => [⟨1, ty_ticket_Ticket, tk0.cells.map SL.v⟩, ⟨0, ty_api_Who, [.v (.string (mkS ten)), .v (.string (mkS usr)), .v (.string (mkS rol))]⟩]) (fun _ => [dkF d, rgF r, bxF r.bx B y, oddF 4, firstF 1, namF]) ?_ ?_
  rotate_left
  · refine ⟨ptrR d.rb, fun β w' hs => cell_bk (dk_bk (hs.get 0 rfl)) (o := 0) rfl, ?_⟩
    refine call_con [] (fun β w' hs => by
      have h := newest_c w' r (hs.get 1 rfl) (hs.getLt 1 rfl) hp
      rw [← hrb] at h
      exact h) ?_
    unfold newestOut
    cases hk : r.key (r.epoch : Int) with
    | none =>
      rintro v Fs ⟨rfl, rfl⟩
      exact EntX.of (0, false) (by rfl) (Ent.mk' ⟨rfl, rfl, rfl, rfl, rfl, rfl, rfl, trivial⟩ rfl (fun β w' hs => hs))
    | some k =>
      rintro v Fs ⟨A, c, rfl, hc, rfl⟩
      exact EntX.of ((r.epoch : Int), true) (by rfl) (Ent.mk' ⟨rfl, rfl, rfl, rfl, rfl, rfl, rfl, trivial⟩ rfl (fun β w' hs => hs.perm [1, 2, 3, 4, 5, 6]))
  rintro ⟨e0, b0⟩ he0
  refine tri_seqJ (ι := Unit) g (fun _ => True) 2 (fun _ => [(0, .c (.v (ptrD d.b))), (2, .c (.v (.int .u64 (gen : Int)))), (3, .c (.v (.int .u64 (now : Int)))), (5, .c (.p 0 0)), (9, .c (.p 1 0)), (11, .c (.v (.int .u64 (r.ep : Int))))])
    (fun _ => [⟨1, ty_ticket_Ticket, tk0.cells.map SL.v⟩, ⟨0, ty_api_Who, [.v (.string (mkS ten)), .v (.string (mkS usr)), .v (.string (mkS rol))]⟩]) (fun _ => [dkF d, rgF r, bxF r.bx B y, oddF 4, firstF 1, namF]) ?_ ?_
  rotate_left
  · unfold Rg.ep
    cases hk : r.key (r.epoch : Int) with
    | none =>
      rw [hk] at he0
      injection he0 with q1 q2
      subst q1 q2
      exact EntX.of () trivial (Ent.mk' ⟨rfl, rfl, rfl, rfl, rfl, rfl, trivial⟩ rfl (fun β w' hs => hs))
    | some k =>
      rw [hk] at he0
      injection he0 with q1 q2
      subst q1 q2
      exact EntX.of () trivial (Ent.mk' ⟨rfl, rfl, rfl, rfl, rfl, rfl, trivial⟩ rfl (fun β w' hs => hs))
  rintro ⟨⟩ -
  refine tri_seqJ (ι := Unit) g (fun _ => True) 3 (fun _ => [(0, .c (.v (ptrD d.b))), (9, .c (.p 1 0)), (14, .c (.p 2 0))])
    (fun _ => [⟨2, ty_ticket_Ticket, (Tk.cells ⟨r.ep, d.serial + 1, now, addT now d.life, gen, ten, usr, rol⟩).map SL.v⟩, ⟨1, ty_ticket_Ticket, tk0.cells.map SL.v⟩]) (fun _ => [dkF d, rgF r, bxF r.bx B y, oddF 4, firstF 1, namF]) ?_ ?_
  rotate_left
  · refine draw_rule g p_ticket_Desk_Mint_6 (by kernel_rfl) [⟨1, ty_ticket_Ticket, tk0.cells.map SL.v⟩, ⟨0, ty_api_Who, [.v (.string (mkS ten)), .v (.string (mkS usr)), .v (.string (mkS rol))]⟩] [dkF d] (subPerm [0]) ?_
    have hs1 : IntKind.u64.wrap ((d.serial : Int) + 1) = ((d.serial + 1 : Nat) : Int) := by rw [wrap_u64]; omega
    refine ⟨.int .u64 (d.serial : Int), fun β w' hs => cell_bk (dk_bk (hs.get 0 rfl)) (o := 2) rfl, ?_⟩
    refine ⟨_, hs1, ?_⟩
    refine ⟨.int .u64 (d.life : Int), fun β w' hs => cell_bk (dk_bk (hs.get 0 rfl)) (o := 1) rfl, ?_⟩
    have go1 : ∀ w', Pu Tryz.prog n_span_Add #[.int .u64 (now : Int), .int .u64 (d.life : Int)] w' (.int .u64 ((addT now d.life : Nat) : Int)) := fun w' => spanAdd_c w' now d.life
    refine ⟨?_, ?_⟩
    · refine call_pu (fun β w' hs => go1 w') ?_
      refine ⟨subPerm [0], ?_⟩
      refine ⟨Sub.of (List.sublist_cons_self _ _) (List.Sublist.cons_cons _ (List.nil_sublist _)), ?_⟩
      refine ⟨Sub.of (List.sublist_cons_self _ _) (List.Sublist.cons_cons _ (List.nil_sublist _)), ?_⟩
      exact EntX.of () trivial (Ent.mk' ⟨rfl, rfl, rfl, trivial⟩ rfl (fun β w' hs => hs.keepB (List.Sublist.cons_cons _ (List.Sublist.cons_cons _ (List.nil_sublist _)))))
    · refine ⟨Sub.of (List.sublist_cons_self _ _) (List.Sublist.cons_cons _ (List.nil_sublist _)), ?_⟩
      refine call_pu (fun β w' hs => go1 w') ?_
      refine ⟨Sub.of (List.sublist_cons_self _ _) (List.Sublist.cons_cons _ (List.nil_sublist _)), ?_⟩
      refine ⟨Sub.of (List.sublist_cons_self _ _) (List.Sublist.cons_cons _ (List.nil_sublist _)), ?_⟩
      exact EntX.of () trivial (Ent.mk' ⟨rfl, rfl, rfl, trivial⟩ rfl (fun β w' hs => hs.keepB (List.Sublist.cons_cons _ (List.Sublist.cons_cons _ (List.nil_sublist _)))))
  rintro ⟨⟩ -
  have hok : (⟨r.ep, d.serial + 1, now, addT now d.life, gen, ten, usr, rol⟩ : Tk).Ok := by
    have h1 : r.ep < 18446744073709551616 := by unfold Rg.ep; split; exact hep; decide
    have h2 : addT now d.life < 18446744073709551616 := by unfold addT; omega
    exact ⟨h1, by show d.serial + 1 < _; omega, hnw, h2, hg, ht, hu, hr⟩
  have hse : (⟨r.ep, d.serial + 1, now, addT now d.life, gen, ten, usr, rol⟩ : Tk).serial = d.serial + 1 := rfl
  generalize (⟨r.ep, d.serial + 1, now, addT now d.life, gen, ten, usr, rol⟩ : Tk) = t at *
  refine tri_of g ?_
  refine call_con [] (fun β w' hs => tkBody_c w' t (namF_T (hs.get 5 rfl)) hok) ?_
  rintro v Fs (⟨hR, A, c, rfl, hc, rfl⟩ | ⟨hR, rfl, rfl⟩)
  rotate_left
  · intro β w' hs
    exact (hs.keepB (List.nil_sublist _)).fin [0, 1, 2] (.inr ⟨4, y, .inl ⟨hR, rfl⟩, rfl, hts, rfl⟩) rfl rfl rfl ⟨rfl, rfl, rfl, trivial⟩
  have l1 := plainF_len hR.ten
  have l2 := namedT_len hR.usr
  have l3 := plainF_len hR.rol
  have hbl : (bodyL t).length ≤ 1000 := by
    unfold bodyL txtL
    simp only [List.length_cons, List.length_append, be_length]
    omega
  have hlb : (labL ++ bodyL t).length ≤ 1000000 := by rw [List.length_append]; show 7 + _ ≤ _; omega
  refine ⟨ptrR d.rb, fun β w' hs => cell_bk (dk_bk (hs.get 1 rfl)) (o := 0) rfl, ?_⟩
  intro b1
  refine ⟨0, labL.map byte, rfl, ?_⟩
  intro b2
  unfold mntOut Rg.ky
  cases hk : r.key (r.epoch : Int) with
  | none =>
    refine call_con [4, 5] (fun β w' hs => by
      have h := (((hs.rowRd 0 rfl).rowRd 2 rfl).part2 (P := some ⟨b2, 0, none⟩) (A := some ⟨b1, 0, none⟩) (l := labL) (c := 7) (B := A) (m := bodyL t) (d := c) [0, 1, 2] rfl)
      have h2 := (signP_c w' r B y b2 [(some ⟨b1, 0, none⟩, labL, 7), (A, bodyL t, c)] 2 rfl (by simp) (by show 2 ≤ 1000; decide) hp (by rw [two_parts]; exact hlb) hts hi (by omega) (h.mem.take (js := [5, 6, 0, 7, 8]) rfl)).mono (fun v Fs h => show v = .tuple #[.int .u64 0, .slice none 0 0, .int .i64 15] ∧ ∃ y', y'.ts.map (·.1) = B.L ∧ Fs = [rgF r, bxF r.bx B y'] by unfold signOut at h; rw [hk] at h; exact h)
      rw [← hrb] at h2
      exact h2) ?_
    rintro v Fs ⟨rfl, y2, hy2, rfl⟩
    intro β w' hs
    exact (hs.keepB (List.nil_sublist _)).fin [5, 0, 1] (.inr ⟨15, y2, .inr ⟨hR, rfl, rfl⟩, rfl, hy2, rfl⟩) rfl rfl rfl ⟨rfl, rfl, rfl, trivial⟩
  | some k =>
    refine call_con [4, 5] (fun β w' hs => by
      have h := (((hs.rowRd 0 rfl).rowRd 2 rfl).part2 (P := some ⟨b2, 0, none⟩) (A := some ⟨b1, 0, none⟩) (l := labL) (c := 7) (B := A) (m := bodyL t) (d := c) [0, 1, 2] rfl)
      have h2 := signB_c w' r.bx r rfl k hk B y b2 [(some ⟨b1, 0, none⟩, labL, 7), (A, bodyL t, c)] 2 rfl (by simp) (by show 2 ≤ 1000; decide) hp (by rw [two_parts]; exact hlb) hts hi (by omega) (h.mem.take (js := [5, 6, 0, 7, 8]) rfl)
      rw [← hrb, two_parts] at h2
      exact h2) ?_
    rintro v Fs ⟨M, dm, y2, rfl, hdm, hy2, rfl⟩
    have hq32 : (macB B k.p (labL ++ bodyL t)).1.length = 32 := (mac_good hi (by omega) (k := k.p) (t := labL ++ bodyL t) (by have := hp k (List.mem_of_find?_eq_some hk); omega) hlb).2.1
    obtain ⟨q, hq⟩ : ∃ q, macB B k.p (labL ++ bodyL t) = q := ⟨_, rfl⟩
    obtain ⟨m, B2⟩ := q
    rw [hq] at hq32 hdm hy2 ⊢
    simp only at hq32 hdm hy2 ⊢
    have hs1 : IntKind.u64.wrap ((d.serial : Int) + 1) = ((d.serial + 1 : Nat) : Int) := by rw [wrap_u64]; omega
    refine ⟨.int .u64 (d.serial : Int), fun β w' hs => cell_bk (dk_bk (hs.get 6 rfl)) (o := 2) rfl, ?_⟩
    refine ⟨_, hs1, ?_⟩
    refine ⟨[dkF { d with serial := d.serial + 1 }, browF ty_uint8 M m dm, rgF r, bxF r.bx B2 y2, browF ty_uint8 A (bodyL t) c], fun β w' hs => by
      obtain ⟨w2, f1, f2⟩ := (hs.unsep 6 rfl).bkSet 0 (o := 2) (us := [.int .u64 ((d.serial + 1 : Nat) : Int)]) rfl (by show 3 ≤ 5; decide) (one_mem rfl)
      exact ⟨w2, f1, (f2.sep [0, 1, 2] rfl ⟨rfl, rfl, rfl, trivial⟩).perm [0, 1, 2, 3, 6]⟩, ?_⟩
    refine draw_rule g q_mnt_14 (by kernel_rfl) [⟨2, ty_ticket_Ticket, t.cells.map SL.v⟩, ⟨1, ty_ticket_Ticket, tk0.cells.map SL.v⟩] [dkF { d with serial := d.serial + 1 }] (subPerm [0]) ?_
    refine ⟨.map (some d.m1), fun β w' hs => cell_bk (dk_bk (hs.get 0 rfl)) (o := 3) rfl, ?_⟩
    refine ⟨[⟨2, ty_ticket_Ticket, t.cells.map SL.v⟩, ⟨1, ty_ticket_Ticket, tk0.cells.map SL.v⟩], fun _ => [dkF (d.more t), browF ty_uint8 M m dm, rgF r, bxF r.bx B2 y2, browF ty_uint8 A (bodyL t) c], fun β w' hs => ?_, fun _ => ?_⟩
    · obtain ⟨w2, f1, f2⟩ := (hs.unsep 0 rfl).mapPutI g 1 rfl (t := ty_map_uint64_uint64) (t.serial : Int) (.int .u64 (t.til : Int))
      exact ⟨w2, 0, f1, (f2.sep [0, 1, 2] rfl ⟨rfl, rfl, rfl, trivial⟩)⟩
    refine draw_rule g p_ticket_Desk_Mint_15 (by kernel_rfl) [⟨2, ty_ticket_Ticket, t.cells.map SL.v⟩] [] (Sub.of (List.Sublist.cons_cons _ (List.nil_sublist _)) (List.nil_sublist _)) ?_
    have hbn : bodyL t ≠ [] := by unfold bodyL; simp
    have hmn : m ≠ [] := fun e => by rw [e] at hq32; cases hq32
    refine call_con [] (fun β w' hs => EncodeURL_c w' A (bodyL t) c hbn hc (by omega) ((hs.rowRd 4 rfl).mem.take (js := [4]) rfl)) ?_
    rintro v Fs ⟨rfl, rfl⟩
    refine ⟨(Sub.of (List.Sublist.cons_cons _ (List.nil_sublist _)) (List.nil_sublist _)), ?_⟩
    have e1 : (encS true (bodyL t)).length = (8 * (bodyL t).length + 5) / 6 := b64L_len true (bodyL t)
    have e2 : (encS true m).length = (8 * m.length + 5) / 6 := b64L_len true m
    have hml := maxLen_eq
    refine ⟨by rw [mkS_sz]; show _ + 1 ≤ maxLen; omega, ?_⟩
    refine call_con [] (fun β w' hs => EncodeURL_c w' M m dm hmn hdm (by omega) ((hs.rowRd 1 rfl).mem.take (js := [1]) rfl)) ?_
    rintro v Fs ⟨rfl, rfl⟩
    refine ⟨(Sub.of (List.Sublist.cons_cons _ (List.nil_sublist _)) (List.nil_sublist _)), ?_⟩
    have htx : (mkS (encS true (bodyL t)) ++ ⟨#[46]⟩ : ByteArray) ++ mkS (encS true m) = mkS (tkTxt t m) := by
      unfold tkTxt
      apply ByteArray.ext
      simp [mkS]
    have hsz : ((mkS (encS true (bodyL t)) ++ ⟨#[46]⟩ : ByteArray)).size + (mkS (encS true m)).size ≤ maxLen := by
      rw [ByteArray.size_append, mkS_sz, mkS_sz]
      show _ + 1 + _ ≤ maxLen
      omega
    refine ⟨hsz, ?_⟩
    refine ⟨(Sub.of (List.Sublist.cons_cons _ (List.nil_sublist _)) (List.nil_sublist _)), ?_⟩
    intro β w' hs
    refine (hs.keepB (List.nil_sublist _)).fin [0, 2, 3] (.inl ⟨k.p, y2, hR, rfl, ?_, by rw [hq]; exact hy2, by rw [hq]; rfl⟩) rfl rfl rfl ⟨rfl, rfl, rfl, trivial⟩
    rw [hq]
    show Value.tuple #[.string ((mkS (encS true (bodyL t)) ++ ⟨#[46]⟩ : ByteArray) ++ mkS (encS true m)), t.v, .int .i64 0] = _
    rw [htx]
theorem box0i (sym : Bool) : BInv ⟨sym, false, []⟩ := ⟨fun _ q => (by cases q), List.nodup_nil, fun _ q => (by cases q), fun _ => rfl, Nat.zero_le _⟩
theorem keyT_len {e : Nat} (he : e < 100) : (keyT e).data.toList.length ≤ 10 := by
  have hds := decS_size he
  have hks : keyS.size = 4 := rfl
  show (keyS ++ decimS e).size ≤ 10
  rw [ByteArray.size_append]
  omega
theorem newK_c (w : World) (bx : Nat) (B : Bx.Box) (y : Lay) (M : Option Addr) (master : List UInt8) (cM room : Nat) (h1 : 1 ≤ master.length) (h2 : master.length ≤ 64) (h3 : 1 ≤ room) (h4 : room ≤ 8) (hts : y.ts.map (·.1) = B.L) (hi : BInv B) (hL : B.L.length < 4000) (hm : Mem w [bxF bx B y, bsF M master, oddF 4, firstF 1]) :
    Con Tryz.prog n_ring_New #[ptrB bx, .slice M master.length cM, .int .i64 (room : Int)] w [bxF bx B y] fun v Fs => ∃ (r : Rg) (y' : Lay), v = .tuple #[ptrR r.b, .int .i64 0] ∧ r.bx = bx ∧ r.master = master ∧ Kept r room 0 (macB B master (keyT 1).data.toList).1 ∧ GoodT B (macB B master (keyT 1).data.toList) ∧ y'.ts.map (·.1) = (macB B master (keyT 1).data.toList).2.L ∧
      Fs = [rgF r, bxF bx (macB B master (keyT 1).data.toList).2 y'] := by
  have hg := mac_good hi (by omega) (k := master) (t := (keyT 1).data.toList) (by omega) (Nat.le_trans (keyT_len (by decide)) (by decide))
  refine (newR_c w bx B y M master cM room h1 h2 h3 h4 hts hi hL hm).mono fun v Fs h => ?_
  obtain ⟨b, mA, mc, m, A, c, y', rfl, hy, rfl⟩ := h
  exact ⟨_, y', by rw [cut_b]; rfl, by rw [cut_bx]; rfl, by rw [cut_master]; rfl, kept_new h2 h3 h4 hg.2.1, hg, hy, rfl⟩
structure RR where
  b : Nat
  bx : Nat
  mA : Option Addr
  mc : Nat
  master : List UInt8
  room : Nat
  LA : Option Addr
  Lc : Nat
  es : List Int
  epoch : Nat
def RR.vs (x : RR) : List Value := [.pointer (some ⟨x.bx, 0, none⟩), .slice x.mA x.master.length x.mc, .int .i64 (x.room : Int), .slice x.LA x.es.length x.Lc, .int .u64 (x.epoch : Int)]
def RR.fs (x : RR) : List Fact := [bkF x.b ty_ostiaryref17_Ring x.vs, browF ty_uint8 x.mA x.master x.mc, rdoF 1 x.LA x.es.length (x.es.map (Value.int .u64))]
end Go.Proofs.YtlhcgofdfhfegaaGreatDoor.Sx

namespace Go.Proofs.YtlhcgofdfhfegaaGreatDoor.Sx
open Go
attribute [local irreducible] Calls
section
variable {cx : Cx} {β : Va} {n : Nat} {H : List Bk} {w : World} {f1 f2 : Fact}
end
def RR.more (x : RR) : RR := { x with epoch := x.epoch + 1 }
def moreL (es : List Int) (e : Int) (room : Nat) : List Int := if room < (es ++ [e]).length then (es ++ [e]).tail else es ++ [e]
end Go.Proofs.YtlhcgofdfhfegaaGreatDoor.Sx

namespace Go.Proofs.YtlhcgofdfhfegaaGreatDoor.Sx
open Go
attribute [local irreducible] Calls
def rr0 (b bx : Nat) (mA : Option Addr) (mc : Nat) (master : List UInt8) (room : Nat) : RR := ⟨b, bx, mA, mc, master, room, none, 0, [], 0⟩
structure RI (r : Rg) (x : RR) (B : Bx.Box) (n : Nat) : Prop where
  ok : RgOk r
  rm : 1 ≤ r.room
  m : x.master = r.master
  room : x.room = r.room
  ep : x.epoch = r.epoch
  es : x.es = r.es
  lc : x.es.length ≤ x.Lc
  inv : BInv B
  len : B.L.length ≤ n
  epn : r.epoch ≤ n
  keys : ∀ k ∈ r.ks, k.p.length = 32 ∧ macB B r.master (keyT k.e).data.toList = (k.p, B)
theorem RI.p {r : Rg} {x : RR} {B : Bx.Box} {n : Nat} (h : RI r x B n) : ∀ q ∈ r.ks, q.p.length ≤ 1000 := fun q hq => by rw [(h.keys q hq).1]; decide
theorem RI.grow {r : Rg} {x : RR} {B B' : Bx.Box} {n n' : Nat} (h : RI r x B n) (hL : B.L.length < 4000) (hp : Pre B B') (hi : BInv B') (hl : B'.L.length ≤ n') (hn : n ≤ n') : RI r x B' n' :=
  ⟨h.ok, h.rm, h.m, h.room, h.ep, h.es, h.lc, hi, hl, Nat.le_trans h.epn hn, fun k hk => by
    obtain ⟨k1, k2⟩ := h.keys k hk
    have := mac_again (B := B) (B' := B') (by omega) r.master (keyT k.e).data.toList (by rw [k2]; exact hp)
    rw [k2] at this
    exact ⟨k1, this⟩⟩
theorem cut_es (r : Rg) : r.cut.es = if r.room < r.es.length then r.es.tail else r.es := by
  unfold Rg.cut Rg.es
  rw [List.length_map]
  split
  · simp [List.map_tail]
  · rfl
theorem RI.rot {r : Rg} {x x' : RR} {B : Bx.Box} {n : Nat} (h : RI r x B n) (hn : n < 90) (A : Option Addr) (c : Nat) (h3 : x'.master = x.master) (h4 : x'.room = x.room) (h5 : x'.epoch = x.epoch + 1) (h6 : x'.es = moreL x.es ((x.epoch + 1 : Nat) : Int) x.room) (h7 : x'.es.length ≤ x'.Lc) :
    RI (r.more A c (macB B r.master (keyT (r.epoch + 1)).data.toList).1).cut x' (macB B r.master (keyT (r.epoch + 1)).data.toList).2 (n + 1) := by
  have hl := h.len
  have hep := h.epn
  have hma := h.ok.master
  have hg := mac_good h.inv (by omega) (k := r.master) (t := (keyT (r.epoch + 1)).data.toList) (by omega) (Nat.le_trans (keyT_len (by omega)) (by decide))
  have hp := mac_pre (B := B) (by omega) r.master (keyT (r.epoch + 1)).data.toList
  have hag := mac_again (B := B) (B' := (macB B r.master (keyT (r.epoch + 1)).data.toList).2) (by omega) r.master (keyT (r.epoch + 1)).data.toList (Pre.refl _)
  have hgl := hg.1.len
  have hg2 := h.grow (by omega) hp hg.1.inv (by omega) (Nat.le_succ n)
  generalize macB B r.master (keyT (r.epoch + 1)).data.toList = q at *
  refine ⟨more_ok h.ok (by omega), by rw [cut_room]; exact h.rm, by rw [h3, cut_master]; exact h.m, by rw [h4, cut_room]; exact h.room, by rw [h5, cut_epoch, h.ep]; rfl, ?_, h7, hg.1.inv, by omega, by rw [cut_epoch]; show r.epoch + 1 ≤ n + 1; omega, ?_⟩
  · rw [h6, cut_es, h.es, h.ep, h.room]
    have e : (r.more A c q.1).es = r.es ++ [((r.epoch + 1 : Nat) : Int)] := by show (r.ks ++ [_]).map _ = _; rw [List.map_append]; rfl
    rw [e]
    rfl
  · intro k hk
    rw [cut_master]
    rcases List.mem_append.1 (show k ∈ r.ks ++ [(⟨r.epoch + 1, A, c, q.1⟩ : RKey)] from cut_mem hk) with hk | hk
    · exact hg2.keys k hk
    · obtain rfl := List.mem_singleton.1 hk
      exact ⟨hg.2.1, hag⟩
theorem erase_es (e : Int) : ∀ ks : List RKey, (ks.map (·.e)).Pairwise (· < ·) → (ks.eraseP fun k => decide ((k.e : Int) = e)).map (fun k => (k.e : Int)) = (ks.map fun k => (k.e : Int)).filter (fun y => !decide (y = e))
  | [], _ => rfl
  | k :: t, h => by
    rw [List.map_cons, List.pairwise_cons] at h
    by_cases hk : (k.e : Int) = e
    · rw [List.eraseP_cons_of_pos (by simpa using hk), List.map_cons, List.filter_cons_of_neg (by simpa using hk)]
      symm
      refine List.filter_eq_self.2 fun y hy => ?_
      obtain ⟨q, hq, rfl⟩ := List.mem_map.1 hy
      have := h.1 q.e (List.mem_map.2 ⟨q, hq, rfl⟩)
      simp
      omega
    · rw [List.eraseP_cons_of_neg (by simpa using hk), List.map_cons, List.map_cons, List.filter_cons_of_pos (by simpa using hk), erase_es e t h.2]
theorem RI.ret {r : Rg} {x x' : RR} {B : Bx.Box} {n : Nat} (h : RI r x B n) (e : Int) (h3 : x'.master = x.master) (h4 : x'.room = x.room) (h5 : x'.epoch = x.epoch) (h6 : x'.es = x.es.filter (fun y => !decide (y = e))) (h7 : x'.es.length ≤ x'.Lc) : RI (r.drop e) x' B n := by
  have hsub : ((r.drop e).ks).Sublist r.ks := List.eraseP_sublist
  refine ⟨⟨h.ok.rise.sublist (hsub.map _), fun k hk => h.ok.le k (drop_sub hk), Nat.le_trans hsub.length_le h.ok.len, h.ok.room, h.ok.master, h.ok.ep⟩, h.rm, h3.trans h.m, h4.trans h.room, h5.trans h.ep, ?_, h7, h.inv, h.len, h.epn, fun k hk => h.keys k (drop_sub hk)⟩
  rw [h6, h.es]
  exact (erase_es e r.ks h.ok.rise).symm
theorem RI.first {b bx : Nat} {mA : Option Addr} {mc : Nat} {master : List UInt8} {room m : Nat} {A : Option Addr} {c : Nat} {x : RR} {B : Bx.Box} (h1 : 1 ≤ master.length) (h2 : master.length ≤ 64) (h3 : 1 ≤ room) (h4 : room ≤ 8) (hi : BInv B) (hL : B.L.length ≤ 0) (hxm : x.master = master) (hxr : x.room = room) (hxe : x.epoch = 1) (hxl : x.es = moreL [] 1 room) (hxc : x.es.length ≤ x.Lc) :
    RI ((ring0 b bx mA mc master room m).more A c (macB B master (keyT 1).data.toList).1).cut x (macB B master (keyT 1).data.toList).2 1 := by
  have h0 : RI (ring0 b bx mA mc master room m) (rr0 b bx mA mc master room) B 0 := ⟨⟨List.Pairwise.nil, fun k hk => (by cases hk), Nat.zero_le _, h4, h2, by show 0 < 98; decide⟩, h3, rfl, rfl, rfl, rfl, Nat.le_refl _, hi, hL, Nat.le_refl _, fun k hk => (by cases hk)⟩
  exact h0.rot (by decide) A c (x' := x) hxm hxr hxe hxl hxc
theorem eqFields_of {P : Program} {w : World} {d : Nat} {xs ys : Array Value} : ∀ (sp : List ((String × TypeId × Nat) × Bool)) (fs : List Field), fs.map (fun f => (f.name, f.type, f.offset)) = sp.map (·.1) → (∀ s ∈ sp, s.1.1 ≠ "_" ∧ ∃ a b, (part s.1.2.1 xs s.1.2.2).run P w = .ok a w ∧ (part s.1.2.1 ys s.1.2.2).run P w = .ok b w ∧ (Op.equalIn d s.1.2.1 a b).run P w = .ok s.2 w) →
    (Op.eqFields d xs ys fs).run P w = .ok (sp.all (·.2)) w
  | [], fs, h, _ => by
    obtain rfl : fs = [] := List.map_eq_nil_iff.1 h
    rfl
  | s :: r, [], h, _ => by cases h
  | s :: r, f :: fs, h, hs => by
    rw [List.map_cons, List.map_cons] at h
    injection h with h1 h2
    obtain ⟨hn, a, b, ha, hb, hc⟩ := hs s List.mem_cons_self
    rw [← h1] at hn ha hb hc
    have ih := eqFields_of r fs h2 (fun x hx => hs x (List.mem_cons_of_mem _ hx))
    simp only at hn ha hb hc
    simp only [Op.eqFields, hn, ne_eq, not_false_eq_true, if_true, Sem.run_bind, ha, hb, hc, Result.andThen_ok, Sem.run_ite, Sem.run_pure, List.all_cons]
    cases s.2 with
    | true => simp [ih]
    | false => simp
theorem who_fields : (Tryz.prog.fieldsOf ty_api_Who).toList.map (fun f => (f.name, f.type, f.offset)) = [("Tenant", ty_string, 0), ("User", ty_string, 1), ("Role", ty_string, 2)] := by kernel_rfl
theorem who_guard : Tryz.prog.eqGuardType Tryz.prog.depth ty_api_Who = false := by kernel_rfl
theorem who_held : Tryz.prog.stoodInHeld ty_api_Who = false := by kernel_rfl
theorem who_under : Tryz.prog.underlying ty_api_Who = some (.struct (Tryz.prog.fieldsOf ty_api_Who)) := by kernel_rfl
def whoV (a b c : List UInt8) : Value := .agg #[.string (mkS a), .string (mkS b), .string (mkS c)]
theorem eqStr (d : Nat) (a b : List UInt8) (w : World) : (Op.equalIn (d + 1) ty_string (.string (mkS a)) (.string (mkS b))).run Tryz.prog w = .ok (decide (a = b)) w := by
  rw [run_equalIn_string w d ty_string (mkS a) (mkS b) ((ok9).real (d := .string) rfl rfl)]
  congr 1
  by_cases h : a = b
  · simp [h]
  · have : ¬ (mkS a).toList = (mkS b).toList := fun q => h (mkS_one (by apply ByteArray.ext; exact Array.toList_inj.1 (by simpa [ByteArray.toList_eq] using q)))
    simp [h, this]
theorem eqWho_at (d : Nat) (a b c a' b' c' : List UInt8) (w : World) : (Op.equalIn (d + 2) ty_api_Who (whoV a b c) (whoV a' b' c')).run Tryz.prog w = .ok (decide (a = a' ∧ b = b' ∧ c = c')) w := by
  unfold whoV
  rw [run_equalIn_struct w (d + 1) _ _ _ who_under who_held, eqFields_of [(("Tenant", ty_string, 0), decide (a = a')), (("User", ty_string, 1), decide (b = b')), (("Role", ty_string, 2), decide (c = c'))] _ who_fields]
  · congr 1
    simp only [List.all_cons, List.all_nil, Bool.and_true, ← Bool.decide_and]
  · intro s hs
    simp only [List.mem_cons, List.not_mem_nil, or_false] at hs
    rcases hs with rfl | rfl | rfl
    · exact ⟨by show ("Tenant" : String) ≠ "_"; decide, .string (mkS a), .string (mkS a'), by simp [part], by simp [part], eqStr d a a' w⟩
    · exact ⟨by show ("User" : String) ≠ "_"; decide, .string (mkS b), .string (mkS b'), by simp [part], by simp [part], eqStr d b b' w⟩
    · exact ⟨by show ("Role" : String) ≠ "_"; decide, .string (mkS c), .string (mkS c'), by simp [part], by simp [part], eqStr d c c' w⟩
structure TkTy (T : TypeId) : Prop where
  fields : (Tryz.prog.fieldsOf T).toList.map (fun f => (f.name, f.type, f.offset)) = [("Epoch", ty_uint64, 0), ("Serial", ty_uint64, 1), ("From", ty_uint64, 2), ("To", ty_uint64, 3), ("Gen", ty_uint64, 4), ("Who", ty_api_Who, 5)]
  guard : Tryz.prog.eqGuardType Tryz.prog.depth T = false
  held : Tryz.prog.stoodInHeld T = false
  under : Tryz.prog.underlying T = some (.struct (Tryz.prog.fieldsOf T))
theorem tkTy_r : TkTy ty_ostiaryref18_Ticket := ⟨by kernel_rfl, by kernel_rfl, by kernel_rfl, by kernel_rfl⟩
theorem eqU64 (d : Nat) (a b : Nat) (w : World) : (Op.equalIn (d + 1) ty_uint64 (.int .u64 (a : Int)) (.int .u64 (b : Int))).run Tryz.prog w = .ok (decide (a = b)) w := by
  rw [run_equalIn_int w d ty_uint64 .u64 .u64 _ _ ((ok22).real (d := .int .u64) rfl rfl)]
  congr 1
  by_cases h : a = b
  · simp [h]
  · have : ¬ (a : Int) = (b : Int) := by omega
    simp [h, this]
theorem tk_ext {t u : Tk} : t = u ↔ (t.epoch = u.epoch ∧ t.serial = u.serial ∧ t.fro = u.fro ∧ t.til = u.til ∧ t.gen = u.gen ∧ t.ten = u.ten ∧ t.usr = u.usr ∧ t.rol = u.rol) := by
  obtain ⟨a, b, c, d, e, f, g, h⟩ := t
  obtain ⟨a', b', c', d', e', f', g', h'⟩ := u
  simp
theorem part_who (a b c d e : Value) (f g h : Value) (w : World) : (part ty_api_Who #[a, b, c, d, e, f, g, h] 5).run Tryz.prog w = .ok (.agg #[f, g, h]) w := by
  have h1 : (isAgg ty_api_Who).run Tryz.prog w = .ok true w := (ok24).run_agg w
  simp [part, h1]
open Classical in
theorem eqTk_at {T : TypeId} (hT : TkTy T) (d : Nat) (t u : Tk) (w : World) : (Op.equalIn (d + 3) T (.agg t.cells.toArray) (.agg u.cells.toArray)).run Tryz.prog w = .ok (decide (t = u)) w := by
  rw [run_equalIn_struct w (d + 2) _ _ _ hT.under hT.held, eqFields_of [(("Epoch", ty_uint64, 0), decide (t.epoch = u.epoch)), (("Serial", ty_uint64, 1), decide (t.serial = u.serial)), (("From", ty_uint64, 2), decide (t.fro = u.fro)), (("To", ty_uint64, 3), decide (t.til = u.til)), (("Gen", ty_uint64, 4), decide (t.gen = u.gen)), (("Who", ty_api_Who, 5), decide (t.ten = u.ten ∧ t.usr = u.usr ∧ t.rol = u.rol))] _ hT.fields]
  · congr 1
    simp only [List.all_cons, List.all_nil, Bool.and_true, ← Bool.decide_and]
    exact decide_eq_decide.2 tk_ext.symm
  · intro s hs
    simp only [List.mem_cons, List.not_mem_nil, or_false] at hs
    rcases hs with rfl | rfl | rfl | rfl | rfl | rfl
    · exact ⟨by show ("Epoch" : String) ≠ "_"; decide, .int .u64 t.epoch, .int .u64 u.epoch, by simp [part, Tk.cells], by simp [part, Tk.cells], eqU64 (d + 1) _ _ w⟩
    · exact ⟨by show ("Serial" : String) ≠ "_"; decide, .int .u64 t.serial, .int .u64 u.serial, by simp [part, Tk.cells], by simp [part, Tk.cells], eqU64 (d + 1) _ _ w⟩
    · exact ⟨by show ("From" : String) ≠ "_"; decide, .int .u64 t.fro, .int .u64 u.fro, by simp [part, Tk.cells], by simp [part, Tk.cells], eqU64 (d + 1) _ _ w⟩
    · exact ⟨by show ("To" : String) ≠ "_"; decide, .int .u64 t.til, .int .u64 u.til, by simp [part, Tk.cells], by simp [part, Tk.cells], eqU64 (d + 1) _ _ w⟩
    · exact ⟨by show ("Gen" : String) ≠ "_"; decide, .int .u64 t.gen, .int .u64 u.gen, by simp [part, Tk.cells], by simp [part, Tk.cells], eqU64 (d + 1) _ _ w⟩
    · exact ⟨by show ("Who" : String) ≠ "_"; decide, whoV t.ten t.usr t.rol, whoV u.ten u.usr u.rol, part_who _ _ _ _ _ _ _ _ w, part_who _ _ _ _ _ _ _ _ w, eqWho_at d _ _ _ _ _ _ w⟩
theorem eql_who (a b c a' b' c' : List UInt8) (p q : Operand) (w : World) : (binSem .eql ty_api_Who p q (whoV a b c) (whoV a' b' c')).run Tryz.prog w = .ok (.bool (decide (a = a' ∧ b = b' ∧ c = c'))) w := by
  have he := eqWho_at 9998 a b c a' b' c' w
  unfold binSem
  unfold whoV at he ⊢
  simp only [Sem.run_bind, run_eqGuard_agg w _ _ _ _ _ _ who_guard, Result.andThen_ok, run_eql_struct, he]
open Classical in
theorem eql_tk {T : TypeId} (hT : TkTy T) (t u : Tk) (p q : Operand) (w : World) : (binSem .eql T p q (.agg t.cells.toArray) (.agg u.cells.toArray)).run Tryz.prog w = .ok (.bool (decide (t = u))) w := by
  have he := eqTk_at hT 9997 t u w
  unfold binSem
  unfold Tk.cells at he ⊢
  simp only [Sem.run_bind, run_eqGuard_agg w _ _ _ _ _ _ hT.guard, Result.andThen_ok, run_eql_struct, he]
theorem body_len {t : Tk} (hR : t.Right) : (bodyL t).length ≤ 136 ∧ 1 ≤ (bodyL t).length := by
  have l1 := plainF_len hR.ten
  have l2 := namedT_len hR.usr
  have l3 := plainF_len hR.rol
  unfold bodyL txtL
  simp only [List.length_cons, List.length_append, be_length]
  omega
theorem txt_len {t : Tk} (hR : t.Right) {m : List UInt8} (hm : m.length = 32) : (tkTxt t m).length ≤ 300 := by
  have h1 := b64L_len true (bodyL t)
  have h2 := b64L_len true m
  have h3 := body_len hR
  unfold tkTxt
  rw [List.length_append, List.length_cons]
  show (b64L true (bodyL t)).length + ((b64L true m).length + 1) ≤ 300
  omega
theorem open_some {ky : Int → Option (List UInt8)} {gone : Int → Bool} {B B' : Bx.Box} {t : Tk} {k m : List UInt8} (now : Nat) (hR : t.Right) (hm : m.length = 32) (hk : ky (t.epoch : Int) = some k) (hmac : macB B k (labL ++ bodyL t) = (m, B')) :
    openT ky gone B (tkTxt t m) now = if now < t.fro ∨ t.til ≤ now then (tk0, 9, B') else if gone (t.serial : Int) = true then (tk0, 16, B') else (t, 0, B') := by
  unfold openT tkTxt
  rw [split_join hm (Nat.le_trans (txt_len hR hm) (by decide))]
  simp only
  rw [read_iff.2 ⟨hR, rfl⟩]
  simp only [hk, hmac]
  rw [if_pos trivial]
def annT : List UInt8 := [116]
def annU : List UInt8 := [97, 110, 110]
def annR : List UInt8 := [100, 101, 118]
theorem ann_ok : namedT annU = true ∧ plainF annT = true ∧ plainF annR = true := by decide +kernel
theorem ann_c (w : World) : Pu Tryz.prog n_ostiarylaw18_ann #[] w (.agg #[.string (mkS annT), .string (mkS annU), .string (mkS annR)]) := by
  have g := good_ostiarylaw18_ann w (Un [])
  refine con_of_sx (cx := cx_ostiarylaw18_ann w (Un [])) g b_ostiarylaw18_ann rfl rfl (β := Va.z) [] 0 [] [] rfl rfl (Sat.start rfl) ?_
  intro β w' hs
  exact (hs.keepB (List.nil_sublist _)).fin [] ⟨rfl, rfl⟩
theorem desk18_c (w : World) (sym : Bool) (life : Nat) (h1 : 1 ≤ life) (h2 : life ≤ 1099511627776) (hm : Mem w [oddF 4, firstF 1]) :
    Con Tryz.prog n_ostiarylaw18_desk #[.bool sym, .int .u64 (life : Int)] w [] fun v Fs => ∃ (r : Rg) (y : Lay) (b m1 m2 : Nat), v = .tuple #[ptrD b, ptrR r.b] ∧ r.master = [109] ∧ Kept r 3 0 (macB ⟨sym, false, []⟩ [109] (keyT 1).data.toList).1 ∧ GoodT ⟨sym, false, []⟩ (macB ⟨sym, false, []⟩ [109] (keyT 1).data.toList) ∧ y.ts.map (·.1) = (macB ⟨sym, false, []⟩ [109] (keyT 1).data.toList).2.L ∧
      Fs = [dkF ⟨b, r.b, life, 0, m1, m2, [], []⟩, rgF r, bxF r.bx (macB ⟨sym, false, []⟩ [109] (keyT 1).data.toList).2 y] := by
  have g := good_ostiarylaw18_desk w (Un [])
  refine con_go (cx := cx_ostiarylaw18_desk w (Un [])) g b_ostiarylaw18_desk [.c (.v (.bool sym)), .c (.v (.int .u64 (life : Int)))] [oddF 4, firstF 1] hm ?_
  refine call_con [] (fun β w' hs => newX_c w' sym) ?_
  rintro v Fs ⟨b0, y0, rfl, hy0, rfl⟩
  intro b1
  refine ⟨0, _, rfl, ?_⟩
  have hi0 := box0i sym
  obtain ⟨B, hB⟩ : ∃ B : Bx.Box, (⟨sym, false, []⟩ : Bx.Box) = B := ⟨_, rfl⟩
  have hL0 : B.L.length ≤ 0 := by rw [← hB]; exact Nat.le_refl _
  have hts0 : y0.ts.map (·.1) = B.L := by rw [← hB, hy0]; rfl
  rw [hB] at hi0 ⊢
  refine call_con [1] (fun β w' hs => newK_c w' b0 B y0 (some ⟨b1, 0, none⟩) [109] 1 3 (by decide) (by decide) (by decide) (by decide) hts0 hi0 (by omega) (hs.mem.take (js := [1, 0, 2, 3]) rfl)) ?_
  rintro v Fs ⟨r, y1, rfl, rb1, hma, k1, g1, hy1, rfl⟩
  refine call_con [] (fun β w' hs => newDesk_c w' r.b life) ?_
  rintro v Fs (⟨_, _, b, m1, m2, rfl, rfl⟩ | ⟨h, _⟩)
  rotate_left
  · exact absurd ⟨h1, h2⟩ h
  intro β w' hs
  exact hs.fin [0, 1, 2] ⟨r, y1, b, m1, m2, rfl, hma, k1, g1, hy1, by rw [rb1]; rfl⟩ rfl rfl rfl ⟨rfl, rfl, rfl, trivial⟩
theorem mnt_yes {r : Rg} {d : Dk} {B B2 : Bx.Box} {t : Tk} {v : Value} {Fs : List Fact} {k m : List UInt8} (h : mntOut r d B t v Fs) (hR : t.Right) (hk : r.ky (r.epoch : Int) = some k) (hq : macB B k (labL ++ bodyL t) = (m, B2)) :
    ∃ y', v = .tuple #[.string (mkS (tkTxt t m)), t.v, .int .i64 0] ∧ y'.ts.map (·.1) = B2.L ∧ Fs = [dkF (d.more t), rgF r, bxF r.bx B2 y'] := by
  rcases h with ⟨k', y', _, hk', rfl, hy, rfl⟩ | ⟨e, y', h, _⟩
  · rw [hk] at hk'
    obtain rfl := Option.some.inj hk'
    rw [hq] at hy ⊢
    exact ⟨y', rfl, hy, rfl⟩
  · rcases h with ⟨h, _⟩ | ⟨_, h, _⟩
    · exact absurd hR h
    · rw [hk] at h; cases h
theorem Kept.ky {r : Rg} {k t : Nat} {k1 : List UInt8} (h : Kept r k t k1) (hlt : t < k) : r.ky 1 = some k1 := by
  obtain ⟨q, hq, hp⟩ := h.key hlt
  unfold Rg.ky
  rw [hq, ← hp]
  rfl
theorem Kept.ep1 {r : Rg} {k : Nat} {k1 : List UInt8} (h : Kept r k 0 k1) (hlt : 0 < k) : r.ep = 1 := by
  obtain ⟨q, hq, _⟩ := h.key hlt
  have he := h.ep
  unfold Rg.ep
  rw [he]
  show (match r.key ((1 : Nat) : Int) with | some _ => 1 | none => 1) = 1
  split <;> rfl
def dk1 (b rb life m1 m2 : Nat) : Dk := ⟨b, rb, life, 0, m1, m2, [], []⟩
theorem awake18_c (w : World) (hm : Mem w [oddF 4, firstF 1, mlF, namF]) : Con Tryz.prog n_ostiarylaw18_awake #[] w [] fun v Fs => v = .bool true ∧ Fs = [] := by
  have g := good_ostiarylaw18_awake w (Un [])
  refine con_go (cx := cx_ostiarylaw18_awake w (Un [])) g b_ostiarylaw18_awake [] [oddF 4, firstF 1, mlF, namF] hm ?_
  refine call_con [] (fun β w' hs => desk18_c w' false 10 (by decide) (by decide) (hs.mem.take (js := [0, 1]) rfl)) ?_
  rintro v Fs ⟨r, y1, b, m1, m2, rfl, hma, kp, g1, hy1, rfl⟩
  generalize macB ⟨false, false, []⟩ [109] (keyT 1).data.toList = q1 at *
  obtain ⟨k1, B1⟩ := q1
  have l1 := g1.1.len
  have hk32 := g1.2.1
  have hi1 := g1.1.inv
  simp only at l1 hy1 kp hk32 hi1
  have hL1 : B1.L.length ≤ 1 := l1
  have hep : r.epoch = 1 := kp.ep
  have hep1 := kp.ep1 (by decide)
  have hky := kp.ky (by decide)
  refine call_pu (fun β w' hs => ann_c w') ?_
  obtain ⟨t, ht⟩ : ∃ t : Tk, (⟨1, 1, 5, 15, 7, annT, annU, annR⟩ : Tk) = t := ⟨_, rfl⟩
  have hR : t.Right := by
    obtain ⟨a1, a2, a3⟩ := ann_ok
    rw [← ht]
    exact ⟨a1, a2, a3, by decide, by decide, by decide, by decide, by decide, by decide, by decide, by decide⟩
  obtain ⟨q, hq⟩ : ∃ q, macB B1 k1 (labL ++ bodyL t) = q := ⟨_, rfl⟩
  have hbl := body_len hR
  have g2 := mac_good hi1 (by omega) (k := k1) (t := labL ++ bodyL t) (by omega) (by rw [List.length_append]; show 7 + _ ≤ _; omega)
  have h2a := mac_again (B := B1) (B' := (macB B1 k1 (labL ++ bodyL t)).2) (by omega) k1 (labL ++ bodyL t) (Pre.refl _)
  rw [hq] at g2 h2a
  obtain ⟨m, B2⟩ := q
  have l2 := g2.1.len
  have hm32 := g2.2.1
  have hi2 := g2.1.inv
  simp only at l2 hm32 hi2 h2a
  refine call_con [0, 1, 2] (fun β w' hs => (tkMint_c w' (dk1 b r.b 10 m1 m2) r B1 y1 annT annU annR 7 5 (by decide) (by decide) (by decide) (by decide) (by decide) rfl (Nat.zero_le _) (by omega) kp.p hy1 hi1 (by omega) (hs.mem.take (js := [0, 1, 2, 3, 4, 6]) rfl)).mono (fun v Fs h => by
    rw [hep1, show (⟨1, (dk1 b r.b 10 m1 m2).serial + 1, 5, addT 5 (dk1 b r.b 10 m1 m2).life, 7, annT, annU, annR⟩ : Tk) = t from ht] at h
    exact mnt_yes h hR (by rw [hep]; exact hky) hq)) ?_ ⟨rfl, rfl, rfl, trivial⟩
  rintro v Fs ⟨y2, rfl, hy2, rfl⟩
  obtain ⟨d2, hd2⟩ : ∃ d2, (dk1 b r.b 10 m1 m2).more t = d2 := ⟨_, rfl⟩
  have hb2 : d2.b = b := by rw [← hd2]; rfl
  have hr2 : d2.rb = r.b := by rw [← hd2]; rfl
  have hv2 : d2.rv = [] := by rw [← hd2]; rfl
  have ht2 : ilook d2.to 1 = some (.int .u64 15) := by rw [← hd2, ← ht]; rfl
  have hkt : r.ky (t.epoch : Int) = some k1 := by rw [← ht]; exact hky
  have htl := txt_len hR hm32
  have hfro : t.fro = 5 := by rw [← ht]
  have htil : t.til = 15 := by rw [← ht]
  have hser : t.serial = 1 := by rw [← ht]
  rw [hd2, ← hb2]
  refine call_con [0, 1, 2] (R := opnOut r d2 (t, 0, B2)) (fun β w' hs => by
    have h := tkOpen_c w' d2 r B2 y2 (tkTxt t m) 14 (by omega) hr2 kp.p hy2 hi2 (by omega) (by rw [hv2]; intro k v q; cases q) (hs.mem.take (js := [0, 1, 2, 3, 4, 5, 6]) rfl)
    rw [open_some 14 hR hm32 hkt h2a, if_neg (by omega), if_neg (by unfold Dk.gone; rw [hv2]; intro h; cases h)] at h
    exact h) ?_ ⟨rfl, rfl, rfl, trivial⟩
  rintro v Fs ⟨y3, hy3, rfl, rfl⟩
  simp only at hy3
  refine call_con [0, 1, 2] (R := opnOut r d2 (tk0, 9, B2)) (fun β w' hs => by
    have h := tkOpen_c w' d2 r B2 y3 (tkTxt t m) 15 (by omega) hr2 kp.p hy3 hi2 (by omega) (by rw [hv2]; intro k v q; cases q) (hs.mem.take (js := [0, 1, 2, 3, 4, 5, 6]) rfl)
    rw [open_some 15 hR hm32 hkt h2a, if_pos (by omega)] at h
    exact h) ?_ ⟨rfl, rfl, rfl, trivial⟩
  rintro v Fs ⟨y4, hy4, rfl, rfl⟩
  simp only at hy4
  refine call_con [0] (fun β w' hs => (tkRevoke_c w' d2 1 (by rw [hv2]; intro v q; cases q) (hs.mem.take (js := [0]) rfl)).mono (fun v Fs h => by
    unfold revD at h
    rw [show ((1 : Nat) : Int) = 1 from rfl, ht2, hv2, if_neg (by simp), if_pos (show ilook [] (1 : Int) = none from rfl)] at h
    exact h)) ?_
  rintro v Fs ⟨rfl, rfl⟩
  obtain ⟨d3, hd3⟩ : ∃ d3 : Dk, ({ d2 with rv := iput [] 1 (.bool true) } : Dk) = d3 := ⟨_, rfl⟩
  have hb3 : d2.b = d3.b := by rw [← hd3]
  have hr3 : d3.rb = r.b := by rw [← hd3]; exact hr2
  have hv3 : d3.rv = [(1, .bool true)] := by rw [← hd3]; rfl
  rw [hd3, hb3]
  refine call_con [0, 1, 2] (R := opnOut r d3 (tk0, 16, B2)) (fun β w' hs => by
    have h := tkOpen_c w' d3 r B2 y4 (tkTxt t m) 14 (by omega) hr3 kp.p hy4 hi2 (by omega) (by rw [hv3]; intro k v q; unfold ilook at q; split at q; exact (Option.some.inj q).symm; cases q) (hs.mem.take (js := [0, 1, 2, 3, 4, 5, 6]) rfl)
    rw [open_some 14 hR hm32 hkt h2a, if_neg (by omega), if_pos (by unfold Dk.gone; rw [hv3, hser]; rfl)] at h
    exact h) ?_ ⟨rfl, rfl, rfl, trivial⟩
  rintro v Fs ⟨y5, hy5, rfl, rfl⟩
  subst ht
  refine draw_rule g p_ostiarylaw18_awake_7 (by kernel_rfl) [⟨3, ty_ticket_Ticket, tk0.cells.map SL.v⟩, ⟨2, ty_ticket_Ticket, tk0.cells.map SL.v⟩, ⟨1, ty_ticket_Ticket, (Tk.cells ⟨1, 1, 5, 15, 7, annT, annU, annR⟩).map SL.v⟩, ⟨0, ty_ticket_Ticket, (Tk.cells ⟨1, 1, 5, 15, 7, annT, annU, annR⟩).map SL.v⟩] [] (Sub.of (List.Sublist.refl _) (List.nil_sublist _)) ?_
  refine call_pu (fun β w' hs => ann_c w') ?_
  refine ⟨Sub.of (List.Sublist.refl _) (List.nil_sublist _), ?_⟩
  refine ⟨true, fun β w' => by
    have h := eql_who annT annU annR annT annU annR (.tmp 56) (.tmp 57) w'
    rw [decide_eq_true (⟨rfl, rfl, rfl⟩ : annT = annT ∧ annU = annU ∧ annR = annR)] at h
    exact h, ?_⟩
  intro β w' hs
  exact (hs.keepB (List.nil_sublist _)).fin [] ⟨rfl, rfl⟩
theorem cutTextK_c (w : World) (s : ByteArray) (k : Nat) (hk : k ≤ 1000000) : Pu Tryz.prog n_ostiaryref01_CutText #[.string s, .int .i64 k] w (.string (mkS (s.data.toList.take k))) := by
  refine pu_of (calls_of_sx (cx := cx_ostiaryref01_CutText w None_) (good_ostiaryref01_CutText w None_) b_ostiaryref01_CutText rfl rfl (β := Va.z) [.c (.v (.string s)), .c (.v (.int .i64 k))] 0 [] [] rfl rfl (Sat.start rfl) ?_)
  refine ⟨((min s.size k : Nat) : Int), by dsimp only; omega, ?_⟩
  refine ⟨min s.size k, 0, rfl, rfl, by omega, Nat.zero_le _, ?_⟩
  intro β w' hs
  refine ⟨?_, hs.chg⟩
  have e : s.data.toList.take k = s.data.toList.take (min s.size k) := by
    rw [List.take_eq_take_min, show s.data.toList.length = s.size from rfl, Nat.min_comm]
  rw [e, ← mkS_take, mkS_of]
  rfl
def Tk.few (t : Tk) : Tk := { t with ten := t.ten.take 40, usr := t.usr.take 40, rol := t.rol.take 40 }
def q_few_1 : Plan := .take 0 (.take 1 (.take 2 (.take 4 (.take 5 (.take 6 (.take 8 (.take 9 (.take 10 (.exec 3 (.exec 7 (.exec 11 (.take 12 (.take 13 (.brk 14 .done))))))))))))))
theorem refFew_c (w : World) (t : Tk) : Con Tryz.prog n_ostiaryref18_Few #[.agg t.cells.toArray] w [] fun v Fs => v = .agg t.few.cells.toArray ∧ Fs = [] := by
  have g := good_ostiaryref18_Few w (Un [])
  refine con_of_sx (cx := cx_ostiaryref18_Few w (Un [])) g b_ostiaryref18_Few rfl rfl (β := Va.z) [.agg (t.cells.map SL.v)] 0 [] [] rfl rfl (Sat.start rfl) ?_
  refine draw_rule g q_few_1 (by kernel_rfl) [⟨1, ty_ostiaryref18_Ticket, tk0.cells.map SL.v⟩, ⟨0, ty_ostiaryref18_Ticket, t.cells.map SL.v⟩] [] Sub.refl ?_
  have ct : ∀ (l : List UInt8) (w' : World), Pu Tryz.prog n_ostiaryref01_CutText #[.string (mkS l), .int .i64 40] w' (.string (mkS (l.take 40))) := fun l w' => by
    have h := cutTextK_c w' (mkS l) 40 (by decide)
    rw [mkS_out] at h
    exact h
  refine call_pu (fun β w' hs => ct t.ten w') ?_
  refine ⟨Sub.refl, ?_⟩
  refine call_pu (fun β w' hs => ct t.usr w') ?_
  refine ⟨Sub.refl, ?_⟩
  refine call_pu (fun β w' hs => ct t.rol w') ?_
  refine ⟨Sub.refl, ?_⟩
  intro β w' hs
  exact (hs.keepB (List.nil_sublist _)).fin [] ⟨rfl, rfl⟩
theorem open_bad {ky : Int → Option (List UInt8)} {gone : Int → Bool} {B : Bx.Box} {t : Tk} {k m m' : List UInt8} (now : Nat) (hR : t.Right) (hm : m.length = 32) (hk : ky (t.epoch : Int) = some k) (hmac : macB B k (labL ++ bodyL t) = (m', B)) (hne : ¬ m' = m) :
    openT ky gone B (tkTxt t m) now = (tk0, 13, B) := by
  unfold openT tkTxt
  rw [split_join hm (Nat.le_trans (txt_len hR hm) (by decide))]
  simp only
  rw [read_iff.2 ⟨hR, rfl⟩]
  simp only [hk, hmac]
  rw [if_neg hne]
theorem body_inj {t u : Tk} (ht : t.Right) (hu : u.Right) (h : bodyL t = bodyL u) : t = u := by
  have h1 := read_iff.2 ⟨ht, rfl⟩
  have h2 := read_iff.2 ⟨hu, rfl⟩
  rw [h, h2] at h1
  exact (Option.some.inj h1).symm
theorem txt_cat (t : Tk) (m : List UInt8) : ((mkS (encS true (bodyL t)) ++ ⟨#[46]⟩ : ByteArray) ++ mkS (encS true m)) = mkS (tkTxt t m) := by
  unfold tkTxt
  apply ByteArray.ext
  simp [mkS]
def Tk.one (t : Tk) : Tk := { t.few with epoch := 1 }
open Classical in
theorem ticketForged_c (w : World) (t0 o0 : Tk) (A : Option Addr) (p : List UInt8) (c : Nat) (hc : p.length ≤ c) (ht0 : t0.serial < 18446744073709551616 ∧ t0.fro < 18446744073709551616 ∧ t0.til < 18446744073709551616 ∧ t0.gen < 18446744073709551616) (ho0 : o0.serial < 18446744073709551616 ∧ o0.fro < 18446744073709551616 ∧ o0.til < 18446744073709551616 ∧ o0.gen < 18446744073709551616) (hm : Mem w [bsF A p, oddF 4, firstF 1, mlF, namF]) :
    Con Tryz.prog n_ostiarylaw18_TicketForged #[.agg t0.cells.toArray, .agg o0.cells.toArray, .slice A p.length c] w [] fun v Fs => v = .bool true ∧ Fs = [] := by
  have g := good_ostiarylaw18_TicketForged w (Un [])
  refine con_goT (cx := cx_ostiarylaw18_TicketForged w (Un [])) g b_ostiarylaw18_TicketForged [.agg (t0.cells.map SL.v), .agg (o0.cells.map SL.v), .c (.v (.slice A p.length c))] [bsF A p, oddF 4, firstF 1, mlF, namF] hm ?_
  refine tri_seq g ?_
  refine tri_seq g ?_
  refine call_con [] (fun β w' hs => awake18_c w' (hs.mem.take (js := [1, 2, 3, 4]) rfl)) ?_
  rintro v Fs ⟨rfl, rfl⟩
  refine tri_seq g ?_
  refine call_con [] (fun β w' hs => desk18_c w' true 100 (by decide) (by decide) (hs.mem.take (js := [1, 2]) rfl)) ?_
  rintro v Fs ⟨r, y1, b, m1, m2, rfl, hma, kp, g1, hy1, rfl⟩
  obtain ⟨d, hd⟩ : ∃ d : Dk, (⟨b, r.b, 100, 0, m1, m2, [], []⟩ : Dk) = d := ⟨_, rfl⟩
  have hdb : d.b = b := by rw [← hd]
  have hdr : d.rb = r.b := by rw [← hd]
  have hdv : d.rv = [] := by rw [← hd]
  rw [hd, ← hdb]
  clear hd hdb
  have hsy : (macB ⟨true, false, []⟩ [109] (keyT 1).data.toList).2.sym = true := g1.1.sym
  generalize macB ⟨true, false, []⟩ [109] (keyT 1).data.toList = q1 at *
  obtain ⟨k1, B1⟩ := q1
  have l1 := g1.1.len
  have hk32 := g1.2.1
  have hi1 := g1.1.inv
  simp only at l1 hy1 kp hk32 hi1 hsy
  have hL1 : B1.L.length ≤ 1 := l1
  have hep : r.epoch = 1 := kp.ep
  obtain ⟨rk, hrk, hrp⟩ := kp.key (by decide)
  have hky := kp.ky (by decide)
  refine tri_seqJ (ι := Unit) g (fun _ => True) 2 (fun _ => [(2, .c (.v (.slice A p.length c))), (3, .c (.p 0 0)), (4, .c (.p 1 0)), (7, .c (.v (ptrD d.b))), (8, .c (.v (ptrR r.b)))])
    (fun _ => [⟨1, ty_ostiaryref18_Ticket, o0.few.cells.map SL.v⟩, ⟨0, ty_ostiaryref18_Ticket, t0.few.cells.map SL.v⟩]) (fun _ => [dkF d, rgF r, bxF r.bx B1 y1, bsF A p, oddF 4, firstF 1, mlF, namF]) ?_ ?_
  rotate_left
  · refine draw_rule g p_ostiarylaw18_TicketForged_4 (by kernel_rfl) [] [] (Sub.of (List.nil_sublist _) (List.nil_sublist _)) ?_
    have hS : ∀ {n : Nat} {H : List Bk} {F : List Fact}, Sub (cx_ostiarylaw18_TicketForged w (Un [])) n H F [] [] := fun {n H F} => Sub.of (List.nil_sublist _) (List.nil_sublist _)
    refine ⟨?_, ?_⟩
    · refine ⟨hS, ?_⟩
      refine ⟨?_, ?_⟩
      · skip
        refine call_con [] (fun β w' hs => refFew_c w' t0) ?_
        rintro v Fs ⟨rfl, rfl⟩
        refine ⟨hS, ?_⟩
        refine ⟨hS, ?_⟩
        refine call_con [] (fun β w' hs => refFew_c w' o0) ?_
        rintro v Fs ⟨rfl, rfl⟩
        refine ⟨hS, ?_⟩
        refine ⟨hS, ?_⟩
        refine ⟨hS, ?_⟩
        exact EntX.of () trivial (Ent.mk' ⟨rfl, rfl, rfl, rfl, rfl, trivial⟩ rfl (fun β w' hs => hs))
      · skip
        refine ⟨hS, ?_⟩
        refine call_con [] (fun β w' hs => refFew_c w' t0) ?_
        rintro v Fs ⟨rfl, rfl⟩
        refine ⟨hS, ?_⟩
        refine call_con [] (fun β w' hs => refFew_c w' o0) ?_
        rintro v Fs ⟨rfl, rfl⟩
        refine ⟨hS, ?_⟩
        refine ⟨hS, ?_⟩
        refine ⟨hS, ?_⟩
        exact EntX.of () trivial (Ent.mk' ⟨rfl, rfl, rfl, rfl, rfl, trivial⟩ rfl (fun β w' hs => hs))
    · skip
      refine ⟨hS, ?_⟩
      refine ⟨hS, ?_⟩
      refine call_con [] (fun β w' hs => refFew_c w' t0) ?_
      rintro v Fs ⟨rfl, rfl⟩
      refine ⟨hS, ?_⟩
      refine call_con [] (fun β w' hs => refFew_c w' o0) ?_
      rintro v Fs ⟨rfl, rfl⟩
      refine ⟨hS, ?_⟩
      refine ⟨hS, ?_⟩
      refine ⟨hS, ?_⟩
      exact EntX.of () trivial (Ent.mk' ⟨rfl, rfl, rfl, rfl, rfl, trivial⟩ rfl (fun β w' hs => hs))
  rintro ⟨⟩ -
  refine tri_seq g ?_
  have hok : ∀ {x : Tk}, (x.serial < 18446744073709551616 ∧ x.fro < 18446744073709551616 ∧ x.til < 18446744073709551616 ∧ x.gen < 18446744073709551616) → x.one.Ok := fun {x} h => ⟨by show 1 < _; decide, h.1, h.2.1, h.2.2.1, h.2.2.2, by show (x.ten.take 40).length ≤ _; rw [List.length_take]; omega, by show (x.usr.take 40).length ≤ _; rw [List.length_take]; omega, by show (x.rol.take 40).length ≤ _; rw [List.length_take]; omega⟩
  have htok := hok ht0
  have hook := hok ho0
  refine tri_join (ι := Unit) (fun _ => True) 2 (fun _ => [(2, .c (.v (.slice A p.length c))), (3, .c (.p 0 0)), (4, .c (.p 1 0)), (7, .c (.v (ptrD d.b))), (8, .c (.v (ptrR r.b)))])
    (fun _ => [⟨1, ty_ostiaryref18_Ticket, o0.one.cells.map SL.v⟩, ⟨0, ty_ostiaryref18_Ticket, t0.one.cells.map SL.v⟩]) (fun _ => [dkF d, rgF r, bxF r.bx B1 y1, bsF A p, oddF 4, firstF 1, mlF, namF]) ?_ (EntX.of () trivial (Ent.mk' ⟨rfl, rfl, rfl, rfl, rfl, trivial⟩ rfl (fun β w' hs => hs)))
  have hte1 : t0.one.epoch = 1 := rfl
  generalize t0.one = t at htok hte1 ⊢
  generalize o0.one = o at hook ⊢
  clear ht0 ho0 hok
  rintro ⟨⟩ -
  refine tri_seq g ?_
  refine call_con [] (fun β w' hs => refBody_c w' t htok) ?_
  rintro v Fs (⟨hR, Ab, cb, rfl, hcb, rfl⟩ | ⟨hR, rfl, rfl⟩)
  rotate_left
  · refine tri_seq g ?_
    refine call_con [] (fun β w' hs => refBody_c w' o hook) ?_
    rintro v Fs (⟨_, Ao, co, rfl, _, rfl⟩ | ⟨_, rfl, rfl⟩)
    · refine tri_seq g ?_
      intro β w' hs
      exact (hs.keepB (List.nil_sublist _)).fin [] ⟨rfl, rfl⟩
    · refine tri_seq g ?_
      intro β w' hs
      exact (hs.keepB (List.nil_sublist _)).fin [] ⟨rfl, rfl⟩
  refine tri_seq g ?_
  refine call_con [] (fun β w' hs => refBody_c w' o hook) ?_
  rintro v Fs (⟨hRo, Ao, co, rfl, hco, rfl⟩ | ⟨hRo, rfl, rfl⟩)
  rotate_left
  · refine tri_seq g ?_
    intro β w' hs
    exact (hs.keepB (List.nil_sublist _)).fin [] ⟨rfl, rfl⟩
  refine tri_seq g ?_
  refine ⟨decide (t = o), fun β w' => eql_tk tkTy_r t o (.tmp 55) (.tmp 56) w', ?_⟩
  by_cases hto : t = o
  · rw [decide_eq_true hto]
    intro β w' hs
    exact (hs.keepB (List.nil_sublist _)).fin [] ⟨rfl, rfl⟩
  rw [decide_eq_false hto]
  have hlR := body_len hR
  have hlRo := body_len hRo
  have hlb : (labL ++ bodyL t).length ≤ 1000000 := by rw [List.length_append]; show 7 + _ ≤ _; omega
  have hlo : (labL ++ bodyL o).length ≤ 1000000 := by rw [List.length_append]; show 7 + _ ≤ _; omega
  have g2 := mac_good hi1 (by omega) (k := k1) (t := labL ++ bodyL o) (by omega) hlo
  have p2 := mac_pre (B := B1) (by omega) k1 (labL ++ bodyL o)
  obtain ⟨q2, hq2⟩ : ∃ q, macB B1 k1 (labL ++ bodyL o) = q := ⟨_, rfl⟩
  rw [hq2] at g2 p2
  obtain ⟨m2, B2⟩ := q2
  have l2 := g2.1.len
  have hm2 := g2.2.1
  have hi2 := g2.1.inv
  have hs2 := g2.1.sym
  simp only at l2 hm2 hi2 hs2 p2
  have g3 := mac_good hi2 (by omega) (k := k1) (t := labL ++ bodyL t) (by omega) hlb
  have h3a := mac_again (B := B2) (B' := (macB B2 k1 (labL ++ bodyL t)).2) (by omega) k1 (labL ++ bodyL t) (Pre.refl _)
  have hap : ¬ m2 = (macB B2 k1 (labL ++ bodyL t)).1 := fun e => by
    have h := mac_apart hi1 hi2 hsy (by rw [hs2]; exact hsy) (by omega) (by omega) (k := k1) (t := labL ++ bodyL o) (k' := k1) (t' := labL ++ bodyL t) (by omega) hlo (by omega) hlb (by rw [hq2]; exact Pre.refl _) (by rw [hq2]; exact e)
    exact hto (body_inj hR hRo (List.append_cancel_left h.2).symm)
  obtain ⟨q3, hq3⟩ : ∃ q, macB B2 k1 (labL ++ bodyL t) = q := ⟨_, rfl⟩
  rw [hq3] at g3 h3a hap
  obtain ⟨m3, B3⟩ := q3
  have l3 := g3.1.len
  have hm3 := g3.2.1
  have hi3 := g3.1.inv
  simp only at l3 hm3 hi3 h3a hap
  refine tri_seq g ?_
  intro b1
  refine ⟨0, labL.map byte, rfl, ?_⟩
  intro b2
  have hrk2 : r.key (r.epoch : Int) = some rk := by rw [hep]; exact hrk
  refine call_con [5, 6] (fun β w' hs => by
    have h := (((hs.rowRd 0 rfl).rowRd 2 rfl).part2 (P := some ⟨b2, 0, none⟩) (A := some ⟨b1, 0, none⟩) (l := labL) (c := 7) (B := Ao) (m := bodyL o) (d := co) [0, 1, 2] rfl)
    have h2 := signB_c w' r.bx r rfl rk hrk2 B1 y1 b2 [(some ⟨b1, 0, none⟩, labL, 7), (Ao, bodyL o, co)] 2 rfl (by simp) (by show 2 ≤ 1000; decide) kp.p (by rw [two_parts]; exact hlo) hy1 hi1 (by omega) (h.mem.take (js := [6, 7, 0, 9, 10]) rfl)
    rw [two_parts, hrp, hq2] at h2
    exact h2) ?_
  rintro v Fs ⟨M, dm, y2, rfl, hdm, hy2, rfl⟩
  simp only at hdm hy2
  refine tri_seq g ?_
  refine tri_seq g ?_
  refine call_con [] (fun β w' hs => cutC w' A p c 32 (hs.get 8 rfl) hc (by decide)) ?_
  rintro v Fs ⟨A1, c1, rfl, q1, _, rfl⟩
  have hp1 : (p.take 32).length ≤ 32 := by rw [List.length_take]; omega
  generalize p.take 32 = p1 at hp1 q1 ⊢
  have hml := maxLen_eq
  have hzl : (p1 ++ List.replicate 32 (0 : UInt8)).length = p1.length + 32 := by rw [List.length_append, List.length_replicate]
  refine ⟨0, p1.length, 32, (p1 ++ List.replicate 32 (0 : UInt8)).length, p1.map byte, repl [.int .u8 0] 32, (p1 ++ List.replicate 32 (0 : UInt8)).map byte, rfl, ⟨rfl, rfl, by decide⟩, hzl.symm, by rw [List.map_append, zeros_map], by omega, by rw [hzl]; show (p1.length + 32) * 1 ≤ _; omega, ?_⟩
  intro A2 c2 hc2 _ _
  refine call_con [] (fun β w' hs => cutC w' A2 (p1 ++ List.replicate 32 (0 : UInt8)) c2 32 (row_rd (hs.get 0 rfl)) hc2 (by decide)) ?_
  rintro v Fs ⟨A3, c3, rfl, q3, _, rfl⟩
  have hf32 : ((p1 ++ List.replicate 32 (0 : UInt8)).take 32).length = 32 := by rw [List.length_take]; omega
  generalize (p1 ++ List.replicate 32 (0 : UInt8)).take 32 = f at hf32 q3 ⊢
  refine tri_seq g ?_
  intro b3
  refine ⟨0, labL.map byte, rfl, ?_⟩
  intro b4
  refine call_con [5, 6] (fun β w' hs => by
    have h := (((hs.rowRd 0 rfl).rowRd 10 rfl).part2 (P := some ⟨b4, 0, none⟩) (A := some ⟨b3, 0, none⟩) (l := labL) (c := 7) (B := Ab) (m := bodyL t) (d := cb) [0, 1, 10] rfl)
    have h2 := signB_c w' r.bx r rfl rk hrk2 B2 y2 b4 [(some ⟨b3, 0, none⟩, labL, 7), (Ab, bodyL t, cb)] 2 rfl (by simp) (by show 2 ≤ 1000; decide) kp.p (by rw [two_parts]; exact hlb) hy2 hi2 (by omega) (h.mem.take (js := [6, 7, 0, 14, 15]) rfl)
    rw [two_parts, hrp, hq3] at h2
    exact h2) ?_
  rintro v Fs ⟨N, dn, y3, rfl, hdn, hy3, rfl⟩
  simp only at hdn hy3
  refine tri_seq g ?_
  refine call_pu (v := .bool (decide (f = m3))) (fun β w' hs => sameB_c w' A3 N f m3 c3 dn (row_rd (hs.get 5 rfl)) (row_rd (hs.get 0 rfl))) ?_
  by_cases hfm : f = m3
  · rw [decide_eq_true hfm]
    intro β w' hs
    exact (hs.keepB (List.nil_sublist _)).fin [] ⟨rfl, rfl⟩
  rw [decide_eq_false hfm]
  have hkt : r.ky (t.epoch : Int) = some k1 := by rw [hte1]; exact hky
  have hL3 : B3.L.length ≤ 10 := by omega
  have hlf : (bodyL t).length ≤ 1000 := by omega
  have e1 : (encS true (bodyL t)).length = (8 * (bodyL t).length + 5) / 6 := b64L_len true (bodyL t)
  have esz : ∀ m : List UInt8, m.length = 32 → ((mkS (encS true (bodyL t)) ++ ⟨#[46]⟩ : ByteArray)).size + (mkS (encS true m)).size ≤ maxLen := fun m hm => by
    have e2 : (encS true m).length = (8 * m.length + 5) / 6 := b64L_len true m
    rw [ByteArray.size_append, mkS_sz, mkS_sz]
    show _ + 1 + _ ≤ maxLen
    omega
  have esz0 : (mkS (encS true (bodyL t))).size + (⟨#[46]⟩ : ByteArray).size ≤ maxLen := by rw [mkS_sz]; show _ + 1 ≤ maxLen; omega
  have opn : ∀ (m : List UInt8) (e : Int) (u : Tk), m.length = 32 → openT r.ky d.gone B3 (tkTxt t m) t.fro = (u, e, B3) → ∀ (w' : World) (y : Lay), y.ts.map (·.1) = B3.L → Mem w' [dkF d, rgF r, bxF r.bx B3 y, oddF 4, firstF 1, mlF, namF] →
      Con Tryz.prog n_ticket_Desk_Open #[ptrD d.b, .string ((mkS (encS true (bodyL t)) ++ ⟨#[46]⟩ : ByteArray) ++ mkS (encS true m)), .int .u64 (t.fro : Int)] w' [dkF d, rgF r, bxF r.bx B3 y] (opnOut r d (u, e, B3)) := fun m e u hm ho w' y hy hmm => by
    have h := tkOpen_c w' d r B3 y (tkTxt t m) t.fro (Nat.le_trans (txt_len hR hm) (by decide)) hdr kp.p hy hi3 (by omega) (by rw [hdv]; intro k v q; cases q) hmm
    rw [ho] at h
    rw [txt_cat]
    exact h
  have o1 : openT r.ky d.gone B3 (tkTxt t m2) t.fro = (tk0, 13, B3) := open_bad t.fro hR hm2 hkt h3a (fun e => hap e.symm)
  have o2 : openT r.ky d.gone B3 (tkTxt t f) t.fro = (tk0, 13, B3) := open_bad t.fro hR hf32 hkt h3a (fun e => hfm e.symm)
  have o3 : openT r.ky d.gone B3 (tkTxt t m3) t.fro = (t, 0, B3) := by
    have := hR.lt
    rw [open_some t.fro hR hm3 hkt h3a, if_neg (by omega), if_neg (by unfold Dk.gone; rw [hdv]; intro h; cases h)]
  have hS : ∀ {n : Nat} {H H0 : List Bk} {F : List Fact}, H0.Sublist H → Sub (cx_ostiarylaw18_TicketForged w (Un [])) n H F H0 [] := fun h => Sub.of h (List.nil_sublist _)
  refine tri_join (ι := Lay) (fun y => y.ts.map (·.1) = B3.L) 2 (fun _ => [(3, .c (.p 0 0)), (7, .c (.v (ptrD d.b))), (9, .c (.v (.slice Ab (bodyL t).length cb))), (14, .c (.v (.slice M m2.length dm))), (16, .c (.v (.slice A3 f.length c3))), (18, .c (.v (.slice N m3.length dn)))]) (fun _ => [⟨0, ty_ostiaryref18_Ticket, t.cells.map SL.v⟩]) (fun y => [dkF d, rgF r, bxF r.bx B3 y, browF ty_uint8 Ab (bodyL t) cb, browF ty_uint8 M m2 dm, browF ty_uint8 A3 f c3, browF ty_uint8 N m3 dn, oddF 4, firstF 1, mlF, namF]) ?_ (EntX.of y3 hy3 (Ent.mk' ⟨rfl, rfl, rfl, rfl, rfl, rfl, trivial⟩ rfl (fun β w' hs => (hs.keepB (List.sublist_cons_self _ _)).perm [12, 1, 2, 11, 7, 5, 0, 14, 15, 16, 17])))
  intro y hy
  refine tri_seqJ (ι := Lay) g (fun y => y.ts.map (·.1) = B3.L) 3 (fun _ => [(3, .c (.p 0 0)), (7, .c (.v (ptrD d.b))), (9, .c (.v (.slice Ab (bodyL t).length cb))), (14, .c (.v (.slice M m2.length dm))), (16, .c (.v (.slice A3 f.length c3))), (18, .c (.v (.slice N m3.length dn))), (21, .c (.v (.int .i64 13)))]) (fun _ => [⟨0, ty_ostiaryref18_Ticket, t.cells.map SL.v⟩]) (fun y => [dkF d, rgF r, bxF r.bx B3 y, browF ty_uint8 Ab (bodyL t) cb, browF ty_uint8 M m2 dm, browF ty_uint8 A3 f c3, browF ty_uint8 N m3 dn, oddF 4, firstF 1, mlF, namF]) ?_ ?_
  rotate_left
  · refine draw_rule g p_ostiarylaw18_TicketForged_17 (by kernel_rfl) [⟨0, ty_ostiaryref18_Ticket, t.cells.map SL.v⟩] [] (hS (List.Sublist.refl _)) ?_
    refine ⟨?_, ?_⟩
    · skip
      refine call_con [] (fun β w' hs => rEncode_c w' Ab (bodyL t) cb true (by omega) ((hs.rowRd 3 rfl).mem.take (js := [3]) rfl)) ?_
      rintro v Fs ⟨rfl, rfl⟩
      refine ⟨hS (List.Sublist.refl _), ?_⟩
      refine ⟨esz0, ?_⟩
      refine ⟨?_, ?_⟩
      · skip
        refine call_con [] (fun β w' hs => rEncode_c w' M m2 dm true (by omega) ((hs.rowRd 4 rfl).mem.take (js := [4]) rfl)) ?_
        rintro v Fs ⟨rfl, rfl⟩
        refine ⟨hS (List.Sublist.refl _), ?_⟩
        refine ⟨esz m2 hm2, ?_⟩
        refine ⟨?_, ?_⟩
        · skip
          refine call_con [0, 1, 2] (fun β w' hs => opn m2 13 tk0 hm2 o1 w' y hy (hs.mem.take (js := [0, 1, 2, 7, 8, 9, 10]) rfl)) ?_ ⟨rfl, rfl, rfl, trivial⟩
          rintro v Fs ⟨y9, hy9, rfl, rfl⟩
          refine ⟨hS (List.Sublist.refl _), ?_⟩
          refine ⟨hS (List.sublist_cons_self _ _), ?_⟩
          refine ⟨hS (List.sublist_cons_self _ _), ?_⟩
          exact EntX.of y9 hy9 (Ent.mk' ⟨rfl, rfl, rfl, rfl, rfl, rfl, rfl, trivial⟩ rfl (fun β w' hs => hs.keepB (List.sublist_cons_self _ _)))
        · refine ⟨hS (List.sublist_cons_self _ _), ?_⟩
          refine call_con [0, 1, 2] (fun β w' hs => opn m2 13 tk0 hm2 o1 w' y hy (hs.mem.take (js := [0, 1, 2, 7, 8, 9, 10]) rfl)) ?_ ⟨rfl, rfl, rfl, trivial⟩
          rintro v Fs ⟨y9, hy9, rfl, rfl⟩
          refine ⟨hS (List.sublist_cons_self _ _), ?_⟩
          refine ⟨hS (List.sublist_cons_self _ _), ?_⟩
          exact EntX.of y9 hy9 (Ent.mk' ⟨rfl, rfl, rfl, rfl, rfl, rfl, rfl, trivial⟩ rfl (fun β w' hs => hs.keepB (List.sublist_cons_self _ _)))
      · refine ⟨hS (List.sublist_cons_self _ _), ?_⟩
        refine call_con [] (fun β w' hs => rEncode_c w' M m2 dm true (by omega) ((hs.rowRd 4 rfl).mem.take (js := [4]) rfl)) ?_
        rintro v Fs ⟨rfl, rfl⟩
        refine ⟨hS (List.sublist_cons_self _ _), ?_⟩
        refine ⟨esz m2 hm2, ?_⟩
        refine call_con [0, 1, 2] (fun β w' hs => opn m2 13 tk0 hm2 o1 w' y hy (hs.mem.take (js := [0, 1, 2, 7, 8, 9, 10]) rfl)) ?_ ⟨rfl, rfl, rfl, trivial⟩
        rintro v Fs ⟨y9, hy9, rfl, rfl⟩
        refine ⟨hS (List.sublist_cons_self _ _), ?_⟩
        refine ⟨hS (List.sublist_cons_self _ _), ?_⟩
        exact EntX.of y9 hy9 (Ent.mk' ⟨rfl, rfl, rfl, rfl, rfl, rfl, rfl, trivial⟩ rfl (fun β w' hs => hs.keepB (List.sublist_cons_self _ _)))
    · refine ⟨hS (List.sublist_cons_self _ _), ?_⟩
      refine call_con [] (fun β w' hs => rEncode_c w' Ab (bodyL t) cb true (by omega) ((hs.rowRd 3 rfl).mem.take (js := [3]) rfl)) ?_
      rintro v Fs ⟨rfl, rfl⟩
      refine ⟨hS (List.sublist_cons_self _ _), ?_⟩
      refine ⟨esz0, ?_⟩
      refine call_con [] (fun β w' hs => rEncode_c w' M m2 dm true (by omega) ((hs.rowRd 4 rfl).mem.take (js := [4]) rfl)) ?_
      rintro v Fs ⟨rfl, rfl⟩
      refine ⟨hS (List.sublist_cons_self _ _), ?_⟩
      refine ⟨esz m2 hm2, ?_⟩
      refine call_con [0, 1, 2] (fun β w' hs => opn m2 13 tk0 hm2 o1 w' y hy (hs.mem.take (js := [0, 1, 2, 7, 8, 9, 10]) rfl)) ?_ ⟨rfl, rfl, rfl, trivial⟩
      rintro v Fs ⟨y9, hy9, rfl, rfl⟩
      refine ⟨hS (List.sublist_cons_self _ _), ?_⟩
      refine ⟨hS (List.sublist_cons_self _ _), ?_⟩
      exact EntX.of y9 hy9 (Ent.mk' ⟨rfl, rfl, rfl, rfl, rfl, rfl, rfl, trivial⟩ rfl (fun β w' hs => hs.keepB (List.sublist_cons_self _ _)))
  intro y hy
  refine tri_seqJ (ι := Lay) g (fun y => y.ts.map (·.1) = B3.L) 4 (fun _ => [(3, .c (.p 0 0)), (7, .c (.v (ptrD d.b))), (9, .c (.v (.slice Ab (bodyL t).length cb))), (14, .c (.v (.slice M m2.length dm))), (16, .c (.v (.slice A3 f.length c3))), (18, .c (.v (.slice N m3.length dn))), (21, .c (.v (.int .i64 13))), (23, .c (.v (.int .i64 13)))]) (fun _ => [⟨0, ty_ostiaryref18_Ticket, t.cells.map SL.v⟩]) (fun y => [dkF d, rgF r, bxF r.bx B3 y, browF ty_uint8 Ab (bodyL t) cb, browF ty_uint8 M m2 dm, browF ty_uint8 A3 f c3, browF ty_uint8 N m3 dn, oddF 4, firstF 1, mlF, namF]) ?_ ?_
  rotate_left
  · refine draw_rule g p_ostiarylaw18_TicketForged_18 (by kernel_rfl) [⟨0, ty_ostiaryref18_Ticket, t.cells.map SL.v⟩] [] (hS (List.Sublist.refl _)) ?_
    refine ⟨?_, ?_⟩
    · skip
      refine call_con [] (fun β w' hs => rEncode_c w' Ab (bodyL t) cb true (by omega) ((hs.rowRd 3 rfl).mem.take (js := [3]) rfl)) ?_
      rintro v Fs ⟨rfl, rfl⟩
      refine ⟨hS (List.Sublist.refl _), ?_⟩
      refine ⟨esz0, ?_⟩
      refine ⟨?_, ?_⟩
      · skip
        refine call_con [] (fun β w' hs => rEncode_c w' A3 f c3 true (by omega) ((hs.rowRd 5 rfl).mem.take (js := [5]) rfl)) ?_
        rintro v Fs ⟨rfl, rfl⟩
        refine ⟨hS (List.Sublist.refl _), ?_⟩
        refine ⟨esz f hf32, ?_⟩
        refine ⟨?_, ?_⟩
        · skip
          refine call_con [0, 1, 2] (fun β w' hs => opn f 13 tk0 hf32 o2 w' y hy (hs.mem.take (js := [0, 1, 2, 7, 8, 9, 10]) rfl)) ?_ ⟨rfl, rfl, rfl, trivial⟩
          rintro v Fs ⟨y9, hy9, rfl, rfl⟩
          refine ⟨hS (List.Sublist.refl _), ?_⟩
          refine ⟨hS (List.sublist_cons_self _ _), ?_⟩
          refine ⟨hS (List.sublist_cons_self _ _), ?_⟩
          exact EntX.of y9 hy9 (Ent.mk' ⟨rfl, rfl, rfl, rfl, rfl, rfl, rfl, rfl, trivial⟩ rfl (fun β w' hs => hs.keepB (List.sublist_cons_self _ _)))
        · refine ⟨hS (List.sublist_cons_self _ _), ?_⟩
          refine call_con [0, 1, 2] (fun β w' hs => opn f 13 tk0 hf32 o2 w' y hy (hs.mem.take (js := [0, 1, 2, 7, 8, 9, 10]) rfl)) ?_ ⟨rfl, rfl, rfl, trivial⟩
          rintro v Fs ⟨y9, hy9, rfl, rfl⟩
          refine ⟨hS (List.sublist_cons_self _ _), ?_⟩
          refine ⟨hS (List.sublist_cons_self _ _), ?_⟩
          exact EntX.of y9 hy9 (Ent.mk' ⟨rfl, rfl, rfl, rfl, rfl, rfl, rfl, rfl, trivial⟩ rfl (fun β w' hs => hs.keepB (List.sublist_cons_self _ _)))
      · refine ⟨hS (List.sublist_cons_self _ _), ?_⟩
        refine call_con [] (fun β w' hs => rEncode_c w' A3 f c3 true (by omega) ((hs.rowRd 5 rfl).mem.take (js := [5]) rfl)) ?_
        rintro v Fs ⟨rfl, rfl⟩
        refine ⟨hS (List.sublist_cons_self _ _), ?_⟩
        refine ⟨esz f hf32, ?_⟩
        refine call_con [0, 1, 2] (fun β w' hs => opn f 13 tk0 hf32 o2 w' y hy (hs.mem.take (js := [0, 1, 2, 7, 8, 9, 10]) rfl)) ?_ ⟨rfl, rfl, rfl, trivial⟩
        rintro v Fs ⟨y9, hy9, rfl, rfl⟩
        refine ⟨hS (List.sublist_cons_self _ _), ?_⟩
        refine ⟨hS (List.sublist_cons_self _ _), ?_⟩
        exact EntX.of y9 hy9 (Ent.mk' ⟨rfl, rfl, rfl, rfl, rfl, rfl, rfl, rfl, trivial⟩ rfl (fun β w' hs => hs.keepB (List.sublist_cons_self _ _)))
    · refine ⟨hS (List.sublist_cons_self _ _), ?_⟩
      refine call_con [] (fun β w' hs => rEncode_c w' Ab (bodyL t) cb true (by omega) ((hs.rowRd 3 rfl).mem.take (js := [3]) rfl)) ?_
      rintro v Fs ⟨rfl, rfl⟩
      refine ⟨hS (List.sublist_cons_self _ _), ?_⟩
      refine ⟨esz0, ?_⟩
      refine call_con [] (fun β w' hs => rEncode_c w' A3 f c3 true (by omega) ((hs.rowRd 5 rfl).mem.take (js := [5]) rfl)) ?_
      rintro v Fs ⟨rfl, rfl⟩
      refine ⟨hS (List.sublist_cons_self _ _), ?_⟩
      refine ⟨esz f hf32, ?_⟩
      refine call_con [0, 1, 2] (fun β w' hs => opn f 13 tk0 hf32 o2 w' y hy (hs.mem.take (js := [0, 1, 2, 7, 8, 9, 10]) rfl)) ?_ ⟨rfl, rfl, rfl, trivial⟩
      rintro v Fs ⟨y9, hy9, rfl, rfl⟩
      refine ⟨hS (List.sublist_cons_self _ _), ?_⟩
      refine ⟨hS (List.sublist_cons_self _ _), ?_⟩
      exact EntX.of y9 hy9 (Ent.mk' ⟨rfl, rfl, rfl, rfl, rfl, rfl, rfl, rfl, trivial⟩ rfl (fun β w' hs => hs.keepB (List.sublist_cons_self _ _)))
  intro y hy
  refine tri_seqJ (ι := Lay) g (fun y => y.ts.map (·.1) = B3.L) 5 (fun _ => [(3, .c (.p 0 0)), (7, .c (.v (ptrD d.b))), (9, .c (.v (.slice Ab (bodyL t).length cb))), (14, .c (.v (.slice M m2.length dm))), (16, .c (.v (.slice A3 f.length c3))), (18, .c (.v (.slice N m3.length dn))), (21, .c (.v (.int .i64 13))), (23, .c (.v (.int .i64 13))), (25, .c (.v (.int .i64 0)))]) (fun _ => [⟨0, ty_ostiaryref18_Ticket, t.cells.map SL.v⟩]) (fun y => [dkF d, rgF r, bxF r.bx B3 y, browF ty_uint8 Ab (bodyL t) cb, browF ty_uint8 M m2 dm, browF ty_uint8 A3 f c3, browF ty_uint8 N m3 dn, oddF 4, firstF 1, mlF, namF]) ?_ ?_
  rotate_left
  · refine draw_rule g p_ostiarylaw18_TicketForged_19 (by kernel_rfl) [⟨0, ty_ostiaryref18_Ticket, t.cells.map SL.v⟩] [] (hS (List.Sublist.refl _)) ?_
    refine ⟨?_, ?_⟩
    · skip
      refine call_con [] (fun β w' hs => rEncode_c w' Ab (bodyL t) cb true (by omega) ((hs.rowRd 3 rfl).mem.take (js := [3]) rfl)) ?_
      rintro v Fs ⟨rfl, rfl⟩
      refine ⟨hS (List.Sublist.refl _), ?_⟩
      refine ⟨esz0, ?_⟩
      refine ⟨?_, ?_⟩
      · skip
        refine call_con [] (fun β w' hs => rEncode_c w' N m3 dn true (by omega) ((hs.rowRd 6 rfl).mem.take (js := [6]) rfl)) ?_
        rintro v Fs ⟨rfl, rfl⟩
        refine ⟨hS (List.Sublist.refl _), ?_⟩
        refine ⟨esz m3 hm3, ?_⟩
        refine ⟨?_, ?_⟩
        · skip
          refine call_con [0, 1, 2] (fun β w' hs => opn m3 0 t hm3 o3 w' y hy (hs.mem.take (js := [0, 1, 2, 7, 8, 9, 10]) rfl)) ?_ ⟨rfl, rfl, rfl, trivial⟩
          rintro v Fs ⟨y9, hy9, rfl, rfl⟩
          refine ⟨hS (List.Sublist.refl _), ?_⟩
          refine ⟨hS (List.sublist_cons_self _ _), ?_⟩
          refine ⟨hS (List.sublist_cons_self _ _), ?_⟩
          exact EntX.of y9 hy9 (Ent.mk' ⟨rfl, rfl, rfl, rfl, rfl, rfl, rfl, rfl, rfl, trivial⟩ rfl (fun β w' hs => hs.keepB (List.sublist_cons_self _ _)))
        · refine ⟨hS (List.sublist_cons_self _ _), ?_⟩
          refine call_con [0, 1, 2] (fun β w' hs => opn m3 0 t hm3 o3 w' y hy (hs.mem.take (js := [0, 1, 2, 7, 8, 9, 10]) rfl)) ?_ ⟨rfl, rfl, rfl, trivial⟩
          rintro v Fs ⟨y9, hy9, rfl, rfl⟩
          refine ⟨hS (List.sublist_cons_self _ _), ?_⟩
          refine ⟨hS (List.sublist_cons_self _ _), ?_⟩
          exact EntX.of y9 hy9 (Ent.mk' ⟨rfl, rfl, rfl, rfl, rfl, rfl, rfl, rfl, rfl, trivial⟩ rfl (fun β w' hs => hs.keepB (List.sublist_cons_self _ _)))
      · refine ⟨hS (List.sublist_cons_self _ _), ?_⟩
        refine call_con [] (fun β w' hs => rEncode_c w' N m3 dn true (by omega) ((hs.rowRd 6 rfl).mem.take (js := [6]) rfl)) ?_
        rintro v Fs ⟨rfl, rfl⟩
        refine ⟨hS (List.sublist_cons_self _ _), ?_⟩
        refine ⟨esz m3 hm3, ?_⟩
        refine call_con [0, 1, 2] (fun β w' hs => opn m3 0 t hm3 o3 w' y hy (hs.mem.take (js := [0, 1, 2, 7, 8, 9, 10]) rfl)) ?_ ⟨rfl, rfl, rfl, trivial⟩
        rintro v Fs ⟨y9, hy9, rfl, rfl⟩
        refine ⟨hS (List.sublist_cons_self _ _), ?_⟩
        refine ⟨hS (List.sublist_cons_self _ _), ?_⟩
        exact EntX.of y9 hy9 (Ent.mk' ⟨rfl, rfl, rfl, rfl, rfl, rfl, rfl, rfl, rfl, trivial⟩ rfl (fun β w' hs => hs.keepB (List.sublist_cons_self _ _)))
    · refine ⟨hS (List.sublist_cons_self _ _), ?_⟩
      refine call_con [] (fun β w' hs => rEncode_c w' Ab (bodyL t) cb true (by omega) ((hs.rowRd 3 rfl).mem.take (js := [3]) rfl)) ?_
      rintro v Fs ⟨rfl, rfl⟩
      refine ⟨hS (List.sublist_cons_self _ _), ?_⟩
      refine ⟨esz0, ?_⟩
      refine call_con [] (fun β w' hs => rEncode_c w' N m3 dn true (by omega) ((hs.rowRd 6 rfl).mem.take (js := [6]) rfl)) ?_
      rintro v Fs ⟨rfl, rfl⟩
      refine ⟨hS (List.sublist_cons_self _ _), ?_⟩
      refine ⟨esz m3 hm3, ?_⟩
      refine call_con [0, 1, 2] (fun β w' hs => opn m3 0 t hm3 o3 w' y hy (hs.mem.take (js := [0, 1, 2, 7, 8, 9, 10]) rfl)) ?_ ⟨rfl, rfl, rfl, trivial⟩
      rintro v Fs ⟨y9, hy9, rfl, rfl⟩
      refine ⟨hS (List.sublist_cons_self _ _), ?_⟩
      refine ⟨hS (List.sublist_cons_self _ _), ?_⟩
      exact EntX.of y9 hy9 (Ent.mk' ⟨rfl, rfl, rfl, rfl, rfl, rfl, rfl, rfl, rfl, trivial⟩ rfl (fun β w' hs => hs.keepB (List.sublist_cons_self _ _)))
  intro y hy
  refine tri_of g ?_
  intro β w' hs
  exact (hs.keepB (List.nil_sublist _)).fin [] ⟨rfl, rfl⟩
end Go.Proofs.YtlhcgofdfhfegaaGreatDoor.Sx

namespace Go.Proofs.YtlhcgofdfhfegaaGreatDoor.Sx
open Go
theorem handed_shaped {H : Type} {enc : TypeId × Value → H} {a : Assume} {C : Checked} {os : Os} {f : FuncId} {fn : Func} {s : ChangeSpec} {conds : List PathCond} {apart fresh handsOn again : Bool} {X : World → Array Value → Prop}
    (hX : ∀ (w w' : World) (args : Array Value), w.heap = w'.heap → X w args → X w' args)
    (own : ownKnob C.prog.godebug = none) (started : os.Started) (noInit : C.prog.inits.idxOf? f = none) (hfn : C.prog.funcs[f]? = some fn)
    (witness : ∃ (w : World) (tape : Tape) (i : Input), w.os = os ∧ (w.forCall tape i).Shaped C.prog ∧ i.vars = [] ∧ Input.okWide C.prog (w.forCall tape i) .any w.heap.size f i ∧
      ((s.pre enc C.prog fn conds apart (w.forCall tape i).memory i.args ∧ X (w.forCall tape i).memory i.args) ∧ sizedMet enc C.prog fn (OpenSpec.ofChange s) apart (w.forCall tape i).memory i.args) ∧ a.holds C.prog (lone (Frame.enter C.prog f i.args .normal) [] (w.forCall tape i)))
    (key : ∀ (W : World) (base : Nat) (args : Array Value) (ds gs : List (DataW H)) (before : List MemPlace),
      (∀ (j : Nat) t v, fn.params[j]? = some t → args[j]? = some v → Value.okWide C.prog W .any base t v) →
      DataW.Whole enc C.prog fn.params.toList s.vars apart W args.toList ds gs before → X W args → W.ShapedOpen C.prog →
      Calls C.prog f args W fun e W' => ∃ v, e = .returned v ∧ s.post enc C.prog fn apart fresh handsOn again W args v W') :
    ReturnsInHanded a C os f .any (fun w args => (s.pre enc C.prog fn conds apart w args ∧ X w args) ∧ sizedMet enc C.prog fn (OpenSpec.ofChange s) apart w args) (s.post enc C.prog fn apart fresh handsOn again) := by
  refine returnsInHanded_of_calls own started noInit witness (fun w tape i _ hshape _ hin hp _ => ?_)
  obtain ⟨_, _, _, fn2, hfn2, _, _, _, _, hvals⟩ := hin
  obtain rfl : fn2 = fn := Option.some.inj (hfn2.symm.trans hfn)
  obtain ⟨⟨⟨ds, gs, before, hwh, _⟩, hx⟩, _⟩ := hp
  refine (key (w.forCall tape i) w.heap.size i.args ds gs before hvals (DataW.Whole.of_heap (w' := w.forCall tape i) (by rfl) hwh) (hX _ _ _ (by rfl) hx) hshape).mono fun e W' ⟨v, he, hq⟩ => ?_
  subst he
  exact ChangeSpec.post_blind hq
theorem ml_of {w : World} (h : w.ShapedOpen Tryz.prog) : mlF.p w :=
  cell_of_shapedOpen_int (P := Tryz.prog) (g := 0) (t := ty_int) (zero := #[.int .i64 0]) h (of_decide_eq_true (by kernel_rfl)) (by kernel_rfl) rfl (by kernel_rfl) (by kernel_rfl) (ok3.real (d := .int .i64) rfl rfl)
theorem ml_ok {w : World} (h : mlF.p w) : RoOk w mlF := by
  refine ⟨rfl, h, fun k hk => ?_⟩
  obtain ⟨m, hm⟩ := h
  obtain rfl : k = 0 := hk
  unfold World.cell? at hm
  rcases Nat.lt_or_ge 0 w.heap.size with q | q
  · exact q
  · simp [Array.getElem?_eq_none q] at hm
end Go.Proofs.YtlhcgofdfhfegaaGreatDoor.Sx

namespace Go.Proofs.YtlhcgofdfhfegaaGreatDoor.Sx
open Go Go.RowKit
theorem below_of {w w' : World} (h : Chg None_ w w') : Below w.heap.size w w' :=
  ⟨h.os, h.tape, h.output, h.size, fun k hk => h.same k hk (fun q => q)⟩
end Go.Proofs.YtlhcgofdfhfegaaGreatDoor.Sx

namespace Go.Proofs.YtlhcgofdfhfegaaGreatDoor.Sx
open Go
theorem rd_of_ints {H : Type} {enc : TypeId × Value → H} {P : Program} {W : World} {base : Nat} {sp : Nat → Bool} {held : Bool} {fuel g n : Nat} {t e : TypeId} {k : IntKind} {cs : Array Value} {zs : List Int} {q : List MemPlace}
    (ht : P.underlying t = some (.array n e)) (he : P.underlying e = some (.int k)) (hc : P.cellsOf e = 1) (hd : DataW.trod enc P W base sp held fuel t cs.toList = some (.agg (zs.map fun z => .lit (.int k z)), q)) (hcell : ∀ j, W.cell? ⟨g, j, none⟩ = cs[j]?) :
    Rd 1 (some ⟨g, 0, none⟩) zs.length (zs.map (Value.int k)) W := by
  obtain ⟨xs, m, _, hx, hlen, hn, hel⟩ := DataW.trod_array ht hd
  simp only [Prod.mk.injEq, DataW.agg.injEq] at hx
  have hzn : zs.length = n := by
    have h9 := congrArg List.length hx.1
    simp only [List.length_map] at h9
    omega
  refine ⟨by simp, fun hp => ⟨_, rfl, fun j u hu => ?_⟩⟩
  rw [List.getElem?_map] at hu
  obtain ⟨z, hz, rfl⟩ := Option.map_eq_some_iff.1 hu
  have hj : j < zs.length := (List.getElem?_eq_some_iff.1 hz).1
  have h1 := hel j (by omega)
  have h2 : (xs.map (·.1))[j]? = some (.lit (.int k z)) := by rw [← hx.1, List.getElem?_map, hz]; rfl
  rw [List.getElem?_map] at h2
  obtain ⟨x, hxj, hx1⟩ := Option.map_eq_some_iff.1 h2
  rw [hxj, hc, Nat.mul_one] at h1
  obtain ⟨y, e1, e2, _⟩ := DataW.trod_int he h1
  have hy : y = z := by
    rw [e2] at hx1
    simpa using hx1
  subst hy
  rw [add_none, Nat.zero_add, hcell j, ← Array.getElem?_toList]
  have h3 := congrArg (fun l => l[0]?) e1
  simpa [List.getElem?_drop] using h3
abbrev u32s (l : List UInt32) : List Int := l.map fun x => (x.toNat : Int)
theorem rd_u32 {g : Nat} {W : World} {l : List UInt32} (h : Rd 1 (some ⟨g, 0, none⟩) (u32s l).length ((u32s l).map (Value.int .u32)) W) : Rd 1 (some ⟨g, 0, none⟩) l.length (l.map u32) W := by
  have e : (u32s l).map (Value.int .u32) = l.map u32 := by rw [List.map_map]; rfl
  rw [e, List.length_map] at h
  exact h
end Go.Proofs.YtlhcgofdfhfegaaGreatDoor.Sx

namespace Go.Proofs.YtlhcgofdfhfegaaGreatDoor.Sx
open Go
mutual
def lits {H : Type} : DataW H → Option (List Value)
  | .lit (.int k n) => some [.int k n]
  | .lit (.bool b) => some [.bool b]
  | .lit (.string l) => some [.string ⟨l.toArray⟩]
  | .agg ps => litsL ps
  | _ => none
def litsL {H : Type} : List (DataW H) → Option (List Value)
  | [] => some []
  | d :: r => match lits d, litsL r with
    | some a, some b => some (a ++ b)
    | _, _ => none
end
def contig (P : Program) : List Field → Nat → Option Nat
  | [], o => some o
  | f :: r, o => if f.offset = o then contig P r (o + P.cellsOf f.type) else none
def flatB (P : Program) : Nat → TypeId → Bool
  | 0, _ => false
  | n + 1, t => match P.underlying t with
    | some (.int _) | some .bool | some .string => true
    | some (.struct fs) => (match contig P fs.toList 0 with | some e => Nat.beq e (P.cellsOf t) | none => false) && fs.toList.all fun f => flatB P n f.type
    | some (.array m e) => Nat.beq (m * P.cellsOf e) (P.cellsOf t) && flatB P n e
    | _ => false
section
variable {H : Type} {enc : TypeId × Value → H} {P : Program} {w : World} {base : Nat} {sp : Nat → Bool} {held : Bool}
theorem fields_cat (m : Nat) (cs : List Value) : ∀ (fs : List Field) (xs : List (DataW H × List MemPlace)) (o e : Nat), contig P fs o = some e → xs.length = fs.length →
    (∀ (i : Nat) (f : Field), fs[i]? = some f → DataW.trod enc P w base sp held m f.type ((cs.drop f.offset).take (P.cellsOf f.type)) = xs[i]?) →
    (∀ f ∈ fs, ∀ cs' x, DataW.trod enc P w base sp held m f.type cs' = some x → lits x.1 = some cs') → o ≤ e ∧ litsL (xs.map (·.1)) = some ((cs.drop o).take (e - o))
  | [], xs, o, e, hc, hl, _, _ => by
    obtain rfl := Option.some.inj hc
    obtain rfl := List.eq_nil_of_length_eq_zero hl
    exact ⟨Nat.le_refl _, by simp [litsL]⟩
  | f :: r, [], o, e, hc, hl, _, _ => by cases hl
  | f :: r, x :: xs, o, e, hc, hl, h, ih => by
    simp only [contig] at hc
    split at hc
    · rename_i ho
      have h0 := h 0 f rfl
      rw [ho] at h0
      have h1 := ih f List.mem_cons_self _ x h0
      obtain ⟨h2, h3⟩ := fields_cat m cs r xs _ e hc (by simpa using hl) (fun i g hg => by
        have := h (i + 1) g (by simpa using hg)
        simpa using this) (fun g hg => ih g (List.mem_cons_of_mem _ hg))
      refine ⟨by omega, ?_⟩
      simp only [List.map_cons, litsL, h1, h3]
      congr 1
      have e1 : e - o = P.cellsOf f.type + (e - (o + P.cellsOf f.type)) := by omega
      rw [e1, List.take_add, List.drop_drop]
    · cases hc
theorem elems_cat (m k : Nat) (ty : TypeId) (cs : List Value) (hk : P.cellsOf ty = k) : ∀ (n : Nat) (xs : List (DataW H × List MemPlace)) (o : Nat), xs.length = n →
    (∀ i, i < n → DataW.trod enc P w base sp held m ty ((cs.drop (o + i * k)).take k) = xs[i]?) →
    (∀ cs' x, DataW.trod enc P w base sp held m ty cs' = some x → lits x.1 = some cs') → litsL (xs.map (·.1)) = some ((cs.drop o).take (n * k))
  | 0, xs, o, hl, _, _ => by
    obtain rfl := List.eq_nil_of_length_eq_zero hl
    simp [litsL]
  | n + 1, [], o, hl, _, _ => by cases hl
  | n + 1, x :: xs, o, hl, h, ih => by
    have h0 := h 0 (Nat.succ_pos _)
    rw [Nat.zero_mul, Nat.add_zero] at h0
    have h1 := ih _ x h0
    have h3 := elems_cat m k ty cs hk n xs (o + k) (by simpa using hl) (fun i hi => by
      have := h (i + 1) (by omega)
      rw [Nat.succ_mul, Nat.add_comm (i * k) k, ← Nat.add_assoc] at this
      simpa using this) ih
    simp only [List.map_cons, litsL, h1, h3]
    congr 1
    rw [Nat.succ_mul, Nat.add_comm (n * k) k, List.take_add, List.drop_drop]
theorem cells_of : ∀ (k m : Nat) (t : TypeId) (cs : List Value) (x : DataW H × List MemPlace), flatB P k t = true → DataW.trod enc P w base sp held m t cs = some x → lits x.1 = some cs
  | 0, _, _, _, _, h, _ => by cases h
  | k + 1, m, t, cs, x, h, hd => by
    unfold flatB at h
    split at h
    · rename_i ht
      obtain ⟨n, rfl, rfl, _⟩ := DataW.trod_int ht hd
      rfl
    · rename_i ht
      obtain ⟨n, rfl, rfl⟩ := DataW.trod_bool ht hd
      rfl
    · rename_i ht
      obtain ⟨s, rfl, rfl, _⟩ := DataW.trod_string ht hd
      cases s with | mk a => simp [lits, ByteArray.toList_eq]
    · rename_i fs ht
      obtain ⟨xs, n, rfl, rfl, hl, hxl, hel⟩ := DataW.trod_struct ht hd
      simp only [Bool.and_eq_true] at h
      obtain ⟨hcon, hall⟩ := h
      cases hc : contig P fs.toList 0 with
      | none => rw [hc] at hcon; cases hcon
      | some e =>
        rw [hc] at hcon
        have he := Nat.eq_of_beq_eq_true hcon
        subst he
        have := (fields_cat n cs fs.toList xs 0 _ hc (by simpa using hxl) (fun i f hf => hel i f (by simpa using hf)) (fun f hf cs' x' hx => cells_of k n f.type cs' x' (List.all_eq_true.1 hall f hf) hx)).2
        simp only [lits, this, List.drop_zero, Nat.sub_zero]
        rw [← hl, List.take_length]
    · rename_i n e ht
      obtain ⟨xs, m', rfl, rfl, hl, hxl, hel⟩ := DataW.trod_array ht hd
      simp only [Bool.and_eq_true] at h
      have he := Nat.eq_of_beq_eq_true h.1
      have := elems_cat m' (P.cellsOf e) e cs rfl n xs 0 hxl (fun i hi => by rw [Nat.zero_add]; exact hel i hi) (fun cs' x' hx => cells_of k m' e cs' x' h.2 hx)
      simp only [lits, this, List.drop_zero, he]
      rw [← hl, List.take_length]
    · cases h
theorem rd_of_laid {g n size m : Nat} {t : TypeId} {cs : Array Value} {d : DataW H} {q : List MemPlace} {vs : List Value} (hf : flatB P 5 t = true) (hv : lits d = some vs) (hn : vs.length = n * size)
    (hd : DataW.trod enc P w base sp held m t cs.toList = some (d, q)) (hcell : ∀ j, w.cell? ⟨g, j, none⟩ = cs[j]?) : Rd size (some ⟨g, 0, none⟩) n vs w := by
  have h := cells_of 5 m t _ _ hf hd
  rw [hv] at h
  have h' := Option.some.inj h
  refine ⟨hn, fun _ => ⟨_, rfl, fun j u hu => ?_⟩⟩
  rw [add_none, Nat.zero_add, hcell j, ← Array.getElem?_toList, ← h']
  exact hu
end
end Go.Proofs.YtlhcgofdfhfegaaGreatDoor.Sx
