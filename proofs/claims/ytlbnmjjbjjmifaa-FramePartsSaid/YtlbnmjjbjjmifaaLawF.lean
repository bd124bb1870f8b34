/- The frame laws: each returns true, and writes nothing that was there. -/
import Derived.Test.YtlbnmjjbjjmifaaFr3
namespace Go.Proofs.Ytlbnmjjbjjmifaa.Sx
open Go
attribute [local irreducible] Calls

theorem rd_sub_row {e size k n c : Nat} {A : Option Addr} {xs ys : List Value} : ∀ g, (rdF size A k xs).D g → (rowF e size (.slice A n c) n ys).D g := by
  rintro g ⟨_, ad, rfl, rfl⟩
  rfl
theorem Aft.cast {f f' f'' : Fact} {w w' : World} (h : Aft f f' w w') (e : f' = f'') : Aft f f'' w w' := e ▸ h

theorem awake_c (w : World) : Calls Try.prog n_ostiarylaw06_awake #[] w fun e w' => ∃ v, e = .returned v ∧ v = .bool true ∧ Chg None_ w w' := by
  refine calls_of_sx (cx := cx_ostiarylaw06_awake w None_) (good_ostiarylaw06_awake w None_) b_ostiarylaw06_awake rfl rfl (β := Va.z) [] 0 [] _ rfl rfl (Sat.start rfl) ?_
  intro b0
  refine ⟨0, _, rfl, ?_⟩
  intro β w1 hs1
  refine (pack_c _ 2 (some ⟨b0, 0, none⟩) [97] 1 (hs1.get 0 rfl) (by decide)).mono ?_
  rintro e w2 ⟨v, rfl, A1, c1, rfl, hc, hn⟩
  refine ⟨_, rfl, Ret.mk _ [bsF A1 [2, 0, 1, 97]] ((hs1.addBs hc hn).weaken (List.Sublist.refl _) (List.Sublist.cons_cons _ (List.nil_sublist _))) ?_⟩
  clear hs1 hc hn
  intro β w1 hs1
  refine (newReader_c _).mono ?_
  rintro e w2 ⟨v, rfl, b, rfl, hc, hr, hrD⟩
  refine ⟨_, rfl, Ret.mk _ _ (hs1.add hc _ hr hrD) ?_⟩
  clear hs1 hc hr hrD
  intro b1 β w1 hs1
  refine (feed_c _ b none [] 0 0 (some ⟨b1, 0, none⟩) [2, 0] 2 (hs1.get 1 rfl) (row_rd (hs1.get 0 rfl)) (by decide) (fun k hk hk' => hs1.apart' 1 0 rfl rfl (by decide) (.inl rfl) k hk (rd_sub_row k hk')) (by decide)).mono ?_
  rintro e w2 ⟨v, rfl, rfl, A2, c2, ha⟩
  refine ⟨_, rfl, Ret.mk _ [rdr b A2 [2, 0] c2 0, bsF A1 [2, 0, 1, 97]] ((hs1.upd (j := 1) rfl rfl ha.1 ha.2.1 ha.2.2).weaken (List.Sublist.refl _) (List.sublist_cons_self _ _)) ?_⟩
  clear hs1 ha
  intro β w1 hs1
  refine (next_c _ b A2 [2, 0] c2 0 (hs1.get 0 rfl) (by decide)).mono ?_
  rintro e w2 ⟨v, rfl, A3, c3, A4, c4, rfl, hn, ha, hd⟩
  refine ⟨_, rfl, Ret.mk _ [rdr b A4 [2, 0] c4 0, bsF A1 [2, 0, 1, 97]] ((hs1.upd (j := 0) rfl rfl ha.1 ha.2.1 ha.2.2)) ?_⟩
  clear hs1 ha hd hn
  intro b2 β w1 hs1
  refine (feed_c _ b A4 [2, 0] c4 0 (some ⟨b2, 0, none⟩) [1, 97] 2 (hs1.get 1 rfl) (row_rd (hs1.get 0 rfl)) (by decide) (fun k hk hk' => hs1.apart' 1 0 rfl rfl (by decide) (.inl rfl) k hk (rd_sub_row k hk')) (by decide)).mono ?_
  rintro e w2 ⟨v, rfl, rfl, A5, c5, ha⟩
  refine ⟨_, rfl, Ret.mk _ [rdr b A5 [2, 0, 1, 97] c5 0, bsF A1 [2, 0, 1, 97]] ((hs1.upd (j := 1) rfl rfl ha.1 ha.2.1 ha.2.2).weaken (List.Sublist.refl _) (List.sublist_cons_self _ _)) ?_⟩
  clear hs1 ha
  intro β w1 hs1
  refine (next_c _ b A5 [2, 0, 1, 97] c5 0 (hs1.get 0 rfl) (by decide)).mono ?_
  rintro e w2 ⟨v, rfl, A6, c6, A7, c7, rfl, hn, ha, hd⟩
  refine ⟨_, rfl, Ret.mk _ [browF ty_uint8 A6 [97] c6, bsF A1 [2, 0, 1, 97]] ((hs1.updAdd (j := 0) rfl rfl ha _ hn.2.2.1 hn.lt hd).weaken (List.Sublist.refl _) (List.Sublist.cons_cons _ (List.sublist_cons_self _ _))) ?_⟩
  clear hs1 ha hd hn
  intro b3 β w1 hs1
  refine (same_c _ A1 (some ⟨b3, 0, none⟩) [2, 0, 1, 97] [2, 0, 1, 97] c1 4 (hs1.get 2 rfl) (row_rd (hs1.get 0 rfl))).mono ?_
  rintro e w2 ⟨v, rfl, rfl, hc⟩
  refine ⟨_, rfl, Ret.mk _ [browF ty_uint8 A6 [97] c6] ((hs1.same hc).weaken (List.Sublist.refl _) (List.Sublist.cons _ (List.Sublist.cons_cons _ (List.nil_sublist _)))) ?_⟩
  clear hs1 hc
  refine ⟨[97], fun β w hs => row_rd (hs.get 0 rfl), ?_⟩
  intro β w' hs
  exact ⟨rfl, hs.chg⟩

/-! ### FramePacks -/
theorem pack_unpack (k : UInt8) (l t : List UInt8) (h : (packF k l).2 = 0) : unpackF ((packF k l).1 ++ t) = (k, l, (packF k l).1.length, 0) := by
  unfold packF at h ⊢
  split at h
  · cases h
  · rename_i hk
    split at h
    · cases h
    · rename_i hl
      rw [if_neg hk, if_neg hl]
      have h1 : (UInt8.ofNat (l.length / 256)).toNat = l.length / 256 := by rw [UInt8.toNat_ofNat']; omega
      have h2 : (UInt8.ofNat (l.length % 256)).toNat = l.length % 256 := by rw [UInt8.toNat_ofNat']; omega
      have h3 : l.length / 256 * 256 + l.length % 256 = l.length := by omega
      show unpackF (k :: UInt8.ofNat (l.length / 256) :: UInt8.ofNat (l.length % 256) :: (l ++ t)) = _
      unfold unpackF
      simp only [h1, h2, h3]
      rw [if_neg hk, if_neg hl, if_neg (by simp)]
      simp
      omega

theorem framePacks_c (w : World) (k : UInt8) (A B : Option Addr) (p t : List UInt8) (c d : Nat) (hp : Bs w A p) (ht : Bs w B t) (hc : p.length ≤ c) (hd : t.length ≤ d) :
    Calls Try.prog n_ostiarylaw06_FramePacks #[byte k, .slice A p.length c, .slice B t.length d] w fun e w' => ∃ v, e = .returned v ∧ v = .bool true ∧ Chg None_ w w' := by
  refine calls_of_sx (cx := cx_ostiarylaw06_FramePacks w None_) (good_ostiarylaw06_FramePacks w None_) b_ostiarylaw06_FramePacks rfl rfl (β := Va.z) [.c (.v (byte k)), .c (.v (.slice A p.length c)), .c (.v (.slice B t.length d))] 0 [] [bsF B t, bsF A p] rfl rfl
    (((Sat.start rfl).rd (fun _ h => by cases h) hp).rd (fun g h => by obtain rfl := List.mem_singleton.1 h; rfl) ht) ?_
  intro β w1 hs1
  refine (awake_c _).mono ?_
  rintro e w2 ⟨v, rfl, rfl, hch⟩
  refine ⟨_, rfl, Ret.mk _ _ (hs1.same hch) ?_⟩
  clear hs1 hch
  intro β w1 hs1
  refine (cut_c _ A p c 2100 (hs1.get 1 rfl) hc (by decide)).mono ?_
  rintro e w2 ⟨v, rfl, A1, c1, rfl, hch, hn⟩
  refine ⟨_, rfl, Ret.mk _ [bsF A1 (p.take 2100), bsF B t] ((hs1.addBs hch hn).weaken (List.Sublist.refl _) (List.Sublist.cons_cons _ (List.Sublist.cons_cons _ (List.nil_sublist _)))) ?_⟩
  have hpl : (p.take 2100).length ≤ 2100 := by simp; omega
  have hcc := hn.1
  clear hs1 hch hn
  intro β w1 hs1
  refine (cut_c _ B t d 50 (hs1.get 1 rfl) hd (by decide)).mono ?_
  rintro e w2 ⟨v, rfl, A2, c2, rfl, hch, hn⟩
  refine ⟨_, rfl, Ret.mk _ [bsF A2 (t.take 50), bsF A1 (p.take 2100)] ((hs1.addBs hch hn).weaken (List.Sublist.refl _) (List.Sublist.cons_cons _ (List.Sublist.cons_cons _ (List.nil_sublist _)))) ?_⟩
  have htl : (t.take 50).length ≤ 50 := by simp; omega
  clear hs1 hch hn
  generalize p.take 2100 = p at *
  generalize t.take 50 = t at *
  intro β w1 hs1
  refine (copy_c _ A1 p c1 (hs1.get 1 rfl) (by rw [lim_eq]; omega)).mono ?_
  rintro e w2 ⟨v, rfl, A3, c3, rfl, hch, hn⟩
  refine ⟨_, rfl, Ret.mk _ _ (hs1.addBs hch hn) ?_⟩
  clear hs1 hch hn
  intro β w1 hs1
  refine (pack_c _ k A3 p c3 (hs1.get 0 rfl) (by rw [lim_eq]; omega)).mono ?_
  rintro e w2 ⟨v, rfl, A4, c4, rfl, hch, hn4⟩
  refine ⟨_, rfl, Ret.mk _ _ (hs1.addBs hch hn4) ?_⟩
  clear hs1 hch
  intro β w1 hs1
  refine (rpack_c _ k A1 p c1 (hs1.get 3 rfl) (by rw [lim_eq]; omega)).mono ?_
  rintro e w2 ⟨v, rfl, A5, c5, rfl, hch, hn⟩
  refine ⟨_, rfl, Ret.mk _ _ (hs1.addBs hch hn) ?_⟩
  clear hs1 hch hn
  intro β w1 hs1
  refine (same_c _ A4 A5 (packF k p).1 (packF k p).1 c4 c5 (hs1.get 1 rfl) (hs1.get 0 rfl)).mono ?_
  rintro e w2 ⟨v, rfl, hv, hch⟩
  rw [decide_eq_true rfl] at hv
  subst hv
  refine ⟨_, rfl, Ret.mk _ _ (hs1.same hch) ?_⟩
  clear hs1 hch
  refine BIf.not (BIf.dec (fun _ => ?_) (fun q => absurd rfl q))
  intro β w1 hs1
  refine (same_c _ A3 A1 p p c3 c1 (hs1.get 2 rfl) (hs1.get 4 rfl)).mono ?_
  rintro e w2 ⟨v, rfl, hv, hch⟩
  rw [decide_eq_true rfl] at hv
  subst hv
  refine ⟨_, rfl, Ret.mk _ _ (hs1.same hch) ?_⟩
  clear hs1 hch
  refine BIf.not (BIf.dec (fun h0 => ?_) (fun h0 => ?_))
  · have h0 : (packF k p).2 = 0 := by omega
    have hpu := pack_unpack k p t h0
    have hfl : (packF k p).1.length ≤ 2103 := by
      unfold packF
      split
      · simp
      · split
        · simp
        · simp; omega
    generalize packF k p = u at *
    obtain ⟨f, e0⟩ := u
    simp only at *
    intro β w1 hs1
    refine (copy_c _ A4 f c4 (hs1.get 1 rfl) (by rw [lim_eq]; omega)).mono ?_
    rintro e w2 ⟨v, rfl, A6, c6, rfl, hch, hn⟩
    refine ⟨_, rfl, Ret.mk _ _ (hs1.addRow hch hn) ?_⟩
    clear hs1 hch hn
    refine ⟨0, f.length, f.length + t.length, _, t.map byte, _, rfl, fun β w hs => hs.get 4 rfl, bytes_one _, rfl, rfl, by rw [maxLen_eq]; omega, by show (f.length + t.length) * 1 ≤ _; omega, ?_⟩
    intro A7 c7 q1 q2 _
    intro β w1 hs1
    have hft : (f ++ t).length = f.length + t.length := by simp
    have hb7 : Bs w1 A7 (f ++ t) := by
      have := row_rd (hs1.get 0 rfl)
      show Rd 1 A7 (f ++ t).length ((f ++ t).map byte) w1
      rw [hft, List.map_append]
      exact this
    rw [← hft]
    refine (unpack_c _ A7 (f ++ t) c7 hb7 (by omega) (by rw [lim_eq]; omega)).mono ?_
    rintro e w2 ⟨v, rfl, A8, c8, rfl, hch, hn⟩
    rw [hpu] at hn ⊢
    refine ⟨_, rfl, Ret.mk _ _ (hs1.addBs hch hn) ?_⟩
    clear hs1 hch hn
    refine BIf.dec (fun _ => ?_) (fun q => absurd rfl q)
    intro β w1 hs1
    refine (rsame_c _ k k A8 A1 p p c8 c1 (hs1.get 0 rfl) (hs1.get 6 rfl)).mono ?_
    rintro e w2 ⟨v, rfl, hv, hch⟩
    rw [decide_eq_true ⟨rfl, rfl⟩] at hv
    subst hv
    refine ⟨_, rfl, Ret.mk _ _ (hs1.same hch) ?_⟩
    intro β w' hs
    exact ⟨rfl, hs.chg⟩
  · intro β w' hs
    exact ⟨rfl, hs.chg⟩
/-! ### FrameUnpacks -/
theorem unpackF_n0 (l : List UInt8) (h : (unpackF l).2.2.2 ≠ 0) : (unpackF l).2.2.1 = 0 := by
  revert h
  unfold unpackF
  split
  · split
    · exact fun _ => rfl
    · split
      · exact fun _ => rfl
      · split
        · exact fun _ => rfl
        · exact fun h => absurd rfl h
  · exact fun _ => rfl
theorem cutA_zero {A : Option Addr} {c s : Nat} : cutA A c 0 s = A := by
  cases A <;> simp [cutA, Addr.add]

theorem frameUnpacks_c (w : World) (A : Option Addr) (p : List UInt8) (c : Nat) (hp : Bs w A p) (hc : p.length ≤ c) :
    Calls Try.prog n_ostiarylaw06_FrameUnpacks #[.slice A p.length c] w fun e w' => ∃ v, e = .returned v ∧ v = .bool true ∧ Chg None_ w w' := by
  refine calls_of_sx (cx := cx_ostiarylaw06_FrameUnpacks w None_) (good_ostiarylaw06_FrameUnpacks w None_) b_ostiarylaw06_FrameUnpacks rfl rfl (β := Va.z) [.c (.v (.slice A p.length c))] 0 [] [bsF A p] rfl rfl
    ((Sat.start rfl).rd (fun _ h => by cases h) hp) ?_
  intro β w1 hs1
  refine (awake_c _).mono ?_
  rintro e w2 ⟨v, rfl, rfl, hch⟩
  refine ⟨_, rfl, Ret.mk _ _ (hs1.same hch) ?_⟩
  clear hs1 hch
  intro β w1 hs1
  refine (cut_c _ A p c 2200 (hs1.get 0 rfl) hc (by decide)).mono ?_
  rintro e w2 ⟨v, rfl, A1, c1, rfl, hch, hn⟩
  refine ⟨_, rfl, Ret.mk _ [bsF A1 (p.take 2200)] ((hs1.addBs hch hn).weaken (List.Sublist.refl _) (List.Sublist.cons_cons _ (List.nil_sublist _))) ?_⟩
  have hpl : (p.take 2200).length ≤ 2200 := by simp; omega
  have hcc := hn.1
  have hcm := hn.2.1
  clear hs1 hch hn hp hc
  generalize p.take 2200 = p at *
  intro β w1 hs1
  refine (copy_c _ A1 p c1 (hs1.get 0 rfl) (by rw [lim_eq]; omega)).mono ?_
  rintro e w2 ⟨v, rfl, A3, c3, rfl, hch, hn⟩
  refine ⟨_, rfl, Ret.mk _ _ (hs1.addRow hch hn) ?_⟩
  clear hs1 hch hn
  intro b7
  obtain ⟨r, hr⟩ : ∃ r, p.length + 1 = r := ⟨_, rfl⟩
  refine ⟨1, p.length, r, _, [byte 7], _, rfl, fun β w hs => row_rd (hs.get 0 rfl), bytes_one [7], hr, rfl, by rw [maxLen_eq]; omega, by show r * 1 ≤ _; omega, ?_⟩
  intro A7 c7 q1 q2 q3
  have hcut : cutA A7 c7 0 ti5.size = A7 := cutA_zero
  refine ⟨c7, p.length, 0, p.length, c7, A7, rfl, rfl, rfl, Nat.le_refl _, by omega, Nat.zero_le _, rfl, rfl, hcut, ?_⟩
  have hb7 : ∀ {w : World}, (rowF 5 1 (.slice A7 r c7) r (p.map byte ++ [byte 7])).p w → Bs w A7 (p ++ [7]) := fun h => by
    have := row_rd h
    show Rd 1 _ (p ++ [7]).length ((p ++ [7]).map byte) _
    rw [List.length_append, List.map_append, show p.length + [(7 : UInt8)].length = r from hr]
    exact this
  have hbp : ∀ {w : World}, (rowF 5 1 (.slice A7 r c7) r (p.map byte ++ [byte 7])).p w → Bs w A7 p := fun h => by
    have := Bs.cutB (hb7 h) (c := c7) (i := 0) (j := p.length) (m := p) (by simp; omega) (Nat.zero_le _) (by simp) (by simp)
    have hc1 : cutA A7 c7 0 1 = A7 := hcut
    rw [hc1] at this
    exact this
  intro β w1 hs1
  obtain ⟨ad, hA⟩ := Bs.addr (hb7 (hs1.get 1 rfl)) (by simp)
  obtain ⟨k, f, nn, e, hu⟩ : ∃ k f nn e, unpackF p = (k, f, nn, e) := ⟨_, _, _, _, rfl⟩
  have hsp := unpackF_spec p
  have hn0 := unpackF_n0 p
  have e3 : (unpackF p).2.2.2 = 0 → (restF p).length = p.length - (unpackF p).2.2.1 := fun h => by unfold restF; rw [if_pos h, List.length_drop]
  obtain ⟨rr, hrr⟩ : ∃ rr, restF p = rr := ⟨_, rfl⟩
  rw [hrr] at e3
  simp only [hu] at hsp hn0 e3
  have hup := unpack_c w1 A7 p c7 (hbp (hs1.get 1 rfl)) (by omega) (by rw [lim_eq]; omega)
  simp only [hu] at hup
  refine hup.mono ?_
  rintro e w2 ⟨v, rfl, A8, c8, rfl, hch, hn⟩
  refine ⟨_, rfl, Ret.mk _ _ (hs1.addBs hch hn) ?_⟩
  clear hs1 hch hn hup
  intro β w1 hs1
  have hup := runpack_c w1 A1 p c1 (hs1.get 3 rfl) hcc hcm (by rw [lim_eq]; omega)
  simp only [hu, hrr] at hup
  refine hup.mono ?_
  rintro e w2 ⟨v, rfl, A9, c9, A10, c10, rfl, hch, hn, hr1, hr2, hrb, hrD⟩
  refine ⟨_, rfl, Ret.mk _ _ (hs1.addBs hch hn) ?_⟩
  clear hs1 hch hn hrb hrD hup
  intro β w1 hs1
  refine (rsame_c _ k k A8 A9 f f c8 c9 (hs1.get 1 rfl) (hs1.get 0 rfl)).mono ?_
  rintro e w2 ⟨v, rfl, hv, hch⟩
  rw [decide_eq_true ⟨rfl, rfl⟩] at hv
  subst hv
  refine ⟨_, rfl, Ret.mk _ _ (hs1.same hch) ?_⟩
  clear hs1 hch
  refine BIf.not (BIf.dec (fun _ => ?_) (fun q => absurd rfl q))
  intro β w1 hs1
  refine (same_c _ A7 A1 p p c7 c1 (hbp (hs1.get 3 rfl)) (hs1.get 4 rfl)).mono ?_
  rintro e w2 ⟨v, rfl, hv, hch⟩
  rw [decide_eq_true rfl] at hv
  subst hv
  refine ⟨_, rfl, Ret.mk _ _ (hs1.same hch) ?_⟩
  clear hs1 hch
  refine ⟨(r : Int), by rw [wrap_i64 (by omega) (by omega)]; omega, ?_⟩
  refine ⟨c7, r, 0, r, c7, A7, rfl, rfl, rfl, Nat.le_refl _, q1, Nat.zero_le _, rfl, rfl, hcut, ?_⟩
  refine ⟨ad, p.length, hA, rfl, by omega, byte 7, fun β w hs => ?_, ?_⟩
  · have := Bs.cell (hb7 (hs.get 3 rfl)) hA (j := p.length) (by simp)
    have h2 : w.cell? (ad.add (p.length * 1)) = some (byte 7) := by simpa using this
    exact h2
  refine BIf.not (BIf.dec (fun h0 => ?_) (fun h0 => ?_))
  · obtain rfl : e = 0 := by omega
    obtain ⟨x, hx1, hx2⟩ : ∃ x : Int, IntKind.i64.wrap (↑p.length - ↑rr.length) = x ∧ x = nn := ⟨_, rfl, by rw [wrap_i64 (by omega) (by omega)]; have := e3 rfl; omega⟩
    refine ⟨x, hx1, ?_⟩
    intro β w' hs
    refine ⟨?_, hs.chg⟩
    show Value.bool (decide ((nn : Int) = x)) = _
    rw [hx2]
    simp
  · obtain rfl : nn = 0 := hn0 (by omega)
    intro β w' hs
    exact ⟨rfl, hs.chg⟩
end Go.Proofs.Ytlbnmjjbjjmifaa.Sx
