/- Frames: Pack and Unpack, the program's and the reference's. -/
import Derived.Test.YtlbnmjjbjjmifaaFr1
namespace Go.Proofs.Ytlbnmjjbjjmifaa.Sx
open Go
attribute [local irreducible] Calls

abbrev frameV (k : UInt8) (A : Option Addr) (l : List UInt8) (c : Nat) : Value := .agg #[byte k, .slice A l.length c]
abbrev frameS (k : UInt8) (A : Option Addr) (l : List UInt8) (c : Nat) : SV := .agg [.v (byte k), .v (.slice A l.length c)]

theorem kindB_iff (k : UInt8) : kindB k = true ↔ 1 ≤ k.toNat ∧ k.toNat ≤ 15 := by simp [kindB]

theorem pack_c (w : World) (k : UInt8) (A : Option Addr) (l : List UInt8) (c : Nat) (hr : Bs w A l) (hn : l.length ≤ lim) :
    Calls Try.prog n_frame_Pack #[frameV k A l c] w fun e w' => ∃ v, e = .returned v ∧ ∃ A' c', v = .tuple #[.slice A' (packF k l).1.length c', .int .i64 (packF k l).2] ∧ Chg None_ w w' ∧ NewRow w w' A' (packF k l).1 c' ty_uint8 := by
  rw [lim_eq] at hn
  refine calls_of_sx (cx := cx_frame_Pack w None_) (good_frame_Pack w None_) b_frame_Pack rfl rfl (β := Va.z) [frameS k A l c] 0 [] [bsF A l] rfl rfl ((Sat.start rfl).rd (fun _ h => by cases h) hr) ?_
  intro β w1 hs
  refine (kind_c _ k).mono ?_
  rintro e w' ⟨v, rfl, rfl, hc⟩
  refine ⟨_, rfl, Ret.mk _ _ (hs.same hc) ?_⟩
  refine BIf.not (BIf.mk (fun hk => ?_) (fun hk => ?_))
  · refine BIf.dec (fun h1 => ?_) (fun h1 => ?_)
    · intro β w' hs
      have e : packF k l = ([], 3) := by simp only [packF, hk]; rw [if_neg (by decide), if_pos (by omega)]
      rw [e]
      exact ⟨none, 0, rfl, hs.chg, NewRow.none _ _ _⟩
    · have e : packF k l = ([k, UInt8.ofNat (l.length / 256), UInt8.ofNat (l.length % 256)] ++ l, 0) := by simp only [packF, hk]; rw [if_neg (by decide), if_neg (by omega)]
      rw [e]
      refine ⟨by decide, ((l.length / 256 : Nat) : Int), by show Int.fdiv _ (2 ^ 8) = _; rw [Int.fdiv_eq_ediv_of_nonneg _ (by decide)]; omega, ?_⟩
      refine ⟨((l.length / 256 : Nat) : Int), by rw [wrap_u8]; omega, ?_⟩
      refine ⟨((l.length % 256 : Nat) : Int), by rw [wrap_u8]; omega, ?_⟩
      intro b
      refine ⟨0, 3, 3 + l.length, _, l.map byte, _, rfl, fun β w hs => hs.get 1 rfl, bytes_one l, rfl, rfl, by rw [maxLen_eq]; omega, by show (3 + l.length) * 1 ≤ _; omega, ?_⟩
      intro A' c' h1 h2 h3 β w' hs
      have hl : ([k, UInt8.ofNat (l.length / 256), UInt8.ofNat (l.length % 256)] ++ l).length = 3 + l.length := by simp; omega
      refine ⟨A', c', by rw [hl]; rfl, hs.chg, hs.newRow rfl 0 ?_ (by rw [hl]; exact h1) h2⟩
      show some (rowF _ 1 (.slice A' (3 + l.length) c') (3 + l.length) _) = some (rowF _ 1 (.slice A' _ c') _ _)
      rw [hl]
      simp only [List.map_append, List.map_cons, List.map_nil, byte_ofNat _ (show l.length / 256 < 256 by omega), byte_ofNat _ (Nat.mod_lt l.length (by omega : 0 < 256))]
  · intro β w' hs
    have e : packF k l = ([], 1) := by simp only [packF, hk]; rfl
    rw [e]
    exact ⟨none, 0, rfl, hs.chg, NewRow.none _ _ _⟩

theorem rpack_c (w : World) (k : UInt8) (A : Option Addr) (l : List UInt8) (c : Nat) (hr : Bs w A l) (hn : l.length ≤ lim) :
    Calls Try.prog n_ostiaryref06_Pack #[frameV k A l c] w fun e w' => ∃ v, e = .returned v ∧ ∃ A' c', v = .tuple #[.slice A' (packF k l).1.length c', .int .i64 (packF k l).2] ∧ Chg None_ w w' ∧ NewRow w w' A' (packF k l).1 c' ty_uint8 := by
  rw [lim_eq] at hn
  have g := good_ostiaryref06_Pack w None_
  refine calls_of_sx (cx := cx_ostiaryref06_Pack w None_) g b_ostiaryref06_Pack rfl rfl (β := Va.z) [frameS k A l c] 0 [] [bsF A l] rfl rfl ((Sat.start rfl).rd (fun _ h => by cases h) hr) ?_
  have hkb : kindB k = false → packF k l = ([], 1) := fun h => by simp only [packF, h]; rfl
  refine BIf.dec (fun h0 => ?_) (fun h0 => ?_)
  · intro β w' hs
    rw [hkb (by simp only [kindB]; exact decide_eq_false (by omega))]
    exact ⟨none, 0, rfl, hs.chg, NewRow.none _ _ _⟩
  refine BIf.dec (fun h1 => ?_) (fun h1 => ?_)
  · intro β w' hs
    rw [hkb (by simp only [kindB]; exact decide_eq_false (by omega))]
    exact ⟨none, 0, rfl, hs.chg, NewRow.none _ _ _⟩
  have hk : kindB k = true := by simp only [kindB]; exact decide_eq_true (by omega)
  refine BIf.dec (fun h2 => ?_) (fun h2 => ?_)
  · intro β w' hs
    have e : packF k l = ([], 3) := by simp only [packF, hk]; rw [if_neg (by decide), if_pos (by omega)]
    rw [e]
    exact ⟨none, 0, rfl, hs.chg, NewRow.none _ _ _⟩
  have e : packF k l = ([k, UInt8.ofNat (l.length / 256), UInt8.ofNat (l.length % 256)] ++ l, 0) := by simp only [packF, hk]; rw [if_neg (by decide), if_neg (by omega)]
  rw [e]
  refine draw_rule g p_ostiaryref06_Pack_5 (by kernel_rfl) _ _ Sub.refl ?_
  have hl : ([k, UInt8.ofNat (l.length / 256), UInt8.ofNat (l.length % 256)] ++ l).length = 3 + l.length := by simp; omega
  have hb2 : be 2 l.length = [UInt8.ofNat (l.length / 256), UInt8.ofNat (l.length % 256)] := by
    simp only [be, List.nil_append, List.cons_append]
    rw [show l.length / 256 % 256 = l.length / 256 by omega]
  have fin : ∀ (A' : Option Addr) (c' : Nat) (F : List Fact), 3 + l.length ≤ c' → c' ≤ maxLen → ∀ β w', Sat (cx_ostiaryref06_Pack w None_) β 1 [⟨0, ty_ostiaryref06_Frame, [.v (byte k), .v (.slice A l.length c)]⟩] F w' →
      (∃ j, nth F j = some (rowF ty_uint8 1 (.slice A' (3 + l.length) c') (3 + l.length) ([byte k] ++ (be 2 l.length).map byte ++ l.map byte))) →
      ∃ A'' c'', Value.tuple #[.slice A' (3 + l.length) c', .int .i64 0] = .tuple #[.slice A'' ([k, UInt8.ofNat (l.length / 256), UInt8.ofNat (l.length % 256)] ++ l).length c'', .int .i64 0] ∧ Chg None_ w w' ∧ NewRow w w' A'' ([k, UInt8.ofNat (l.length / 256), UInt8.ofNat (l.length % 256)] ++ l) c'' ty_uint8 := by
    rintro A' c' F h1 h2 β w' hs ⟨j, hj⟩
    refine ⟨A', c', by rw [hl], hs.chg, hs.newRow rfl j ?_ (by rw [hl]; exact h1) h2⟩
    rw [hj, hb2]
    simp only [browF, hl]
    rfl
  have hu : l.length * 1 ≤ 140737488355328 := by omega
  refine ⟨(l.length : Int), by rw [wrap_u64]; omega, ?_⟩
  refine ⟨?_, ?_⟩
  · intro b
    refine ⟨Sub.dropF 1 rfl, ?_⟩
    intro β w1 hs
    refine (bytes_c _ l.length 2 (by omega) (by omega)).mono ?_
    rintro e w2 ⟨v, rfl, A1, c1, rfl, hc, hn2⟩
    refine ⟨_, rfl, Ret.mk _ _ (hs.addBs hc hn2) ?_⟩
    refine ⟨Sub.dropF 2 rfl, ?_⟩
    refine ⟨1, 1, 3, _, (be 2 l.length).map byte, _, rfl, fun β w hs => hs.get 0 rfl, bytes_one _, by rw [be_length], rfl, by rw [maxLen_eq]; omega, by decide, ?_⟩
    intro A2 c2 q1 q2 _
    refine ⟨Sub.dropF 2 rfl, ?_⟩
    refine ⟨1, 3, 3 + l.length, _, l.map byte, _, rfl, fun β w hs => hs.get 2 rfl, bytes_one _, rfl, rfl, by rw [maxLen_eq]; omega, by show (3 + l.length) * 1 ≤ _; omega, ?_⟩
    intro A3 c3 q3 q4 _
    refine ⟨Sub.dropF 2 rfl, ?_⟩
    intro β w' hs
    exact fin A3 c3 _ q3 q4 β w' hs ⟨1, rfl⟩
  · intro β w1 hs
    refine (bytes_c _ l.length 2 (by omega) (by omega)).mono ?_
    rintro e w2 ⟨v, rfl, A1, c1, rfl, hc, hn2⟩
    refine ⟨_, rfl, Ret.mk _ _ (hs.addBs hc hn2) ?_⟩
    refine ⟨Sub.dropF 1 rfl, ?_⟩
    intro b
    refine ⟨Sub.dropF 2 rfl, ?_⟩
    refine ⟨0, 1, 3, _, (be 2 l.length).map byte, _, rfl, fun β w hs => hs.get 1 rfl, bytes_one _, by rw [be_length], rfl, by rw [maxLen_eq]; omega, by decide, ?_⟩
    intro A2 c2 q1 q2 _
    refine ⟨Sub.dropF 2 rfl, ?_⟩
    refine ⟨0, 3, 3 + l.length, _, l.map byte, _, rfl, fun β w hs => hs.get 2 rfl, bytes_one _, rfl, rfl, by rw [maxLen_eq]; omega, by show (3 + l.length) * 1 ≤ _; omega, ?_⟩
    intro A3 c3 q3 q4 _
    refine ⟨Sub.dropF 2 rfl, ?_⟩
    intro β w' hs
    exact fin A3 c3 _ q3 q4 β w' hs ⟨0, rfl⟩

theorem rsame_c (w : World) (k m : UInt8) (A B : Option Addr) (l p : List UInt8) (c d : Nat) (hl : Bs w A l) (hm : Bs w B p) :
    Calls Try.prog n_ostiaryref06_Same #[frameV k A l c, frameV m B p d] w fun e w' => ∃ v, e = .returned v ∧ v = .bool (decide (k = m ∧ l = p)) ∧ Chg None_ w w' := by
  refine calls_of_sx (cx := cx_ostiaryref06_Same w None_) (good_ostiaryref06_Same w None_) b_ostiaryref06_Same rfl rfl (β := Va.z) [frameS k A l c, frameS m B p d] 0 [] [bsF B p, bsF A l] rfl rfl (((Sat.start rfl).rd (fun _ h => by cases h) hl).rd (fun g h => by obtain rfl := List.mem_singleton.1 h; rfl) hm) ?_
  have hkm : ((k.toNat : Nat) : Int) = m.toNat ↔ k = m := by rw [← UInt8.toNat_inj]; omega
  refine BIf.dec (fun h0 => ?_) (fun h0 => ?_)
  · intro β w1 hs
    refine (same_c _ A B l p c d (hs.get 1 rfl) (hs.get 0 rfl)).mono ?_
    rintro e w2 ⟨v, rfl, rfl, hc⟩
    refine ⟨_, rfl, Ret.mk _ _ (hs.same hc) ?_⟩
    intro β w' hs
    refine ⟨?_, hs.chg⟩
    show Value.bool (decide (l = p)) = _
    rw [hkm.1 h0]
    simp
  · intro β w' hs
    refine ⟨?_, hs.chg⟩
    show Value.bool false = _
    have : ¬ k = m := fun q => h0 (hkm.2 q)
    simp [this]

/-! ### Unpack -/
theorem or_shift (a b : UInt8) : bits .or .i64 ((a.toNat : Int) * 256) (b.toNat : Int) = ((a.toNat * 256 + b.toNat : Nat) : Int) := by
  have ha := a.toNat_lt
  have hb := b.toNat_lt
  have h1 : (a.toNat * 256) ||| b.toNat = a.toNat * 256 + b.toNat := by
    have := Nat.two_pow_add_eq_or_of_lt (i := 8) (b := b.toNat) (by omega) a.toNat
    rw [show (2 : Nat) ^ 8 * a.toNat = a.toNat * 256 by omega] at this
    exact this.symm
  have e1 : (BitVec.ofInt 64 ((a.toNat : Int) * 256)).toNat = a.toNat * 256 := by
    rw [show ((a.toNat : Int) * 256) = ((a.toNat * 256 : Nat) : Int) by omega, BitVec.ofInt_natCast, BitVec.toNat_ofNat]; exact Nat.mod_eq_of_lt (by omega)
  have e2 : (BitVec.ofInt 64 (b.toNat : Int)).toNat = b.toNat := by
    rw [BitVec.ofInt_natCast, BitVec.toNat_ofNat]; exact Nat.mod_eq_of_lt (by omega)
  show IntKind.i64.wrap ((BitVec.ofInt 64 ((a.toNat : Int) * 256) ||| BitVec.ofInt 64 (b.toNat : Int)).toNat : Int) = _
  rw [BitVec.toNat_or, e1, e2, h1, wrap_i64 (by omega) (by omega)]

theorem unpack_c (w : World) (A : Option Addr) (l : List UInt8) (c : Nat) (hr : Bs w A l) (hcl : l.length ≤ c) (hn : l.length ≤ lim) :
    Calls Try.prog n_frame_Unpack #[.slice A l.length c] w fun e w' => ∃ v, e = .returned v ∧ ∃ A' c', v = .tuple #[frameV (unpackF l).1 A' (unpackF l).2.1 c', .int .i64 (unpackF l).2.2.1, .int .i64 (unpackF l).2.2.2] ∧ Chg None_ w w' ∧ NewRow w w' A' (unpackF l).2.1 c' ty_uint8 := by
  rw [lim_eq] at hn
  have g := good_frame_Unpack w None_
  refine calls_of_sx (cx := cx_frame_Unpack w None_) g b_frame_Unpack rfl rfl (β := Va.z) [.c (.v (.slice A l.length c))] 0 [] [bsF A l] rfl rfl ((Sat.start rfl).rd (fun _ h => by cases h) hr) ?_
  refine BIf.dec (fun h0 => ?_) (fun h0 => ?_)
  · intro β w' hs
    have e : unpackF l = (0, [], 0, 2) := by
      match l, h0 with
      | [], _ => rfl
      | [_], _ => rfl
      | [_, _], _ => rfl
      | _ :: _ :: _ :: r, h => simp at h; omega
    rw [e]
    exact ⟨none, 0, rfl, hs.chg, NewRow.none _ _ _⟩
  obtain ⟨x, y, z, r, rfl⟩ : ∃ x y z r, l = x :: y :: z :: r := by
    match l, h0 with
    | [], h => simp at h
    | [_], h => simp at h
    | [_, _], h => simp at h
    | x :: y :: z :: r, _ => exact ⟨x, y, z, r, rfl⟩
  obtain ⟨ad, hA⟩ := Bs.addr hr (by simp)
  have hlen : (x :: y :: z :: r).length = r.length + 3 := by simp
  have hx := x.toNat_lt
  have hy := y.toNat_lt
  have hz := z.toNat_lt
  refine draw_rule g p_frame_Unpack_3 (by kernel_rfl) _ _ Sub.refl ?_
  refine ⟨ad, 1, hA, rfl, by omega, byte y, fun β w hs => Bs.cell (hs.get 0 rfl : Bs w A _) hA (j := 1) (by simp), ?_⟩
  refine ⟨(y.toNat : Int), wrap_i64 (by omega) (by omega), by decide, (y.toNat : Int) * 256, by show IntKind.i64.wrap ((y.toNat : Int) * 2 ^ 8) = _; rw [wrap_i64 (by omega) (by omega)]; omega, ?_⟩
  refine ⟨ad, 2, hA, rfl, by omega, byte z, fun β w hs => Bs.cell (hs.get 0 rfl : Bs w A _) hA (j := 2) (by simp), ?_⟩
  refine ⟨(z.toNat : Int), wrap_i64 (by omega) (by omega), _, or_shift y z, ?_⟩
  refine ⟨ad, 0, hA, rfl, by omega, byte x, fun β w hs => Bs.cell (hs.get 0 rfl : Bs w A _) hA (j := 0) (by simp), ?_⟩
  intro β w1 hs
  refine (kind_c _ x).mono ?_
  rintro e w2 ⟨v, rfl, rfl, hc⟩
  refine ⟨_, rfl, Ret.mk _ _ (hs.same hc) ?_⟩
  refine BIf.not (BIf.mk (fun hk => ?_) (fun hk => ?_))
  · refine BIf.dec (fun h1 => ?_) (fun h1 => ?_)
    · intro β w' hs
      have e : unpackF (x :: y :: z :: r) = (0, [], 0, 3) := by simp only [unpackF, hk]; rw [if_neg (by decide), if_pos (by omega)]
      rw [e]
      exact ⟨none, 0, rfl, hs.chg, NewRow.none _ _ _⟩
    refine ⟨_, wrap_i64 (by omega) (by omega), ?_⟩
    refine BIf.dec (fun h2 => ?_) (fun h2 => ?_)
    · intro β w' hs
      have e : unpackF (x :: y :: z :: r) = (0, [], 0, 2) := by simp only [unpackF, hk]; rw [if_neg (by decide), if_neg (by omega), if_pos (by omega)]
      rw [e]
      exact ⟨none, 0, rfl, hs.chg, NewRow.none _ _ _⟩
    have e : unpackF (x :: y :: z :: r) = (x, r.take (y.toNat * 256 + z.toNat), 3 + (y.toNat * 256 + z.toNat), 0) := by simp only [unpackF, hk]; rw [if_neg (by decide), if_neg (by omega), if_neg (by omega)]
    rw [e]
    have hbl : (r.take (y.toNat * 256 + z.toNat)).length = y.toNat * 256 + z.toNat := by simp; omega
    refine draw_rule g p_frame_Unpack_10 (by kernel_rfl) [] [bsF A (x :: y :: z :: r)] (Sub.of (List.nil_sublist _) (List.Sublist.refl _)) ?_
    refine ⟨ad, 0, hA, rfl, by omega, byte x, fun β w hs => Bs.cell (hs.get 0 rfl : Bs w A _) hA (j := 0) (by simp), ?_⟩
    refine ⟨((3 + (y.toNat * 256 + z.toNat) : Nat) : Int), by rw [wrap_i64 (by omega) (by omega)]; omega, ?_⟩
    refine ⟨c, 3 + (y.toNat * 256 + z.toNat), 3, (r.take (y.toNat * 256 + z.toNat)).length, c - 3, _, rfl, rfl, rfl, Nat.le_refl _, by omega, by omega, by omega, rfl, rfl, ?_⟩
    refine ⟨((3 + (y.toNat * 256 + z.toNat) : Nat) : Int), by rw [wrap_i64 (by omega) (by omega)]; omega, ?_⟩
    intro β w3 hs3
    have hcut : Bs w3 (cutA A c 3 1) (r.take (y.toNat * 256 + z.toNat)) :=
      Bs.cutB (hs3.get 0 rfl : Bs w3 A _) (j := 3 + (y.toNat * 256 + z.toNat)) hcl (by omega) (by omega) (by rw [Nat.add_sub_cancel_left]; rfl)
    refine (clone_c _ _ _ (c - 3) hcut (by rw [lim_eq]; omega)).mono ?_
    rintro e w4 ⟨v, rfl, A4, c4, rfl, hc4, hn4⟩
    refine ⟨_, rfl, Ret.mk _ _ (hs3.addRow hc4 hn4) ?_⟩
    refine ⟨Sub.of (List.nil_sublist _) (List.sublist_cons_self _ _), ?_⟩
    refine ⟨Sub.of (List.nil_sublist _) (List.sublist_cons_self _ _), ?_⟩
    intro β w' hs
    exact ⟨A4, c4, rfl, hs.chg, hs.newRow rfl 0 rfl hn4.1 hn4.2.1⟩
  · intro β w' hs
    have e : unpackF (x :: y :: z :: r) = (0, [], 0, 1) := by simp only [unpackF, hk]; rfl
    rw [e]
    exact ⟨none, 0, rfl, hs.chg, NewRow.none _ _ _⟩

/-- What the reference hands back: the rest, too. -/
def restF (p : List UInt8) : List UInt8 := if (unpackF p).2.2.2 = 0 then p.drop (unpackF p).2.2.1 else []

theorem runpack_c (w : World) (A : Option Addr) (l : List UInt8) (c : Nat) (hr : Bs w A l) (hcl : l.length ≤ c) (hcm : c ≤ maxLen) (hn : l.length ≤ lim) :
    Calls Try.prog n_ostiaryref06_Unpack #[.slice A l.length c] w fun e w' => ∃ v, e = .returned v ∧ ∃ A' c' A2 c2, v = .tuple #[frameV (unpackF l).1 A' (unpackF l).2.1 c', .slice A2 (restF l).length c2, .int .i64 (unpackF l).2.2.2] ∧ Chg None_ w w' ∧ NewRow w w' A' (unpackF l).2.1 c' ty_uint8 ∧
      (restF l).length ≤ c2 ∧ c2 ≤ maxLen ∧ Bs w' A2 (restF l) ∧ ∀ k, (bsF A2 (restF l)).D k → (bsF A l).D k := by
  rw [lim_eq] at hn
  have g := good_ostiaryref06_Unpack w None_
  refine calls_of_sx (cx := cx_ostiaryref06_Unpack w None_) g b_ostiaryref06_Unpack rfl rfl (β := Va.z) [.c (.v (.slice A l.length c))] 0 [] [bsF A l] rfl rfl ((Sat.start rfl).rd (fun _ h => by cases h) hr) ?_
  have bad : ∀ (e : Nat) (w' : World), unpackF l = (0, [], 0, e) → e ≠ 0 → Chg None_ w w' → ∃ A' c' A2 c2, Value.tuple #[frameV 0 none [] 0, .slice none 0 0, .int .i64 e] = .tuple #[frameV (unpackF l).1 A' (unpackF l).2.1 c', .slice A2 (restF l).length c2, .int .i64 (unpackF l).2.2.2] ∧ Chg None_ w w' ∧ NewRow w w' A' (unpackF l).2.1 c' ty_uint8 ∧
      (restF l).length ≤ c2 ∧ c2 ≤ maxLen ∧ Bs w' A2 (restF l) ∧ ∀ k, (bsF A2 (restF l)).D k → (bsF A l).D k := by
    intro e w' he h0 hc
    have hrest : restF l = [] := by simp only [restF, he]; rw [if_neg h0]
    rw [he, hrest]
    exact ⟨none, 0, none, 0, rfl, hc, NewRow.none _ _ _, Nat.le_refl _, Nat.zero_le _, Bs.nil _ _, fun k hk => by simp [rdF] at hk⟩
  refine BIf.dec (fun h0 => ?_) (fun h0 => ?_)
  · intro β w' hs
    have e : unpackF l = (0, [], 0, 2) := by
      match l, h0 with
      | [], _ => rfl
      | [_], _ => rfl
      | [_, _], _ => rfl
      | _ :: _ :: _ :: r, h => simp at h; omega
    exact bad 2 w' e (by decide) hs.chg
  obtain ⟨x, y, z, r, rfl⟩ : ∃ x y z r, l = x :: y :: z :: r := by
    match l, h0 with
    | [], h => simp at h
    | [_], h => simp at h
    | [_, _], h => simp at h
    | x :: y :: z :: r, _ => exact ⟨x, y, z, r, rfl⟩
  obtain ⟨ad, hA⟩ := Bs.addr hr (by simp)
  have hlen : (x :: y :: z :: r).length = r.length + 3 := by simp
  have hx := x.toNat_lt
  have hy := y.toNat_lt
  have hz := z.toNat_lt
  have hkb : kindB x = false → unpackF (x :: y :: z :: r) = (0, [], 0, 1) := fun h => by simp only [unpackF, h]; rfl
  refine ⟨ad, 0, hA, rfl, by omega, byte x, fun β w hs => Bs.cell (hs.get 0 rfl : Bs w A _) hA (j := 0) (by simp), ?_⟩
  refine BIf.dec (fun h1 => ?_) (fun h1 => ?_)
  · exact fun β w' hs => bad 1 w' (hkb (by simp only [kindB]; exact decide_eq_false (by omega))) (by decide) hs.chg
  refine ⟨ad, 0, hA, rfl, by omega, byte x, fun β w hs => Bs.cell (hs.get 0 rfl : Bs w A _) hA (j := 0) (by simp), ?_⟩
  refine BIf.dec (fun h2 => ?_) (fun h2 => ?_)
  · exact fun β w' hs => bad 1 w' (hkb (by simp only [kindB]; exact decide_eq_false (by omega))) (by decide) hs.chg
  have hk : kindB x = true := by simp only [kindB]; exact decide_eq_true (by omega)
  refine ⟨c, 3, 1, [y, z].length, c - 1, _, rfl, rfl, rfl, Nat.le_refl _, by omega, by omega, rfl, rfl, rfl, ?_⟩
  intro β w1 hs
  have hcut : Bs w1 (cutA A c 1 1) [y, z] := Bs.cutB (hs.get 0 rfl : Bs w1 A _) (j := 3) hcl (by omega) (by omega) rfl
  refine (num_c _ _ _ (c - 1) hcut (by rw [lim_eq]; simp)).mono ?_
  rintro e w2 ⟨v, rfl, rfl, hc⟩
  refine ⟨_, rfl, Ret.mk _ _ (hs.same hc) ?_⟩
  have hnum : numB [y, z] = y.toNat * 256 + z.toNat := by simp [numB]; omega
  refine ⟨((y.toNat * 256 + z.toNat : Nat) : Int), by rw [hnum, wrap_i64 (by omega) (by omega)], ?_⟩
  refine BIf.dec (fun h3 => ?_) (fun h3 => ?_)
  · exact fun β w' hs => bad 3 w' (by simp only [unpackF, hk]; rw [if_neg (by decide), if_pos (by omega)]) (by decide) hs.chg
  refine ⟨((3 + (y.toNat * 256 + z.toNat) : Nat) : Int), by rw [wrap_i64 (by omega) (by omega)]; omega, ?_⟩
  refine BIf.dec (fun h4 => ?_) (fun h4 => ?_)
  · exact fun β w' hs => bad 2 w' (by simp only [unpackF, hk]; rw [if_neg (by decide), if_neg (by omega), if_pos (by omega)]) (by decide) hs.chg
  have e : unpackF (x :: y :: z :: r) = (x, r.take (y.toNat * 256 + z.toNat), 3 + (y.toNat * 256 + z.toNat), 0) := by simp only [unpackF, hk]; rw [if_neg (by decide), if_neg (by omega), if_neg (by omega)]
  have hrest : restF (x :: y :: z :: r) = (x :: y :: z :: r).drop (3 + (y.toNat * 256 + z.toNat)) := by simp only [restF, e, if_true]
  have hbl : (r.take (y.toNat * 256 + z.toNat)).length = y.toNat * 256 + z.toNat := by simp; omega
  have hrl : (restF (x :: y :: z :: r)).length = (x :: y :: z :: r).length - (3 + (y.toNat * 256 + z.toNat)) := by rw [hrest, List.length_drop]
  rw [e]
  refine draw_rule g p_ostiaryref06_Unpack_10 (by kernel_rfl) [] [bsF A (x :: y :: z :: r)] (Sub.of (List.nil_sublist _) (List.Sublist.refl _)) ?_
  refine ⟨ad, 0, hA, rfl, by omega, byte x, fun β w hs => Bs.cell (hs.get 0 rfl : Bs w A _) hA (j := 0) (by simp), ?_⟩
  refine ⟨((3 + (y.toNat * 256 + z.toNat) : Nat) : Int), by rw [wrap_i64 (by omega) (by omega)]; omega, ?_⟩
  refine ⟨c, 3 + (y.toNat * 256 + z.toNat), 3, (r.take (y.toNat * 256 + z.toNat)).length, c - 3, _, rfl, rfl, rfl, Nat.le_refl _, by omega, by omega, by omega, rfl, rfl, ?_⟩
  refine ⟨((3 + (y.toNat * 256 + z.toNat) : Nat) : Int), by rw [wrap_i64 (by omega) (by omega)]; omega, ?_⟩
  refine ⟨c, (x :: y :: z :: r).length, 3 + (y.toNat * 256 + z.toNat), (restF (x :: y :: z :: r)).length, c - (3 + (y.toNat * 256 + z.toNat)), _, rfl, rfl, rfl, Nat.le_refl _, hcl, by omega, hrl.symm, rfl, rfl, ?_⟩
  intro β w3 hs3
  have hcut3 : Bs w3 (cutA A c 3 1) (r.take (y.toNat * 256 + z.toNat)) :=
    Bs.cutB (hs3.get 0 rfl : Bs w3 A _) (j := 3 + (y.toNat * 256 + z.toNat)) hcl (by omega) (by omega) (by rw [Nat.add_sub_cancel_left]; rfl)
  refine (copy_c _ _ _ (c - 3) hcut3 (by rw [lim_eq]; omega)).mono ?_
  rintro e w4 ⟨v, rfl, A4, c4, rfl, hc4, hn4⟩
  refine ⟨_, rfl, Ret.mk _ _ (hs3.addRow hc4 hn4) ?_⟩
  refine ⟨Sub.of (List.nil_sublist _) (List.sublist_cons_self _ _), ?_⟩
  refine ⟨Sub.of (List.nil_sublist _) (List.sublist_cons_self _ _), ?_⟩
  intro β w' hs
  refine ⟨A4, c4, cutA A c (3 + (y.toNat * 256 + z.toNat)) 1, c - (3 + (y.toNat * 256 + z.toNat)), rfl, hs.chg, hs.newRow rfl 0 rfl hn4.1 hn4.2.1, by rw [hrl]; omega, by omega, ?_, ?_⟩
  · exact Bs.cutB (hs.get 1 rfl : Bs w' A _) (j := (x :: y :: z :: r).length) hcl (by omega) (Nat.le_refl _) (by rw [hrest, ← List.length_drop, List.take_length])
  · rintro k ⟨h5, ad', h6, rfl⟩
    refine ⟨by simp, ad, hA, ?_⟩
    rw [hrl] at h5
    simp only [cutA, hA] at h6
    rw [if_neg (by omega)] at h6
    obtain rfl := Option.some.inj h6
    unfold Addr.add; split <;> rfl
end Go.Proofs.Ytlbnmjjbjjmifaa.Sx
