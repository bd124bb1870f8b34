/- FrameBreaks -/
import Derived.Test.YtlbnmjjbjjmifaaLawF
namespace Go.Proofs.Ytlbnmjjbjjmifaa.Sx
open Go
attribute [local irreducible] Calls
/-! ### FrameBreaks -/
theorem packF3 (p : List UInt8) (h : p.length ≤ 100) : (packF 3 p).2 = 0 ∧ (packF 3 p).1.length = 3 + p.length := by
  have hk : kindB 3 = true := by decide
  unfold packF
  rw [if_neg (by rw [hk]; decide), if_neg (by omega)]
  exact ⟨rfl, by simp; omega⟩

set_option maxRecDepth 3000 in
set_option maxHeartbeats 400000 in
theorem frameBreaks_c (w : World) (A B : Option Addr) (p q : List UInt8) (c d : Nat) (k : UInt8) (x : Int) (n : Nat) (hx : x = n) (hn : n < 65536) (hp : Bs w A p) (hq : Bs w B q) (hc : p.length ≤ c) (hd : q.length ≤ d) :
    Calls Try.prog n_ostiarylaw06_FrameBreaks #[.slice A p.length c, byte k, .int .u16 x, .slice B q.length d] w fun e w' => ∃ v, e = .returned v ∧ v = .bool true ∧ Chg None_ w w' := by
  refine calls_of_sx (cx := cx_ostiarylaw06_FrameBreaks w None_) (good_ostiarylaw06_FrameBreaks w None_) b_ostiarylaw06_FrameBreaks rfl rfl (β := fun _ => 0) [.c (.v (.slice A p.length c)), .c (.v (byte k)), .c (.v (.int .u16 x)), .c (.v (.slice B q.length d))] 0 [] [bsF B q, bsF A p] rfl rfl
    (((Sat.start rfl).rd (fun _ h => by cases h) hp).rd (fun g h => by obtain rfl := List.mem_singleton.1 h; rfl) hq) ?_
  intro β w1 hs1
  refine (awake_c _).mono ?_
  rintro e w2 ⟨v, rfl, rfl, hch⟩
  refine ⟨_, rfl, Ret.mk _ _ (hs1.same hch) ?_⟩
  clear hs1 hch
  intro β w1 hs1
  refine (newReader_c _).mono ?_
  rintro e w2 ⟨v, rfl, b, rfl, hch, hr, hrD⟩
  refine ⟨_, rfl, Ret.mk _ _ (hs1.add hch _ hr hrD) ?_⟩
  clear hs1 hch hr hrD
  intro β w1 hs1
  refine (cut_c _ A p c 100 (hs1.get 2 rfl) hc (by decide)).mono ?_
  rintro e w2 ⟨v, rfl, A1, c1, rfl, hch, hn1⟩
  refine ⟨_, rfl, Ret.mk _ [bsF A1 (p.take 100), rdr b none [] 0 0, bsF B q] ((hs1.addBs hch hn1).weaken (List.Sublist.refl _) (List.Sublist.cons_cons _ (List.Sublist.cons_cons _ (List.Sublist.cons_cons _ (List.nil_sublist _))))) ?_⟩
  have hpl : (p.take 100).length ≤ 100 := by simp; omega
  clear hs1 hch hn1
  generalize p.take 100 = p at *
  intro β w1 hs1
  obtain ⟨f0, e0, hf⟩ : ∃ f0 e0, packF 3 p = (f0, e0) := ⟨_, _, rfl⟩
  have h3 := packF3 p hpl
  have hu0 := pack_unpack 3 p
  have hrp := rpack_c w1 3 A1 p c1 (hs1.get 0 rfl) (by rw [lim_eq]; omega)
  simp only [hf] at h3 hu0 hrp
  obtain ⟨rfl, hfl⟩ := h3
  refine hrp.mono ?_
  rintro e w2 ⟨v, rfl, A2, c2, rfl, hch, hn2⟩
  refine ⟨_, rfl, Ret.mk _ _ (hs1.addBs hch hn2) ?_⟩
  have hc2 := hn2.1
  clear hs1 hch hn2 hrp
  intro β w1 hs1
  have hfd := feed_c w1 b none [] 0 0 A2 f0 c2 (hs1.get 2 rfl) (hs1.get 0 rfl) hc2 (hs1.apart' 2 0 rfl rfl (by decide) (.inl rfl)) (by decide)
  have hN0 : feedN [] 0 f0 = f0.length := by show min f0.length (8192 - 0) = _; omega
  simp only [hN0, List.nil_append, List.take_length] at hfd
  refine hfd.mono ?_
  rintro e w2 ⟨v, rfl, rfl, A3, c3, ha⟩
  refine ⟨_, rfl, Ret.mk _ [rdr b A3 f0 c3 0, bsF B q] ((hs1.upd (j := 2) rfl rfl ha.1 ha.2.1 ha.2.2).weaken (List.Sublist.refl _) (List.Sublist.cons _ (List.Sublist.cons _ (List.Sublist.refl _)))) ?_⟩
  clear hs1 ha hfd
  obtain ⟨y, hy⟩ : ∃ y : Nat, y = n / 256 := ⟨_, rfl⟩
  obtain ⟨x1, hx1⟩ : ∃ x : UInt8, x.toNat = n / 256 := ⟨UInt8.ofNat (n / 256), by rw [UInt8.toNat_ofNat']; omega⟩
  obtain ⟨x2, hx2⟩ : ∃ x : UInt8, x.toNat = n % 256 := ⟨UInt8.ofNat (n % 256), by rw [UInt8.toNat_ofNat']; omega⟩
  refine ⟨by decide, (y : Int), by show Int.fdiv _ (2 ^ 8) = _; rw [Int.fdiv_eq_ediv_of_nonneg _ (by decide)]; omega, ?_⟩
  refine ⟨((x1.toNat : Nat) : Int), by rw [wrap_u8]; omega, ?_⟩
  refine ⟨((x2.toNat : Nat) : Int), by rw [wrap_u8]; omega, ?_⟩
  intro b3 β w1 hs1
  have hfd := feed_c w1 b A3 f0 c3 0 (some ⟨b3, 0, none⟩) [k, x1, x2] 3 (hs1.get 1 rfl) (row_rd (hs1.get 0 rfl)) (by simp) (fun j hj hj' => hs1.apart' 1 0 rfl rfl (by decide) (.inl rfl) j hj (rd_sub_row j hj')) (by omega)
  have hN1 : feedN f0 0 [k, x1, x2] = 3 := by show min 3 (8192 - f0.length) = _; omega
  simp only [hN1] at hfd
  refine hfd.mono ?_
  rintro e w2 ⟨v, rfl, rfl, A4, c4, ha⟩
  refine ⟨_, rfl, Ret.mk _ [rdr b A4 (f0 ++ [k, x1, x2]) c4 0, bsF B q] ((hs1.upd (j := 1) rfl rfl ha.1 ha.2.1 ha.2.2).weaken (List.Sublist.refl _) (List.Sublist.cons _ (List.Sublist.refl _))) ?_⟩
  clear hs1 ha hfd
  intro β w1 hs1
  have hnx := next_c w1 b A4 (f0 ++ [k, x1, x2]) c4 0 (hs1.get 0 rfl) (by simp; omega)
  have hF0 : nextF (f0 ++ [k, x1, x2]) 0 = (3, p, 0) := by show ((unpackF _).1, (unpackF _).2.1, ((unpackF _).2.2.2 : Int)) = _; rw [hu0 _ rfl]; rfl
  have hS0 : nextS (f0 ++ [k, x1, x2]) 0 = ([k, x1, x2], 0) := by unfold nextS; rw [hu0 _ rfl]; simp
  simp only [hF0, hS0] at hnx
  refine hnx.mono ?_
  rintro e w2 ⟨v, rfl, A5, c5, A6, c6, rfl, hn3, ha, hdj⟩
  refine ⟨_, rfl, Ret.mk _ [rdr b A6 [k, x1, x2] c6 0, bsF B q] (hs1.upd (j := 0) rfl rfl ha.1 ha.2.1 ha.2.2) ?_⟩
  clear hs1 ha hdj hn3 hnx
  intro β w1 hs1
  obtain ⟨k2, f2, n2, e2, hu⟩ : ∃ k2 f2 n2 e2, unpackF [k, x1, x2] = (k2, f2, n2, e2) := ⟨_, _, _, _, rfl⟩
  obtain ⟨l3, bad3, hS⟩ : ∃ l3 bad3, nextS [k, x1, x2] 0 = (l3, bad3) := ⟨_, _, rfl⟩
  have hF : nextF [k, x1, x2] 0 = (k2, f2, (e2 : Int)) := by show ((unpackF _).1, (unpackF _).2.1, ((unpackF _).2.2.2 : Int)) = _; rw [hu]
  have hnx := next_c w1 b A6 [k, x1, x2] c6 0 (hs1.get 0 rfl) (by simp)
  simp only [hF, hS] at hnx
  refine hnx.mono ?_
  rintro e w2 ⟨v, rfl, A7, c7, A8, c8, rfl, hn3, ha, hdj⟩
  refine ⟨_, rfl, Ret.mk _ [rdr b A8 l3 c8 bad3, bsF B q] (hs1.upd (j := 0) rfl rfl ha.1 ha.2.1 ha.2.2) ?_⟩
  clear hs1 ha hdj hn3 hnx
  have hS' : (l3, bad3) = if e2 = 0 then (([k, x1, x2] : List UInt8).drop n2, 0) else if e2 = 2 then ([k, x1, x2], 0) else ([], (e2 : Int)) := by
    rw [← hS]; show (if (unpackF _).2.2.2 = 0 then _ else _) = _; rw [hu]
  have hk := k.toNat_lt
  have hu' : unpackF [k, x1, x2] = if kindB k = false then (0, [], 0, 1) else if 2048 < n then (0, [], 0, 3) else if 0 < n then (0, [], 0, 2) else (k, [], 3, 0) := by
    have hnn : x1.toNat * 256 + x2.toNat = n := by omega
    unfold unpackF
    simp only [hnn]
    by_cases h0 : 0 < n
    · simp [h0]
    · have : n = 0 := by omega
      subst this
      simp
  rw [hu] at hu'
  have good : ∀ {want : Nat}, e2 = want → (want = 0 ∨ want = 2) → bad3 = 0 := by
    rintro want rfl (h | h)
    · subst h; exact (Prod.mk.inj hS').2
    · subst h; exact (Prod.mk.inj hS').2
  have broke : ∀ {want : Nat}, e2 = want → (want = 1 ∨ want = 3) → bad3 = e2 ∧ l3 = [] := by
    rintro want rfl (h | h)
    · subst h; exact ⟨(Prod.mk.inj hS').2, (Prod.mk.inj hS').1⟩
    · subst h; exact ⟨(Prod.mk.inj hS').2, (Prod.mk.inj hS').1⟩
  refine BIf.dec (fun h1 => ?b1) (fun h1 => ?m1)
  case' b1 =>
    have hk0 : kindB k = false := by simp only [kindB]; exact decide_eq_false (by omega)
    rw [if_pos hk0] at hu'
    obtain rfl : e2 = 1 := congrArg (·.2.2.2) hu'
    obtain ⟨rfl, rfl⟩ := broke rfl (.inl rfl)
  case' m1 =>
    refine BIf.dec (fun h2 => ?b2) (fun h2 => ?m2)
    case' b2 =>
      have hk0 : kindB k = false := by simp only [kindB]; exact decide_eq_false (by omega)
      rw [if_pos hk0] at hu'
      obtain rfl : e2 = 1 := congrArg (·.2.2.2) hu'
      obtain ⟨rfl, rfl⟩ := broke rfl (.inl rfl)
    case' m2 =>
      have hk0 : ¬ kindB k = false := by simp only [kindB]; rw [decide_eq_false_iff_not]; omega
      rw [if_neg hk0] at hu'
      refine BIf.dec (fun h3 => ?b3) (fun h3 => ?m3)
      case' b3 =>
        rw [if_pos (by omega)] at hu'
        obtain rfl : e2 = 3 := congrArg (·.2.2.2) hu'
        obtain ⟨rfl, rfl⟩ := broke rfl (.inr rfl)
      case' m3 =>
        rw [if_neg (by omega)] at hu'
        refine BIf.dec (fun h4 => ?a1) (fun h4 => ?a2)
        case' a1 =>
          rw [if_neg (by omega)] at hu'
          obtain rfl : e2 = 0 := congrArg (·.2.2.2) hu'
          obtain rfl := good rfl (.inl rfl)
        case' a2 =>
          rw [if_pos (by omega)] at hu'
          obtain rfl : e2 = 2 := congrArg (·.2.2.2) hu'
          obtain rfl := good rfl (.inr rfl)
  case a1 | a2 =>
    intro β w1 hs1
    refine (broken_c w1 b A8 l3 c8 0 (hs1.get 0 rfl)).mono ?_
    rintro e w2 ⟨v, rfl, rfl, hch⟩
    refine ⟨_, rfl, Ret.mk _ _ (hs1.same hch) ?_⟩
    intro β w' hs
    exact ⟨rfl, hs.chg⟩
  case b1 | b2 | b3 =>
    intro β w1 hs1
    refine (next_c w1 b A8 [] c8 _ (hs1.get 0 rfl) (by decide)).mono ?_
    rintro e w2 ⟨v, rfl, A9, c9, A10, c10, rfl, hn3, ha, hdj⟩
    refine ⟨_, rfl, Ret.mk _ _ (hs1.upd (j := 0) rfl rfl ha.1 ha.2.1 ha.2.2) ?_⟩
    clear hs1 ha hdj hn3
    intro β w1 hs1
    refine (broken_c w1 b A10 [] c10 _ (hs1.get 0 rfl)).mono ?_
    rintro e w2 ⟨v, rfl, rfl, hch⟩
    refine ⟨_, rfl, Ret.mk _ _ (hs1.same hch) ?_⟩
    clear hs1 hch
    intro β w1 hs1
    refine (cut_c _ B q d 20 (hs1.get 1 rfl) hd (by decide)).mono ?_
    rintro e w2 ⟨v, rfl, A11, c11, rfl, hch, hn1⟩
    refine ⟨_, rfl, Ret.mk _ _ (hs1.addBs hch hn1) ?_⟩
    have hc11 := hn1.1
    clear hs1 hch hn1
    intro β w1 hs1
    refine (feed_c w1 b A10 [] c10 _ A11 (q.take 20) c11 (hs1.get 1 rfl) (hs1.get 0 rfl) hc11 (hs1.apart' 1 0 rfl rfl (by decide) (.inl rfl)) (by decide)).mono ?_
    rintro e w2 ⟨v, rfl, rfl, A12, c12, ha⟩
    refine ⟨_, rfl, Ret.mk _ _ (hs1.upd (j := 1) rfl rfl ha.1 ha.2.1 ha.2.2) ?_⟩
    clear hs1 ha
    intro β w1 hs1
    refine (waiting_c w1 b A12 _ c12 _ (hs1.get 1 rfl)).mono ?_
    rintro e w2 ⟨v, rfl, rfl, hch⟩
    refine ⟨_, rfl, Ret.mk _ _ (hs1.same hch) ?_⟩
    intro β w' hs
    exact ⟨rfl, hs.chg⟩
end Go.Proofs.Ytlbnmjjbjjmifaa.Sx
