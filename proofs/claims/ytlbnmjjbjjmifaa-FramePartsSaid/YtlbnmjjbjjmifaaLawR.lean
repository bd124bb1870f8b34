/- FrameReads -/
import Derived.Test.YtlbnmjjbjjmifaaFr5
namespace Go.Proofs.Ytlbnmjjbjjmifaa.Sx
open Go
attribute [local irreducible] Calls

structure OpR where
  d : UInt8
  A : Option Addr
  p : List UInt8
  c : Nat
  n : UInt8
def OpR.cells (o : OpR) : List Value := [byte o.d, .slice o.A o.p.length o.c, byte o.n]
def OpR.ok (w : World) (o : OpR) : Prop := Bs w o.A o.p ∧ o.p.length ≤ o.c

theorem newReader_con (w : World) : Con Try.prog n_frame_NewReader #[] w [] (fun v Fs => ∃ b f, v = hptr (some b) ∧ rdrF (some b) ([], 0) f ∧ Fs = [f]) := by
  refine Calls.mono (newReader_c w) ?_
  rintro e w' ⟨v, rfl, b, rfl, hc, hp, hD⟩
  refine ⟨_, rfl, [rdr b none [] 0 0], ⟨b, _, rfl, ⟨none, 0, rfl⟩, rfl⟩, by rw [Un.nil]; exact hc, ⟨fun g hg => ?_, fun g hg k hk => ?_, List.pairwise_singleton _ _⟩, ⟨rfl, trivial⟩, fun g hg k hk => ?_⟩
  · obtain rfl := List.mem_singleton.1 hg; exact hp
  · obtain rfl := List.mem_singleton.1 hg; exact (hD k hk).2
  · obtain rfl := List.mem_singleton.1 hg; exact .inr (hD k hk).1

theorem nextO_eq {b rb : Option Nat} (h : b.isNone = rb.isNone) (s : RS) : nextO b s = nextO rb s := by
  cases b <;> cases rb <;> first | rfl | cases h
theorem afterO_eq {b rb : Option Nat} (h : b.isNone = rb.isNone) (s : RS) : afterO b s = afterO rb s := by
  cases b <;> cases rb <;> first | rfl | cases h
theorem feedO_eq {b rb : Option Nat} (h : b.isNone = rb.isNone) (s : RS) (m : List UInt8) : feedO b s m = feedO rb s m := by
  cases b <;> cases rb <;> first | rfl | cases h
theorem fedO_eq {b rb : Option Nat} (h : b.isNone = rb.isNone) (s : RS) (m : List UInt8) : fedO b s m = fedO rb s m := by
  cases b <;> cases rb <;> first | rfl | cases h
theorem fed_len (b : Option Nat) (s : RS) (m : List UInt8) (h : s.1.length ≤ 8192) : (fedO b s m).1.length ≤ 8192 := by
  cases b with
  | none => exact h
  | some b =>
    show (s.1 ++ m.take (feedN s.1 s.2 m)).length ≤ 8192
    have : feedN s.1 s.2 m ≤ 8192 - s.1.length := by unfold feedN; split <;> omega
    simp
    omega
theorem Mem.rowRd {w : World} {f : Fact} {e : Nat} {A : Option Addr} {l : List UInt8} {c : Nat} (h : Mem w [f, browF e A l c]) : Mem w [f, bsF A l] := by
  have h1 := (List.pairwise_cons.1 h.sepf).1 _ List.mem_cons_self (.inr rfl)
  have h2 := h.fact _ (List.mem_cons_of_mem _ List.mem_cons_self)
  refine ⟨fun g hg => ?_, fun g hg k hk => ?_, List.pairwise_cons.2 ⟨fun g hg _ k hk hk' => ?_, List.pairwise_singleton _ _⟩⟩
  · rcases List.mem_cons.1 hg with rfl | hg
    · exact h.fact _ List.mem_cons_self
    · obtain rfl := List.mem_singleton.1 hg; exact row_rd h2
  · rcases List.mem_cons.1 hg with rfl | hg
    · exact h.flt _ List.mem_cons_self k hk
    · obtain rfl := List.mem_singleton.1 hg; exact h.flt _ (List.mem_cons_of_mem _ List.mem_cons_self) k (rd_sub_row k hk)
  · obtain rfl := List.mem_singleton.1 hg
    exact h1 k hk (rd_sub_row k hk')
set_option maxHeartbeats 1000000 in
theorem frameReads_c (w0 : World) (none_ : Bool) (A : Option Addr) (c : Nat) (ops : List OpR) (hA : Rd 3 A ops.length (ops.flatMap OpR.cells) w0) (hin : ∀ o ∈ ops, OpR.ok w0 o) (hn : ops.length ≤ 9223372036854775807) :
    Calls Try.prog n_ostiarylaw06_FrameReads #[.bool none_, .slice A ops.length c] w0 fun e w' => ∃ v, e = .returned v ∧ v = .bool true ∧ Chg None_ w0 w' := by
  have g := good_ostiarylaw06_FrameReads w0 None_
  refine calls_of_sx (cx := cx_ostiarylaw06_FrameReads w0 None_) g b_ostiarylaw06_FrameReads rfl rfl (β := Va.z) [.c (.v (.bool none_)), .c (.v (.slice A ops.length c))] 0 [] [oldF w0] rfl rfl old_sat ?_
  refine call_pu (fun β w hs => pu_of (awake_c w)) ?_
  refine call_con [] (fun β w hs => newReader_con w) ?_
  rintro v Fs ⟨b1, f1, rfl, hf1, rfl⟩
  refine bif_join (ι := Option Nat × Option Nat × Fact × Fact) (fun i => i.1.isNone = i.2.1.isNone ∧ rdrF i.1 ([], 0) i.2.2.1 ∧ rrdrF i.2.1 ([], 0) i.2.2.2) 0
    (fun i => [(5, .c (.v (hptr i.1))), (6, .c (.v (hptr i.2.1))), (27, .c (.v (.slice A ops.length c))), (28, .c (.v (.int .i64 (ops.length : Int)))), (29, .c (.v (.int .i64 0)))]) (fun _ => []) (fun i => [i.2.2.1, i.2.2.2, oldF w0]) (fun h => ?_) (fun h => ?_) ?_
  · exact EntX.of (none, none, noO, noO) ⟨rfl, rfl, rfl⟩ (Ent.mk' ⟨rfl, rfl, rfl, rfl, rfl, trivial⟩ rfl (fun β w hs => ((((hs.noMem noO trivial (fun _ h => h)).noMem noO trivial (fun _ h => h)).perm [0, 1, 3]).keepB (List.nil_sublist _)).lower))
  · refine EntX.reify 0 (fun _ => [.slice none 0 0, .int .i64 0]) rfl rfl (fun _ => rfl) (fun rb => ?_)
    exact EntX.of (some b1, some rb, f1, rrdr rb none [] 0 0) ⟨rfl, hf1, ⟨none, 0, rfl⟩⟩ (Ent.mk' ⟨rfl, rfl, rfl, rfl, rfl, trivial⟩ rfl (fun β w hs => ((hs.fuse [0] (rrdr rb none [] 0 0) (fun w hm => ⟨hm.one, Bs.nil _ _, (fun q => by simp [rdF] at q), Nat.le_refl _, Nat.zero_le _⟩) (fun k hk => by
        rcases hk with rfl | hk
        · exact ⟨_, List.mem_cons_self, rfl⟩
        · simp [rdF] at hk)).perm [1, 0, 2]).lower))
  rintro ⟨b, rb, f1', f2'⟩ ⟨hbb, hr1, hr2⟩
  simp only at hbb hr1 hr2
  refine loop_rule (ι := RS × Fact × Fact × Nat) 0 (fun i => [(5, .c (.v (hptr b))), (6, .c (.v (hptr rb))), (27, .c (.v (.slice A ops.length c))), (28, .c (.v (.int .i64 (ops.length : Int)))), (29, .c (.v (.int .i64 (i.2.2.2 : Int))))]) (fun _ => []) (fun i => [i.2.1, i.2.2.1, oldF w0])
    (fun i => rdrF b i.1 i.2.1 ∧ rrdrF rb i.1 i.2.2.1 ∧ i.1.1.length ≤ 8192 ∧ i.2.2.2 ≤ ops.length) (fun i => ops.length - i.2.2.2) (([], 0), f1', f2', 0) ⟨hr1, hr2, Nat.zero_le _, Nat.zero_le _⟩ (Ent.same ⟨rfl, rfl, rfl, rfl, rfl, trivial⟩ rfl) g ?_
  clear hr1 hr2
  rintro ⟨s, f1, f2, i⟩ ⟨hf1, hf2, hsl, hi⟩
  simp only at hf1 hf2 hsl hi
  refine BIf.dec (fun h0 => ?go) (fun h0 => ?stop)
  case stop =>
    intro β w' hs
    exact ⟨rfl, hs.chg⟩
  have hi' : i < ops.length := by have h0 : (i : Int) < ops.length := h0; omega
  obtain ⟨ad, hA1⟩ : ∃ ad, A = some ad := by obtain ⟨ad, q, _⟩ := hA.2 (by omega); exact ⟨ad, q⟩
  refine ⟨ad, i, hA1, rfl, hi', ops[i].cells, rfl, fun β w1 hs => Rd.elem (f := OpR.cells) (fun _ => rfl) (hA.old (hs.get 2 rfl)) hA1 hi', ?_⟩
  refine BIf.dec (fun h1 => ?late) (fun h1 => ?now)
  case late =>
    intro β w' hs
    exact ⟨rfl, hs.chg⟩
  obtain ⟨o, ho⟩ : ∃ o, ops[i] = o := ⟨_, rfl⟩
  rw [ho]
  refine ⟨by decide, ((o.d.toNat % 6 : Nat) : Int), Int.ofNat_tmod _ _, ?_⟩
  obtain ⟨q, hq⟩ : ∃ q, o.d.toNat % 6 = q := ⟨_, rfl⟩
  rw [hq]
  refine BIf.dec (fun h3 => ?c3) (fun h3 => ?n3)
  case' c3 => refine BIf.dec (fun _ => ?d3) (fun h => absurd h3 h)
  case' n3 => refine BIf.dec (fun h4 => ?d4) (fun h4 => ?n4)
  case' c3 | d4 =>
    refine call_con [0] (hown := ⟨hf1.own, trivial⟩) (fun β w hs => nextO_c w b s f1 hf1 (hs.mem.take (js := [0]) rfl) hsl) ?_
    rintro v Fs ⟨A1, c1, f1', rfl, q1, q2, hf1', rfl⟩
    refine call_con [2] (hown := ⟨hf2.own, trivial⟩) (fun β w hs => rnextO_c w rb s f2 hf2 (hs.mem.take (js := [2]) rfl) hsl) ?_
    rintro v Fs ⟨A2, c2, f2', rfl, q3, q4, hf2', rfl⟩
    rw [← nextO_eq hbb] at q3 ⊢
    rw [← afterO_eq hbb] at hf2'
    obtain ⟨k, body, e, hx⟩ : ∃ k body e, nextO b s = (k, body, e) := ⟨_, _, _, rfl⟩
    have hsl' := Nat.le_trans (after_len b s) hsl
    generalize afterO b s = s' at *
    simp only [hx] at q1 q3 ⊢
    refine call_puS (v := .bool true) (fun β w hs => ?_) [] [f1', f2', oldF w0] (fun β w hs => ?_) ?_
    · have h := pu_of (rsame_c w k k A1 A2 body body c1 c2 (row_rd (hs.get 2 rfl)) (row_rd (hs.get 0 rfl)))
      rw [decide_eq_true ⟨rfl, rfl⟩] at h
      exact h
    · exact (hs.perm [3, 1, 4]).keepB (List.nil_sublist _)
    refine BIf.not (BIf.dec (fun _ => ?_) (fun h => absurd rfl h))
  case' n4 =>
    refine BIf.dec (fun h5 => ?t5) (fun h5 => ?f5)
    case' t5 =>
      refine ⟨by decide, ((o.n.toNat % 4 : Nat) : Int), Int.ofNat_tmod _ _, ?_⟩
      obtain ⟨m, hm⟩ : ∃ m, o.n.toNat % 4 = m := ⟨_, rfl⟩
      rw [hm]
      refine ⟨(m : Int), by rw [wrap_i64] <;> omega, ?_⟩
      refine call_con [0] (hown := ⟨hf1.own, trivial⟩) (fun β w hs => take_c w b s f1 m (by omega) hf1 (hs.mem.take (js := [0]) rfl) hsl) ?_
      rintro v Fs ⟨A1, c1, fs, f1', rfl, hadk, hfs, hok, hf1', rfl⟩
      refine loop_rule (ι := RS × Fact × Nat) 0 (fun j => [(5, .c (.v (hptr b))), (6, .c (.v (hptr rb))), (14, .c (.v (.slice A1 fs.length c1))), (83, .c (.v (.int .i64 (m : Int)))), (84, .c (.v (.int .i64 (j.2.2 : Int)))), (27, .c (.v (.slice A ops.length c))), (28, .c (.v (.int .i64 (ops.length : Int)))), (29, .c (.v (.int .i64 (i : Int))))]) (fun _ => []) (fun i => [f1', i.2.1, oldF w0, frsF A1 c1 fs, bodF fs])
        (fun i => rrdrF rb i.1 i.2.1 ∧ i.1.1.length ≤ 8192 ∧ i.2.2 ≤ m ∧ i.2.2 ≤ fs.length ∧ (fs.map Fe.fr).drop i.2.2 = (takeF b (m - i.2.2) i.1).1 ∧ (takeF b m s).2 = (takeF b (m - i.2.2) i.1).2) (fun i => m - i.2.2)
        (s, f2, 0) ⟨hf2, hsl, Nat.zero_le _, Nat.zero_le _, by rw [List.drop_zero]; exact hfs, rfl⟩ (Ent.mk' ⟨rfl, rfl, rfl, rfl, rfl, rfl, rfl, rfl, trivial⟩ rfl (fun β w hs => ((hs.perm [2, 3, 4, 0, 1]).keepB (List.nil_sublist _)).lower)) g ?_
      rintro ⟨sk, fk, k⟩ ⟨hfk, hslk, hkm, hkf, hdr, hst⟩
      simp only at hfk hslk hkm hkf hdr hst
      refine BIf.dec (fun hk => ?k1) (fun hk => ?k2)
      case' k2 =>
        obtain rfl : k = m := by have hk : ¬ (k : Int) < m := hk; omega
        rw [Nat.sub_self] at hst
        have hsl' := hslk
        have hf2' := hfk
        obtain ⟨f2', hf2e⟩ : ∃ f2', f2' = fk := ⟨_, rfl⟩
        obtain ⟨s', hs'⟩ : ∃ s', s' = sk := ⟨_, rfl⟩
        rw [show (takeF b 0 sk).2 = s' from hs'.symm] at hst
        rw [← hs'] at hf2' hsl'
        rw [← hf2e] at hf2'
        rw [hst] at hf1'
        rw [← hf2e]
        clear hfk hslk hs' hf2e
      case' k1 =>
        have hkm' : k < m := by have hk : (k : Int) < m := hk; omega
        obtain ⟨m', hm'⟩ : ∃ m', m - k = m' + 1 := ⟨m - k - 1, by omega⟩
        rw [hm'] at hdr hst
        refine call_conS [1] (hown := ⟨hfk.own, trivial⟩) (fun β w hs => rnextO_c w rb sk fk hfk (hs.mem.take (js := [1]) rfl) hslk) ?_
        rintro v Fs ⟨A2, c2, f2', rfl, q3, q4, hf2', rfl⟩
        refine ⟨[], [f1', f2', oldF w0, browF ty_uint8 A2 (nextO rb sk).2.1 c2, frsF A1 c1 fs, bodF fs], fun β w hs => hs.perm [2, 1, 3, 0, 4, 5], ?_⟩
        rw [← nextO_eq hbb]
        rw [← nextO_eq hbb] at q3
        rw [← afterO_eq hbb] at hf2'
        obtain ⟨kk, body, e, hx⟩ : ∃ kk body e, nextO b sk = (kk, body, e) := ⟨_, _, _, rfl⟩
        have hsl' := Nat.le_trans (after_len b sk) hslk
        simp only [takeF, hx] at hdr hst
        simp only [hx] at q3 ⊢
        refine BIf.not (BIf.dec (fun he => ?ok) (fun he => ?bad))
        case' bad =>
          rw [if_neg he] at hdr hst
          have hlen : fs.length = k := by
            have := congrArg List.length hdr
            simp at this
            omega
          refine BIf.not (BIf.dec (fun _ => ?_) (fun h => absurd (by rw [hlen]) h))
          obtain ⟨s', hs'⟩ : ∃ s', s' = afterO b sk := ⟨_, rfl⟩
          rw [hst] at hf1'
          rw [← hs'] at hf1' hf2' hsl'
          clear hs'
        case' ok =>
          rw [if_pos he] at hdr hst
          have hkl : k < fs.length := by
            have := congrArg List.length hdr
            simp at this
            omega
          obtain ⟨ad1, hA2⟩ := hadk (by omega)
          have hfk' : fs[k].fr = (kk, body) := by
            have h1 : ((fs.map Fe.fr).drop k)[0]? = some (kk, body) := by rw [hdr]; rfl
            rw [List.getElem?_drop, List.getElem?_map, Nat.add_zero, List.getElem?_eq_getElem hkl] at h1
            exact Option.some.inj h1
          obtain ⟨x, hx'⟩ : ∃ x, fs[k] = x := ⟨_, rfl⟩
          refine draw_rule g p_ostiarylaw06_FrameReads_31 (by kernel_rfl) _ _ Sub.refl ?_
          refine BIf.dec (fun h => absurd h (by omega)) (fun _ => ?_)
          refine ⟨ad1, k, hA2, rfl, hkl, fs[k].cells, rfl, fun β w hs => Rd.elem (f := Fe.cells) (fun _ => rfl) (row_rd (hs.get 4 rfl)) hA2 hkl, ?_⟩
          rw [hx'] at hfk' ⊢
          obtain ⟨xk, xl, xA, xc⟩ := x
          obtain ⟨rfl, rfl⟩ : xk = kk ∧ xl = body := by simpa [Fe.fr] using hfk'
          refine call_pu (v := .bool true) (fun β w hs => ?_) ?_
          · have hb : Bs w xA xl := row_rd ((hs.get 5 rfl : (bodF fs).p w).1 (Fe.F ⟨xk, xl, xA, xc⟩) (List.mem_map.2 ⟨_, by rw [← hx']; exact List.getElem_mem _, rfl⟩))
            have h := pu_of (rsame_c w xk xk xA A2 xl xl xc c2 hb (row_rd (hs.get 3 rfl)))
            rw [decide_eq_true ⟨rfl, rfl⟩] at h
            exact h
          refine ⟨Sub.refl, ?_⟩
          refine ⟨((k + 1 : Nat) : Int), by rw [wrap_i64] <;> omega, ?_⟩
          refine ⟨(afterO b sk, f2', k + 1), ⟨hf2', hsl', hkm', hkl, ?_, ?_⟩, by show m - (k + 1) < m - k; omega, Ent.mk' ⟨rfl, rfl, rfl, rfl, rfl, rfl, rfl, rfl, trivial⟩ rfl (fun β w hs => ((hs.perm [0, 1, 2, 4, 5]).keepB (List.nil_sublist _)).lower)⟩
          · show (fs.map Fe.fr).drop (k + 1) = (takeF b (m - (k + 1)) (afterO b sk)).1
            rw [show m - (k + 1) = m' by omega, ← List.drop_drop, hdr]
            rfl
          · show (takeF b m s).2 = (takeF b (m - (k + 1)) (afterO b sk)).2
            rw [show m - (k + 1) = m' by omega, hst]
    case' f5 =>
      refine call_con [] (fun β w hs => con_row (cut_c w o.A o.p o.c 3000 ((hin o (by rw [← ho]; exact List.getElem_mem _)).1.old (hs.get 2 rfl)) (hin o (by rw [← ho]; exact List.getElem_mem _)).2 (by decide))) ?_
      rintro v Fs ⟨A1, c1, rfl, q1, q2, rfl⟩
      obtain ⟨p, hp⟩ : ∃ p, o.p.take 3000 = p := ⟨_, rfl⟩
      have hpl : p.length ≤ 3000 := by rw [← hp]; simp; omega
      rw [hp] at q1 ⊢
      refine call_con [1] (hown := ⟨hf1.own, trivial⟩) (fun β w hs => feedO_c w b s f1 hf1 A1 p c1 ((hs.mem.take (js := [1, 0]) rfl).rowRd) q1 hsl) ?_
      rintro v Fs ⟨f1', rfl, hf1', rfl⟩
      refine call_con [] (fun β w hs => con_row (copy_c w A1 p c1 (row_rd (hs.get 1 rfl)) (by rw [lim_eq]; omega))) ?_
      rintro v Fs ⟨A2, c2, rfl, q3, q4, rfl⟩
      refine call_con [3] (hown := ⟨hf2.own, trivial⟩) (fun β w hs => rfeedO_c w rb s f2 hf2 A2 p c2 ((hs.mem.take (js := [3, 0]) rfl).rowRd) q3 hsl) ?_
      rintro v Fs ⟨f2', rfl, hf2', rfl⟩
      rw [← feedO_eq hbb]
      rw [← fedO_eq hbb] at hf2'
      refine BIf.not (BIf.dec (fun _ => ?_) (fun h => absurd rfl h))
      obtain ⟨s', hs'⟩ : ∃ s', s' = fedO b s p := ⟨_, rfl⟩
      have hsl' := fed_len b s p hsl
      rw [← hs'] at hf1' hf2' hsl'
      refine call_conS [3] (fun β w hs => flip_c w A1 p c1 (hs.mem.take (js := [3]) rfl) (by rw [lim_eq]; omega)) ?_
      rintro v Fs ⟨l', hl', rfl⟩
      refine ⟨[], [f1', f2', oldF w0], fun β w hs => (hs.perm [3, 1, 4]).keepB (List.nil_sublist _), ?_⟩
      clear hs'
  all_goals
    have fin : ∀ {n : Nat} {H : List Bk} {F : List Fact} {env : Env}, Nat.ble 0 n = true → EntE env [(5, .c (.v (hptr b))), (6, .c (.v (hptr rb))), (27, .c (.v (.slice A ops.length c))), (28, .c (.v (.int .i64 (ops.length : Int)))), (29, .c (.v (.int .i64 ((i + 1 : Nat) : Int))))] →
        ∃ j : RS × Fact × Fact × Nat, (rdrF b j.1 j.2.1 ∧ rrdrF rb j.1 j.2.2.1 ∧ j.1.1.length ≤ 8192 ∧ j.2.2.2 ≤ ops.length) ∧ ops.length - j.2.2.2 < ops.length - i ∧
          Ent (cx_ostiarylaw06_FrameReads w0 None_) n env H (f1' :: f2' :: oldF w0 :: F) 0 [(5, .c (.v (hptr b))), (6, .c (.v (hptr rb))), (27, .c (.v (.slice A ops.length c))), (28, .c (.v (.int .i64 (ops.length : Int)))), (29, .c (.v (.int .i64 (j.2.2.2 : Int))))] [] [j.2.1, j.2.2.1, oldF w0] := by
      intro n H F env _ hE
      exact ⟨(s', f1', f2', i + 1), ⟨hf1', hf2', hsl', hi'⟩, by show ops.length - (i + 1) < ops.length - i; omega, Ent.mk' hE rfl (fun β w hs => ((hs.perm [0, 1, 2]).keepB (List.nil_sublist _)).lower)⟩
    cases rb with
    | none =>
      cases b with
      | some _ => cases hbb
      | none =>
        refine call_pu (fun β w hs => brokenO_c w none s' f1' hf1' (hs.get 0 rfl)) ?_
        refine call_pu (fun β w hs => waitingO_c w none s' f1' hf1' (hs.get 0 rfl)) ?_
        refine ⟨((i + 1 : Nat) : Int), by show IntKind.i64.wrap ((i : Int) + 1) = _; rw [wrap_i64] <;> omega, ?_⟩
        exact fin rfl ⟨rfl, rfl, rfl, rfl, rfl, trivial⟩
    | some rb =>
      cases b with
      | none => cases hbb
      | some b =>
        obtain ⟨Ar, cr, rfl⟩ := hf2'
        refine draw_rule g p_ostiarylaw06_FrameReads_36 (by kernel_rfl) _ _ Sub.refl ?_
        refine ⟨.int .i64 s'.2, fun β w hs => (obj_cell (hs.get 1 rfl : (rrdr rb Ar s'.1 cr s'.2).p w).1).2, ?_⟩
        refine ⟨.slice Ar s'.1.length cr, fun β w hs => (obj_cell (hs.get 1 rfl : (rrdr rb Ar s'.1 cr s'.2).p w).1).1, ?_⟩
        refine call_pu (fun β w hs => brokenO_c w (some b) s' f1' hf1' (hs.get 0 rfl)) ?_
        refine BIf.not (BIf.dec (fun _ => ?_) (fun h => absurd rfl h))
        refine call_pu (fun β w hs => waitingO_c w (some b) s' f1' hf1' (hs.get 0 rfl)) ?_
        refine BIf.not (BIf.dec (fun _ => ?_) (fun h => absurd rfl h))
        refine ⟨((i + 1 : Nat) : Int), by show IntKind.i64.wrap ((i : Int) + 1) = _; rw [wrap_i64] <;> omega, ?_⟩
        exact fin rfl ⟨rfl, rfl, rfl, rfl, rfl, trivial⟩
end Go.Proofs.Ytlbnmjjbjjmifaa.Sx
