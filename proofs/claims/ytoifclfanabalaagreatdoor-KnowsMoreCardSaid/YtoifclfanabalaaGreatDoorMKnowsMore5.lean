/- Texts joined: Rk2, B6U, Rk3, Han, Rf6, Kr1, Kr2, Kr3, SxIter, KyJ, CoJ, Kr4, CutN, Rk4, Kr5, Rk5, StrS, Rk6, Rk7, Kr6, Kr7, Kr8, Kr9, Ks1, TrR, Ks2, KsL, Tl11, Ks3, Ks4, Ks5, SxClr, Ks6, Ks7. -/
import Derived.Test.YtoifclfanabalaaGreatDoorMKnowsMore4
import Derived.Test.YtoifclfanabalaaGreatDoorMKnowsMore3
import Derived.Test.YtoifclfanabalaaGreatDoorMKnowsMore2
import Derived.Maps.RangeRun
set_option linter.unusedVariables false
set_option linter.unusedSimpArgs false
namespace Go.Proofs.YtoifclfanabalaaGreatDoor.Sx
open Go
attribute [local irreducible] Calls
def cutP (url : Bool) (s : List UInt8) : List UInt8 := match url with
  | true => s
  | false => unpad s
def decX (url : Bool) (s : List UInt8) : Option (List UInt8) := match url with
  | true => decU s
  | false => decP s
theorem shr5 {X m : Nat} (hm : m ≤ 5) : ((X : Int)).fdiv (2 ^ min (5 - (m : Int)).toNat IntKind.i64.bits) = ((X / 2 ^ (5 - m) : Nat) : Int) := by
  rw [show (5 - (m : Int)).toNat = 5 - m by omega, show min (5 - m) IntKind.i64.bits = 5 - m from Nat.min_eq_left (by show _ ≤ 64; omega), show ((2 : Int) ^ (5 - m)) = ((2 ^ (5 - m) : Nat) : Int) by simp]
  rw [Int.fdiv_eq_ediv_of_nonneg _ (Int.natCast_nonneg _)]
  rfl
theorem rbits_at {v m : Nat} (hm : m ≤ 5) : (rbits v)[m]? = some (u8n (v / 2 ^ (5 - m) % 2)) := by
  match m, hm with
  | 0, _ => rfl
  | 1, _ => rfl
  | 2, _ => rfl
  | 3, _ => rfl
  | 4, _ => rfl
  | 5, _ => show some (u8n (v % 2)) = some (u8n (v / 1 % 2)); rw [Nat.div_one]
theorem chop_short : ∀ {l : List UInt8}, l.length < 8 → chop l = ([], l)
  | [], _ => rfl
  | [_], _ => rfl
  | [_, _], _ => rfl
  | [_, _, _], _ => rfl
  | [_, _, _, _], _ => rfl
  | [_, _, _, _, _], _ => rfl
  | [_, _, _, _, _, _], _ => rfl
  | [_, _, _, _, _, _, _], _ => rfl
  | _ :: _ :: _ :: _ :: _ :: _ :: _ :: _ :: _, h => absurd h (by simp only [List.length_cons]; omega)
theorem chop_long {l : List UInt8} (h : 8 ≤ l.length) : chop l = (fold8 (l.take 8) :: (chop (l.drop 8)).1, (chop (l.drop 8)).2) := by
  have := chop8 (l.take 8) (by rw [List.length_take]; omega) (l.drop 8)
  rwa [List.take_append_drop] at this
theorem cutA_zero' {A : Option Addr} {c s : Nat} : cutA A c 0 s = A := by
  cases A <;> simp [cutA, Addr.add]
theorem fold8_snoc (l : List UInt8) (x : UInt8) : fold8 (l ++ [x]) = fold8 l * 2 + x := by simp [fold8]
theorem tri_share {ι : Type} {cx : Cx} {c : Code} {Q : Exit → KT} {G : Prop} (T : ι → Prop) (n' : Nat) (E : ι → Env) (HH : ι → List Bk) (FF : ι → List Fact) (body : (∀ i, T i → Tri cx c Q n' (E i) (HH i) (FF i)) → G) (hk : ∀ i, T i → Tri cx c Q n' (E i) (HH i) (FF i)) : G := body hk
def DecT (url : Bool) (s : List UInt8) (n : Nat) : Prop := n = (cutP url s).length ∧ n ≤ s.length ∧ s.take n = cutP url s ∧ (url = false → s.length % 4 = 0) ∧ (url = true → s.length % 4 ≠ 1)
def decE (url : Bool) (s : List UInt8) (n : Nat) : Env := [(0, .c (.v (.string (mkS s)))), (1, .c (.v (.bool url))), (6, .c (.v (.int .i64 (n : Int))))]
theorem decT_url (s : List UInt8) (h : s.length % 4 ≠ 1) : DecT true s s.length := ⟨rfl, Nat.le_refl _, List.take_length, (fun q => by cases q), fun _ => h⟩
theorem last_at {s : List UInt8} {k : Nat} {b : UInt8} (hk : k + 1 = s.length) (hb : s[k]? = some b) : s.getLast? = some b := by
  rw [List.getLast?_eq_getElem?, ← hk]
  exact hb
theorem decT_0 {s : List UInt8} (h : s.length % 4 = 0) (hno : s.getLast? ≠ some 61) : DecT false s s.length := by
  have e : unpad s = s := by unfold unpad; rw [if_neg hno]
  exact ⟨by show _ = (unpad s).length; rw [e], Nat.le_refl _, by show _ = unpad s; rw [e, List.take_length], fun _ => h, (fun q => by cases q)⟩
theorem decT_1 {s : List UInt8} (h : s.length % 4 = 0) (h1 : s.getLast? = some 61) (hno : s.dropLast.getLast? ≠ some 61) : DecT false s (s.length - 1) := by
  have e : unpad s = s.dropLast := by unfold unpad; rw [if_pos h1, if_neg hno]
  exact ⟨by show _ = (unpad s).length; rw [e, List.length_dropLast], Nat.sub_le _ _, by show _ = unpad s; rw [e, List.dropLast_eq_take], fun _ => h, (fun q => by cases q)⟩
theorem decT_2 {s : List UInt8} (h : s.length % 4 = 0) (h1 : s.getLast? = some 61) (h2 : s.dropLast.getLast? = some 61) : DecT false s (s.length - 1 - 1) := by
  have e : unpad s = s.dropLast.dropLast := by unfold unpad; rw [if_pos h1, if_pos h2]
  refine ⟨by show _ = (unpad s).length; rw [e, List.length_dropLast, List.length_dropLast], by omega, ?_, fun _ => h, (fun q => by cases q)⟩
  show _ = unpad s
  rw [e, List.dropLast_eq_take, List.dropLast_eq_take, List.take_take, List.length_take]
  congr 1
  omega
theorem rDecode_c (w : World) (s : List UInt8) (url : Bool) (hL : s.length ≤ 1000000) : Con Tryz.prog n_ostiaryref03_Decode #[.string (mkS s), .bool url] w [] (decOutP (decX url s)) := by
  have g := good_ostiaryref03_Decode w (Un [])
  refine con_of_tri (cx := cx_ostiaryref03_Decode w (Un [])) g b_ostiaryref03_Decode rfl rfl (β := Va.z) [.c (.v (.string (mkS s))), .c (.v (.bool url))] 0 [] [] rfl rfl (Sat.start rfl) ?_
  have hml := maxLen_eq
  have hsz := mkS_sz s
  apply tri_share (cx := cx_ostiaryref03_Decode w (Un [])) (DecT url s) 0 (decE url s) (fun _ => []) (fun _ => [])
  · intro hkey
    refine tri_seq g ?_
    refine tri_seq g ?_
    refine BIf.mk (fun hu : (!url) = true => ?_) (fun hu => ?_)
    · have hu0 : url = false := by simpa using hu
      refine ⟨by first | decide | omega, ?_⟩
      refine ⟨(((mkS s).size % 4 : Nat) : Int), Int.ofNat_tmod _ _, ?_⟩
      refine BIf.not (BIf.dec (fun h4 => ?_) (fun h4 => ?_))
      · have h40 : (((mkS s).size % 4 : Nat) : Int) = 0 := h4
        refine BIf.no hu0 ?_
        refine tri_seq g ?_
        refine tri_seq g ?_
        refine BIf.yes hu ?_
        refine BIf.dec (fun h0 => ?_) (fun h0 => ?_)
        · have h00 : (0 : Int) < ((mkS s).size : Int) := h0
          obtain ⟨b, hb, -⟩ := at_lt (show s.length - 1 < s.length by omega)
          have hla := last_at (k := s.length - 1) (by omega) hb
          refine ⟨((((mkS s).size - 1) : Nat) : Int), by rw [wrap_i64 (by omega) (by omega)]; omega, ?_⟩
          refine ⟨(mkS s).size - 1, b, rfl, by rw [hsz]; exact hb, ?_⟩
          have hs4 : s.length % 4 = 0 := by omega
          refine BIf.dec (fun hb1 => ?_) (fun hb1 => ?_)
          · obtain rfl : b = 61 := UInt8.toNat_inj.1 (Int.ofNat_inj.1 hb1)
            obtain ⟨b2, hb2, -⟩ := at_lt (show s.length - 2 < s.length by omega)
            have hla2 : s.dropLast.getLast? = some b2 := last_at (k := s.length - 2) (by rw [List.length_dropLast]; omega) (by rw [List.getElem?_dropLast, if_pos (by omega)]; exact hb2)
            refine ⟨((((mkS s).size - 1) : Nat) : Int), by rw [wrap_i64 (by omega) (by omega)]; omega, ?_⟩
            refine ⟨((((mkS s).size - 2) : Nat) : Int), by rw [wrap_i64 (by omega) (by omega)]; omega, ?_⟩
            refine ⟨(mkS s).size - 2, b2, rfl, by rw [hsz]; exact hb2, ?_⟩
            refine BIf.dec (fun hb3 => ?_) (fun hb3 => ?_)
            · obtain rfl : b2 = 61 := UInt8.toNat_inj.1 (Int.ofNat_inj.1 hb3)
              refine ⟨((((s.length - 1 - 1) : Nat)) : Int), by rw [wrap_i64 (by omega) (by omega)]; omega, ?_⟩
              refine tri_join (ι := Nat) (DecT url s) 0 (decE url s) (fun _ => []) (fun _ => []) hkey (EntX.of (s.length - 1 - 1) (by rw [hu0]; exact decT_2 hs4 hla hla2) (Ent.mk' ⟨rfl, rfl, rfl, trivial⟩ rfl (fun β w' hs => hs)))
            · have hb30 : b2 ≠ 61 := fun q => hb3 (by rw [q]; rfl)
              rw [hsz]
              refine tri_join (ι := Nat) (DecT url s) 0 (decE url s) (fun _ => []) (fun _ => []) hkey (EntX.of (s.length - 1) (by rw [hu0]; exact decT_1 hs4 hla (by rw [hla2]; intro q; cases q; exact hb30 rfl)) (Ent.mk' ⟨rfl, rfl, rfl, trivial⟩ rfl (fun β w' hs => hs)))
          · have hb10 : b ≠ 61 := fun q => hb1 (by rw [q]; rfl)
            refine tri_join (ι := Nat) (DecT url s) 0 (decE url s) (fun _ => []) (fun _ => []) hkey (EntX.of (s.length) (by rw [hu0]; exact decT_0 hs4 (by rw [hla]; intro q; cases q; exact hb10 rfl)) (Ent.mk' ⟨rfl, rfl, rfl, trivial⟩ rfl (fun β w' hs => hs)))
        · have h00 : ¬ (0 : Int) < ((mkS s).size : Int) := h0
          have hs0 : s = [] := List.length_eq_zero_iff.1 (by omega)
          refine tri_join (ι := Nat) (DecT url s) 0 (decE url s) (fun _ => []) (fun _ => []) hkey (EntX.of s.length (by rw [hu0]; exact decT_0 (by omega) (by rw [hs0]; decide)) (Ent.mk' ⟨rfl, rfl, rfl, trivial⟩ rfl (fun β w' hs => hs)))
      · have h40 : ¬ (((mkS s).size % 4 : Nat) : Int) = 0 := h4
        intro β w' hs
        refine (hs.nilRow ty_uint8 1).fin [0] ⟨none, [], 0, 2, rfl, .inr ⟨by decide, ?_⟩, Nat.le_refl _, rfl⟩
        rw [hu0]
        show decP s = none
        unfold decP
        rw [if_pos (by omega)]
    · have hu0 : url = true := by simpa using hu
      refine BIf.mk (fun hu2 => ?_) (fun hu2 => absurd (hu2.symm.trans hu0) (by decide))
      refine ⟨by first | decide | omega, ?_⟩
      refine ⟨(((mkS s).size % 4 : Nat) : Int), Int.ofNat_tmod _ _, ?_⟩
      refine BIf.dec (fun h1 => ?_) (fun h1 => ?_)
      · have h10 : (((mkS s).size % 4 : Nat) : Int) = 1 := h1
        intro β w' hs
        refine (hs.nilRow ty_uint8 1).fin [0] ⟨none, [], 0, 2, rfl, .inr ⟨by decide, ?_⟩, Nat.le_refl _, rfl⟩
        rw [hu0]
        show decU s = none
        unfold decU
        rw [if_pos (by omega)]
      · have h10 : ¬ (((mkS s).size % 4 : Nat) : Int) = 1 := h1
        refine tri_seq g ?_
        refine tri_seq g ?_
        refine BIf.no hu ?_
        refine tri_join (ι := Nat) (DecT url s) 0 (decE url s) (fun _ => []) (fun _ => []) hkey (EntX.of s.length (by rw [hu0]; exact decT_url s (by omega)) (Ent.mk' ⟨rfl, rfl, rfl, trivial⟩ rfl (fun β w' hs => hs)))
  · rintro n ⟨hn1, hn2, hn3, hn4, hn5⟩
    refine tri_of g ?_
    refine ⟨by first | decide | omega, ?_⟩
    refine ⟨((n % 4 : Nat) : Int), Int.ofNat_tmod _ _, ?_⟩
    refine BIf.dec (fun h1 => ?_) (fun h1 => ?_)
    · have h10 : ((n % 4 : Nat) : Int) = 1 := h1
      intro β w' hs
      refine (hs.nilRow ty_uint8 1).fin [0] ⟨none, [], 0, 5, rfl, .inr ⟨by decide, ?_⟩, Nat.le_refl _, rfl⟩
      cases url with
      | true =>
        have h2 := hn5 rfl
        have h3 : n = s.length := hn1
        omega
      | false =>
        have h3 : n = (unpad s).length := hn1
        show decP s = none
        unfold decP
        rw [if_neg (by have := hn4 rfl; omega), if_pos (by omega)]
    · have h10 : ¬ ((n % 4 : Nat) : Int) = 1 := h1
      have hdx : decX url s = decS url (cutP url s) := by
        cases url with
        | true =>
          show decU s = _
          unfold decU
          rw [if_neg (hn5 rfl)]
          rfl
        | false =>
          have h3 : n = (unpad s).length := hn1
          show decP s = _
          unfold decP
          rw [if_neg (by have := hn4 rfl; omega), if_neg (by omega)]
          rfl
      rw [hdx, ← hn3]
      obtain ⟨U, hU⟩ : ∃ U, s.take n = U := ⟨_, rfl⟩
      have hUl : U.length = n := by rw [← hU, List.length_take]; omega
      have hUat : ∀ i, i < n → s[i]? = U[i]? := fun i hi => by rw [← hU, List.getElem?_take, if_pos hi]
      rw [hU]
      refine loop_rule (ι := Nat × Option Addr × Nat × List Nat) 0 (fun j => [(0, .c (.v (.string (mkS s)))), (1, .c (.v (.bool url))), (6, .c (.v (.int .i64 (n : Int)))), (7, .c (.v (.slice j.2.1 (j.2.2.2.flatMap rbits).length j.2.2.1))), (8, .c (.v (.int .i64 (j.1 : Int))))]) (fun _ => []) (fun j => [browF ty_uint8 j.2.1 (j.2.2.2.flatMap rbits) j.2.2.1])
        (fun j => j.1 ≤ n ∧ valsA url (U.take j.1) = some j.2.2.2) (fun j => n - j.1) (0, none, 0, []) ⟨Nat.zero_le _, rfl⟩ (Ent.mk' ⟨rfl, rfl, rfl, rfl, rfl, trivial⟩ rfl (fun β w' hs => hs.nilRow ty_uint8 1)) g ?_
      rintro ⟨i, A, c, vs⟩ ⟨hi, hvs⟩
      simp only at hi hvs
      have hvl := valsA_len hvs
      have hvl1 : vs.length = i := by rw [hvl.1, List.length_take]; omega
      have hbl : (vs.flatMap rbits).length = 6 * i := by
        rw [← hvl1]
        clear hvl hvl1 hvs
        induction vs with
        | nil => rfl
        | cons a r ih => rw [List.flatMap_cons, List.length_append, ih, List.length_cons]; simp [rbits]; omega
      refine BIf.dec (fun hlt => ?_) (fun hge => ?_)
      · have hlt0 : (i : Int) < (n : Int) := hlt
        obtain ⟨y, hy, hyU⟩ := at_lt (show i < U.length by omega)
        refine ⟨i, y, rfl, by show s[i]? = _; rw [hUat i (by omega)]; exact hy, ?_⟩
        refine call_pu (fun β w' hs => number3_c w' y url) ?_
        cases hv : valA url y with
        | none =>
          have hvv : valV url y = -1 := by unfold valV; rw [hv]
          rw [hvv]
          intro β w' hs
          refine (hs.nilRow ty_uint8 1).fin [0] ⟨none, [], 0, 5, rfl, .inr ⟨by decide, ?_⟩, Nat.le_refl _, rfl⟩
          unfold decS
          rw [valsA_none hv hyU]
          rfl
        | some v =>
          have hvv : valV url y = (v : Int) := by unfold valV; rw [hv]
          have hv64 := valA_lt hv
          rw [hvv]
          have hrl : (rbits v).length = 6 := rfl
          refine loop_rule (ι := Option Addr × Nat × Nat) 0 (fun j => [(0, .c (.v (.string (mkS s)))), (1, .c (.v (.bool url))), (6, .c (.v (.int .i64 (n : Int)))), (7, .c (.v (.slice j.1 (vs.flatMap rbits ++ (rbits v).take j.2.2).length j.2.1))), (8, .c (.v (.int .i64 (i : Int)))), (9, .c (.v (.int .i64 (v : Int)))), (10, .c (.v (.int .i64 (5 - (j.2.2 : Int)))))]) (fun _ => []) (fun j => [browF ty_uint8 j.1 (vs.flatMap rbits ++ (rbits v).take j.2.2) j.2.1])
            (fun j => j.2.2 ≤ 6) (fun j => 6 - j.2.2) (A, c, 0) (Nat.zero_le _) (Ent.mk' ⟨rfl, rfl, rfl, by simp only [List.take_zero, List.append_nil]; rfl, rfl, rfl, rfl, trivial⟩ rfl (fun β w' hs => by simp only [List.take_zero, List.append_nil]; exact hs)) g ?_
          rintro ⟨A1, c1, m⟩ hm
          simp only at hm
          refine BIf.dec (fun hlt2 => ?_) (fun hge2 => ?_)
          · have hlt20 : (5 - (m : Int)) ≥ 0 := hlt2
            refine ⟨by first | decide | omega, ?_⟩
            refine ⟨((v / 2 ^ (5 - m) : Nat) : Int), shr5 (by omega), ?_⟩
            have hvd : v / 2 ^ (5 - m) < 64 := Nat.lt_of_le_of_lt (Nat.div_le_self _ _) hv64
            refine ⟨((v / 2 ^ (5 - m) % 2 : Nat) : Int), and_i64 (k := 1) (by omega) (by decide), ?_⟩
            refine ⟨((u8n (v / 2 ^ (5 - m) % 2)).toNat : Int), wrap_u8n _, ?_⟩
            intro b1
            obtain ⟨B, hB⟩ : ∃ B, B = vs.flatMap rbits ++ (rbits v).take m := ⟨_, rfl⟩
            have hBn : vs.flatMap rbits ++ (rbits v).take (m + 1) = B ++ [u8n (v / 2 ^ (5 - m) % 2)] := by
              rw [hB, List.take_add_one, rbits_at (by omega), List.append_assoc]
              rfl
            have hBl : B.length = 6 * i + m := by rw [hB, List.length_append, hbl, List.length_take, hrl]; omega
            rw [← hB]
            obtain ⟨B2, hB2⟩ : ∃ B2, B2 = B ++ [u8n (v / 2 ^ (5 - m) % 2)] := ⟨_, rfl⟩
            have hB2l : B.length + 1 = B2.length := by rw [hB2, List.length_append]; rfl
            rw [← hB2] at hBn
            refine ⟨1, B.length, B2.length, B.map byte, [u8n (v / 2 ^ (5 - m) % 2)].map byte, B2.map byte, rfl, fun β w' hs => row_rd (hs.get 0 rfl), bytes_one _, hB2l, by rw [hB2, List.map_append], by rw [hml]; omega, by show B2.length * 1 ≤ _; omega, ?_⟩
            intro A2 c2 r1 r2 r3
            refine ⟨_, wrap_i64 (by omega) (by omega), ?_⟩
            have e5 : (5 - (m : Int) - 1) = 5 - ((m + 1 : Nat) : Int) := by omega
            refine ⟨(A2, c2, m + 1), by show m + 1 ≤ 6; omega, by show 6 - (m + 1) < 6 - m; omega, ?_⟩
            simp only [hBn]
            exact Ent.mk' ⟨rfl, rfl, rfl, rfl, rfl, rfl, by rw [← e5]; rfl, trivial⟩ rfl (fun β w' hs => hs.perm [1])
          · have hge20 : ¬ (5 - (m : Int)) ≥ 0 := hge2
            obtain rfl : m = 6 := by omega
            refine ⟨(((i + 1) : Nat) : Int), by rw [wrap_i64 (by omega) (by omega)]; rfl, ?_⟩
            have hnx : (vs ++ [v]).flatMap rbits = vs.flatMap rbits ++ (rbits v).take 6 := by rw [List.flatMap_append, List.take_of_length_le (Nat.le_of_eq hrl)]; simp
            refine ⟨(i + 1, A1, c1, vs ++ [v]), ⟨by show i + 1 ≤ n; omega, ?_⟩, by show n - (i + 1) < n - i; omega, ?_⟩
            · show valsA url (U.take (i + 1)) = some (vs ++ [v])
              rw [List.take_add_one, hy, valsA_app, hvs]
              show (match (some vs), (valsA url [y]) with | some x, some y => some (x ++ y) | _, _ => none) = _
              have : valsA url [y] = some [v] := by unfold valsA; rw [hv]; rfl
              rw [this]
            · simp only [hnx]
              exact Ent.mk' ⟨rfl, rfl, rfl, rfl, rfl, trivial⟩ rfl (fun β w' hs => hs)
      · have hge0 : ¬ (i : Int) < (n : Int) := hge
        obtain rfl : i = n := by omega
        rw [List.take_of_length_le (by omega)] at hvs
        have hdS : decS url U = refG vs := by
          unfold decS
          rw [hvs]
          exact (ref_dec vs (fun v hv => hvl.2 v hv) (by omega)).symm
        rw [hdS]
        obtain ⟨bits, hbits⟩ : ∃ bits, vs.flatMap rbits = bits := ⟨_, rfl⟩
        have hrG : refG vs = if (chop bits).2.all (fun x => decide (x = 0)) then some (chop bits).1 else none := by unfold refG; rw [hbits]
        rw [hrG]
        rw [hbits] at hbl ⊢
        refine tri_know (p := bits.length ≤ c ∧ (0 < bits.length → ∃ ad, A = some ad)) (fun β w' hs => ⟨brow_cap (hs.get 0 rfl), fun h => Bs.addr (show Bs w' A bits from row_rd (hs.get 0 rfl)) h⟩) ?_
        rintro ⟨hcap, hadr⟩
        refine loop_rule (ι := (Option Addr × Nat × List UInt8) × (Option Addr × Nat × List UInt8)) 0 (fun j => [(7, .c (.v (.slice j.2.1 j.2.2.2.length j.2.2.1))), (11, .c (.v (.slice j.1.1 j.1.2.2.length j.1.2.1)))]) (fun _ => []) (fun j => [browF ty_uint8 j.1.1 j.1.2.2 j.1.2.1, bsF j.2.1 j.2.2.2])
          (fun j => chop bits = (j.1.2.2 ++ (chop j.2.2.2).1, (chop j.2.2.2).2) ∧ j.2.2.2.length ≤ j.2.2.1 ∧ 8 * j.1.2.2.length + j.2.2.2.length = bits.length ∧ (0 < j.2.2.2.length → ∃ ad, j.2.1 = some ad)) (fun j => j.2.2.2.length) ((none, 0, []), (A, c, bits)) ⟨rfl, hcap, by simp, hadr⟩ (Ent.mk' ⟨rfl, rfl, trivial⟩ rfl (fun β w' hs => ((hs.nilRow ty_uint8 1).rdRow 1 rfl).perm [1, 0])) g ?_
        rintro ⟨⟨O, oc, out⟩, ⟨A3, c3, rem⟩⟩ ⟨hch, hcap3, hlen3, hadr3⟩
        simp only at hch hcap3 hlen3 hadr3
        refine BIf.dec (fun hlt => ?_) (fun hge => ?_)
        · have hlt0 : (rem.length : Int) ≥ 8 := hlt
          obtain ⟨ad, hAd⟩ : ∃ ad, A3 = some ad := hadr3 (by omega)
          refine ⟨c3, 8, 0, 8, c3, A3, rfl, rfl, rfl, Nat.le_refl _, by omega, Nat.zero_le _, rfl, rfl, cutA_zero', ?_⟩
          refine loop_rule (ι := Nat × UInt8) 0 (fun j => [(7, .c (.v (.slice A3 rem.length c3))), (11, .c (.v (.slice O out.length oc))), (12, .c (.v (byte j.2))), (89, .c (.v (.slice A3 8 c3))), (90, .c (.v (.int .i64 8))), (91, .c (.v (.int .i64 (j.1 : Int))))]) (fun _ => []) (fun j => [browF ty_uint8 O out oc, bsF A3 rem])
            (fun j => j.1 ≤ 8 ∧ j.2 = fold8 (rem.take j.1)) (fun j => 8 - j.1) (0, 0) ⟨Nat.zero_le _, rfl⟩ (Ent.mk' ⟨rfl, rfl, rfl, rfl, rfl, rfl, trivial⟩ rfl (fun β w' hs => hs)) g ?_
          rintro ⟨i2, b⟩ ⟨hi2, hb⟩
          simp only at hi2 hb
          refine BIf.dec (fun hlt2 => ?_) (fun hge2 => ?_)
          · have hlt20 : (i2 : Int) < 8 := hlt2
            obtain ⟨z, hz, -⟩ := at_lt (show i2 < rem.length by omega)
            refine ⟨ad, i2, hAd, rfl, by omega, ?_⟩
            refine ⟨byte z, fun β w' hs => Rd.cell1 (show Rd 1 (some ad) rem.length (rem.map byte) w' from hAd ▸ hs.get 1 rfl) (by rw [List.getElem?_map, hz]; rfl), ?_⟩
            refine ⟨((b * 2 : UInt8).toNat : Int), by rw [IntKind.wrap_u8, UInt8.toNat_mul]; show ((b.toNat : Int) * 2) % 256 = ((b.toNat * 2 % 256 : Nat) : Int); omega, ?_⟩
            refine ⟨((b * 2 + z : UInt8).toNat : Int), by rw [IntKind.wrap_u8, UInt8.toNat_add]; show (((b * 2 : UInt8).toNat : Int) + (z.toNat : Int)) % 256 = (((b * 2 : UInt8).toNat + z.toNat) % 256 : Nat); omega, ?_⟩
            refine ⟨((i2 + 1 : Nat) : Int), by rw [wrap_i64 (by omega) (by omega)]; rfl, ?_⟩
            exact ⟨(i2 + 1, b * 2 + z), ⟨by show i2 + 1 ≤ 8; omega, by show b * 2 + z = fold8 (rem.take (i2 + 1)); rw [List.take_add_one, hz, hb]; exact (fold8_snoc _ _).symm⟩, by show 8 - (i2 + 1) < 8 - i2; omega, Ent.mk' ⟨rfl, rfl, rfl, rfl, rfl, rfl, trivial⟩ rfl (fun β w' hs => hs)⟩
          · have hge20 : ¬ (i2 : Int) < 8 := hge2
            obtain rfl : i2 = 8 := by omega
            refine draw_rule g p_ostiaryref03_Decode_29 (by kernel_rfl) [] [] (Sub.of (List.Sublist.refl _) (List.nil_sublist _)) ?_
            refine ⟨c3, rem.length, 8, rem.length - 8, c3 - 8, _, rfl, rfl, rfl, Nat.le_refl _, hcap3, by omega, rfl, rfl, rfl, ?_⟩
            intro b3
            refine ⟨subPerm [], ?_⟩
            obtain ⟨out2, hout2⟩ : ∃ out2, out2 = out ++ [b] := ⟨_, rfl⟩
            have hol : out.length + 1 = out2.length := by rw [hout2, List.length_append]; rfl
            refine ⟨1, out.length, out2.length, out.map byte, [b].map byte, out2.map byte, rfl, fun β w' hs => row_rd (hs.get 0 rfl), bytes_one _, hol, by rw [hout2, List.map_append], by rw [hml]; omega, by show out2.length * 1 ≤ _; omega, ?_⟩
            intro O2 oc2 r1 r2 r3
            refine ⟨subPerm [], ?_⟩
            have hrl8 : (rem.drop 8).length = rem.length - 8 := List.length_drop ..
            have hcl := chop_long (l := rem) (by omega)
            refine ⟨((O2, oc2, out2), (cutA A3 c3 8 1, c3 - 8, rem.drop 8)), ⟨?_, by show (rem.drop 8).length ≤ c3 - 8; omega, by show 8 * out2.length + (rem.drop 8).length = _; omega, fun _ => ?_⟩, by show (rem.drop 8).length < rem.length; omega, ?_⟩
            · show chop bits = (out2 ++ (chop (rem.drop 8)).1, (chop (rem.drop 8)).2)
              rw [hch, hcl, hout2, hb, List.append_assoc]
              rfl
            · show ∃ ad, cutA A3 c3 8 1 = some ad
              rw [hAd]
              unfold cutA
              split <;> exact ⟨_, rfl⟩
            · simp only [hrl8]
              exact Ent.mk' ⟨rfl, rfl, trivial⟩ rfl (fun β w' hs => (hs.sub 2 rfl rfl (bsF (cutA A3 c3 8 1) (rem.drop 8)) rfl (by
                have h := Bs.cutB (show Bs _ A3 rem from hs.get 2 rfl) (i := 8) (j := rem.length) hcap3 (by omega) (Nat.le_refl _) (List.take_of_length_le (Nat.le_of_eq hrl8))
                exact h) (fun k hk => cut_D (by omega) hk)).perm [2, 0])
        · have hge0 : ¬ (rem.length : Int) ≥ 8 := hge
          refine loop_rule (ι := Nat) 0 (fun j => [(11, .c (.v (.slice O out.length oc))), (106, .c (.v (.slice A3 rem.length c3))), (107, .c (.v (.int .i64 (rem.length : Int)))), (108, .c (.v (.int .i64 (j : Int))))]) (fun _ => []) (fun j => [browF ty_uint8 O out oc, bsF A3 rem])
            (fun j => j ≤ rem.length ∧ (rem.take j).all (fun x => decide (x = 0)) = true) (fun j => rem.length - j) (0 : Nat) ⟨Nat.zero_le _, rfl⟩ (Ent.mk' ⟨rfl, rfl, rfl, rfl, trivial⟩ rfl (fun β w' hs => hs)) g ?_
          rintro j ⟨hj, hz0⟩
          refine BIf.dec (fun hlt2 => ?_) (fun hge2 => ?_)
          · have hlt20 : (j : Int) < (rem.length : Int) := hlt2
            obtain ⟨ad, hAd⟩ := hadr3 (by omega)
            obtain ⟨z, hz, hzm⟩ := at_lt (show j < rem.length by omega)
            refine ⟨ad, j, hAd, rfl, by omega, ?_⟩
            refine ⟨byte z, fun β w' hs => Rd.cell1 (show Rd 1 (some ad) rem.length (rem.map byte) w' from hAd ▸ hs.get 1 rfl) (by rw [List.getElem?_map, hz]; rfl), ?_⟩
            refine BIf.not (BIf.dec (fun he => ?_) (fun hne => ?_))
            · obtain rfl : z = 0 := UInt8.toNat_inj.1 (Int.ofNat_inj.1 he)
              refine ⟨((j + 1 : Nat) : Int), by rw [wrap_i64 (by omega) (by omega)]; rfl, ?_⟩
              exact ⟨j + 1, ⟨by omega, by rw [List.take_add_one, hz, List.all_append, hz0]; rfl⟩, by omega, Ent.mk' ⟨rfl, rfl, rfl, rfl, trivial⟩ rfl (fun β w' hs => hs)⟩
            · have hz1 : z ≠ 0 := fun q => hne (by rw [q]; rfl)
              intro β w' hs
              refine (hs.nilRow ty_uint8 1).fin [0] ⟨none, [], 0, 4, rfl, .inr ⟨by decide, ?_⟩, Nat.le_refl _, rfl⟩
              rw [hch, chop_short (l := rem) (by omega), if_neg]
              intro q
              exact hz1 (of_decide_eq_true (List.all_eq_true.1 q z hzm))
          · have hge20 : ¬ (j : Int) < (rem.length : Int) := hge2
            rw [List.take_of_length_le (by omega)] at hz0
            intro β w' hs
            refine hs.fin [0] ⟨O, out, oc, 0, rfl, .inl ⟨rfl, ?_⟩, brow_cap (hs.get 0 rfl), rfl⟩
            rw [hch, chop_short (l := rem) (by omega), if_pos hz0, List.append_nil]
theorem digA_lt {c : UInt8} {v : Nat} (h : digA c = some v) : v < 16 := by
  unfold digA at h
  split at h
  · injection h; omega
  · split at h
    · injection h; omega
    · cases h
theorem dig_ix (c : UInt8) : _root_.Go.Lib.indexByte [48, 49, 50, 51, 52, 53, 54, 55, 56, 57, 97, 98, 99, 100, 101, 102] c = match digA c with | some v => (v : Int) | none => -1 := by
  have h : ∀ n : _root_.Fin 256, _root_.Go.Lib.indexByte [48, 49, 50, 51, 52, 53, 54, 55, 56, 57, 97, 98, 99, 100, 101, 102] (UInt8.ofNat n.val) = match digA (UInt8.ofNat n.val) with | some v => (v : Int) | none => -1 := by decide +kernel
  have h1 := h ⟨c.toNat, c.toNat_lt⟩
  simpa using h1
def digV (c : UInt8) : Int := match digA c with | some v => (v : Int) | none => -1
theorem indexD_c (w : World) (c : UInt8) : Pu Tryz.prog n_strings_IndexByte #[.string ⟨#[48, 49, 50, 51, 52, 53, 54, 55, 56, 57, 97, 98, 99, 100, 101, 102]⟩, .int .u8 c.toNat] w (.int .i64 (digV c)) := by
  refine pu_of (Calls.mono (Tryz.strings_IndexByte ⟨#[48, 49, 50, 51, 52, 53, 54, 55, 56, 57, 97, 98, 99, 100, 101, 102]⟩ c.toNat w) ?_)
  rintro e w' ⟨rfl, rfl⟩
  refine ⟨_, rfl, ?_, Chg.refl _ _⟩
  unfold digV
  rw [← dig_ix]
  show Value.int .i64 (_root_.Go.Lib.indexByte _ ((c.toNat : Int).toNat.toUInt8)) = _
  rw [Int.toNat_natCast, show c.toNat.toUInt8 = c from UInt8.ofNat_toNat]
theorem or4_i64 {x y : Nat} (hx : x < 33554432) (hy : y < 16) : bits .or .i64 ((x * 16 : Nat) : Int) (y : Int) = ((x * 16 + y : Nat) : Int) := by
  show IntKind.i64.wrap (((BitVec.ofInt 64 ((x * 16 : Nat) : Int)) ||| (BitVec.ofInt 64 (y : Int))).toNat : Int) = _
  have h1 : (BitVec.ofInt 64 ((x * 16 : Nat) : Int)).toNat = x <<< 4 := by
    rw [BitVec.toNat_ofInt, Nat.shiftLeft_eq]
    omega
  have h2 : (BitVec.ofInt 64 (y : Int)).toNat = y := by
    rw [BitVec.toNat_ofInt]
    omega
  rw [BitVec.toNat_or, h1, h2, ← Nat.shiftLeft_add_eq_or_of_lt (by omega) x, Nat.shiftLeft_eq, wrap_i64 (by omega) (by omega)]
theorem unhexA_app : ∀ (a b : List UInt8), a.length % 2 = 0 → unhexA (a ++ b) = match unhexA a, unhexA b with | some x, some y => some (x ++ y) | _, _ => none
  | [], b, _ => by rw [List.nil_append]; cases h : unhexA b <;> simp [unhexA, h]
  | [_], b, h => by simp at h
  | x :: y :: r, b, h => by
    have h1 := unhexA_app r b (by simp only [List.length_cons] at h; omega)
    simp only [List.cons_append, unhexA, h1]
    cases digA x <;> cases digA y <;> cases unhexA r <;> cases unhexA b <;> simp
theorem unhexA_bad (b c : UInt8) : ∀ (a d : List UInt8), a.length % 2 = 0 → (digA b = none ∨ digA c = none) → unhexA (a ++ b :: c :: d) = none
  | [], d, _, h => by
    simp only [List.nil_append, unhexA]
    rcases h with h | h
    · rw [h]
    · rw [h]; cases digA b <;> rfl
  | [_], d, h, _ => by simp at h
  | x :: y :: r, d, h, hb => by
    have h1 := unhexA_bad b c r d (by simp only [List.length_cons] at h; omega) hb
    simp only [List.cons_append, unhexA, h1]
    cases digA x <;> cases digA y <;> rfl
theorem unhexA_odd : ∀ l : List UInt8, l.length % 2 = 1 → unhexA l = none
  | [], h => by simp at h
  | [_], _ => rfl
  | a :: b :: r, h => by
    simp only [unhexA, unhexA_odd r (by simp only [List.length_cons] at h; omega)]
    cases digA a <;> cases digA b <;> rfl
theorem Unhex_c (w : World) (s0 : List UInt8) (hL : s0.length ≤ 1000000) : Con Tryz.prog n_b64_Unhex #[.string (mkS s0)] w [] (decOutP (unhexA s0)) := by
  have g := good_b64_Unhex w (Un [])
  have hml := maxLen_eq
  have hsz := mkS_sz s0
  refine con_of_sx (cx := cx_b64_Unhex w (Un [])) g b_b64_Unhex rfl rfl (β := Va.z) [.c (.v (.string (mkS s0)))] 0 [] [] rfl rfl (Sat.start rfl) ?_
  refine ⟨by first | decide | omega, ?_⟩
  refine ⟨(((mkS s0).size % 2 : Nat) : Int), Int.ofNat_tmod _ _, ?_⟩
  refine BIf.not (BIf.dec (fun h0 => ?_) (fun h0 => ?_))
  · have h00 : (((mkS s0).size % 2 : Nat) : Int) = 0 := h0
    refine call_con [] (fun β w' hs => groups_c w' (mkS s0) 2) ?_
    rintro v Fs ⟨bs, bk, rfl, rfl⟩
    obtain ⟨L, hLd⟩ : ∃ L, (piecesA 1 s0).map mkS = L := ⟨_, rfl⟩
    have hLL : L.length ≤ 1000000 := by
      have h := pieces_len 1 _ s0 (Nat.le_refl _)
      rw [← hLd, List.length_map]
      omega
    refine range_rule (α := ByteArray) (ι := List UInt8 × Option Addr × Nat) (κ := Unit) g rfl (cv := [.pointer (some ⟨bs, 0, none⟩), .pointer (some ⟨bk, 0, none⟩)]) rfl (by kernel_rfl) 3 (Nat.le_refl 3)
      (fun pre i => pre = L.take pre.length ∧ unhexA (pre.map (·.data.toList)).flatten = some i.1 ∧ i.1.length ≤ pre.length) (fun i => [⟨2, ty_sl_uint8, [.v (.slice i.2.1 i.1.length i.2.2)]⟩, ⟨1, ty_api_Errno, [.v (.int .i64 0)]⟩, ⟨0, ty_sl_uint8, [.v (.slice none 0 0)]⟩]) (fun i => [browF ty_uint8 i.2.1 i.1 i.2.2]) (fun i => ⟨rfl, trivial⟩)
      (fun e pre _ => e = .ret ∧ unhexA s0 = none) (fun _ => [⟨1, ty_api_Errno, [.v (.int .i64 5)]⟩, ⟨0, ty_sl_uint8, [.v (.slice none 0 0)]⟩]) (fun _ => []) (fun _ => trivial)
      [bkF bs ty_string [.string (mkS s0)], bkF bk ty_int [.int .i64 2]] [] [] ⟨rfl, rfl, trivial⟩ (fun g h => by cases h) ([], none, 0) ⟨rfl, rfl, Nat.le_refl _⟩
      (fun β w hs => ⟨β, Agr.refl _ _, (hs.nilRow ty_uint8 1).perm [1, 2, 0]⟩) (insS L)
      (fun xs Fs' => xs = L ∧ Fs' = []) (fun _ Fs' => Fs' = [])
      (fun l w f0 R J Jx hJ0 hJo hRo hY hm => by
        have h := grp_it l w bs bk 1 s0 f0 R J Jx 2 rfl (by decide) (by omega) hJ0 hJo hRo (by rw [hLd]; exact hY) hm
        rw [hLd] at h
        exact h) ?_ ?_ ?_
    · rintro ⟨out, A, c⟩ pre x args X W S' lb bs' pn pn' hbs ⟨hpre, hun, hlen⟩ ⟨rfl, rfl, hx⟩
      obtain ⟨cs, hcs, rfl⟩ : ∃ cs, (piecesA 1 s0)[pre.length]? = some cs ∧ x = mkS cs := by
        rw [← hLd, List.getElem?_map] at hx
        obtain ⟨cs, h1, h2⟩ := Option.map_eq_some_iff.1 hx
        exact ⟨cs, h1, h2.symm⟩
      obtain ⟨p1, p2, p3⟩ := pieces_at 1 _ _ _ hcs
      have hpf : (pre.map (·.data.toList)).flatten = s0.take (2 * pre.length) := by
        conv => lhs; rw [hpre]
        rw [← hLd, ← List.map_take, List.map_map, show ((fun b : ByteArray => b.data.toList) ∘ mkS) = id from funext fun l => by simp [mkS], List.map_id]
        exact p3
      simp only at hun hlen
      have hun0 := hun
      rw [hpf] at hun
      have hcl : cs.length = 2 := by rw [p1, List.length_take, List.length_drop]; omega
      obtain ⟨ca, cb, rfl⟩ : ∃ a b, cs = [a, b] := by
        match cs, hcl with
        | [a, b], _ => exact ⟨a, b, rfl⟩
      have hdm : (mkS [ca, cb]).data.toList = [ca, cb] := by simp [mkS]
      have hcz : (mkS [ca, cb]).size = 2 := rfl
      have hs0 : s0 = s0.take (2 * pre.length) ++ ca :: cb :: (s0.drop (2 * pre.length)).drop 2 := by
        have h1 : [ca, cb] ++ (s0.drop (2 * pre.length)).drop 2 = s0.drop (2 * pre.length) := by
          rw [p1]; exact List.take_append_drop _ _
        have h2 := List.take_append_drop (2 * pre.length) s0
        rw [← h1] at h2
        exact h2.symm
      refine ⟨_, rfl, ?_⟩
      intro b1
      intro b2
      intro q1
      intro q2
      refine loop_rule (ι := Nat × Nat) 3 (fun j => [(2, .c (.p 0 0)), (3, .c (.p 1 0)), (4, .c (.p 2 0)), (6, .c (.v (.int .i64 (j.2 : Int)))), (18, .c (.v (.slice (some ⟨b1, 0, none⟩) (mkS [ca, cb]).size b2))), (19, .c (.v (.int .i64 ((mkS [ca, cb]).size : Int)))), (20, .c (.v (.int .i64 (j.1 : Int))))])
        (fun _ => [⟨2, ty_sl_uint8, [.v (.slice A out.length c)]⟩, ⟨1, ty_api_Errno, [.v (.int .i64 0)]⟩, ⟨0, ty_sl_uint8, [.v (.slice none 0 0)]⟩]) (fun _ => [rdoF 1 (some ⟨b1, 0, none⟩) (mkS [ca, cb]).size ((mkS [ca, cb]).data.toList.map byte), browF ty_uint8 A out c])
        (fun j => (j.1 = 0 ∧ j.2 = 0) ∨ (j.1 = 1 ∧ digA ca = some j.2) ∨ (j.1 = 2 ∧ ∃ x y, digA ca = some x ∧ digA cb = some y ∧ j.2 = x * 16 + y)) (fun j => 2 - j.1) (0, 0) (.inl ⟨rfl, rfl⟩) (Ent.mk' ⟨rfl, rfl, rfl, rfl, rfl, rfl, rfl, trivial⟩ rfl (fun β w' hs => hs.perm [0, 2])) (rcx_good g) ?_
      rintro ⟨j, N⟩ hj
      simp only at hj
      have hbad : digA ca = none ∨ digA cb = none → unhexA s0 = none := fun h => by
        rw [hs0]
        exact unhexA_bad ca cb _ _ (by rw [List.length_take]; omega) h
      refine BIf.dec (fun hlt => ?_) (fun hge => ?_)
      · have hlt0 : (j : Int) < ((mkS [ca, cb]).size : Int) := hlt
        obtain ⟨y, hy, hyb⟩ : ∃ y, [ca, cb][j]? = some y ∧ (j = 0 ∧ y = ca ∧ N = 0 ∨ j = 1 ∧ y = cb ∧ digA ca = some N) := by
          rcases hj with ⟨h1, h2⟩ | ⟨h1, h2⟩ | ⟨h1, _⟩
          · exact ⟨ca, by rw [h1]; rfl, .inl ⟨h1, rfl, h2⟩⟩
          · exact ⟨cb, by rw [h1]; rfl, .inr ⟨h1, rfl, h2⟩⟩
          · omega
        refine ⟨_, j, rfl, rfl, by omega, ?_⟩
        refine ⟨byte y, fun β w' hs => Rd.cell1 (show Rd 1 (some ⟨b1, 0, none⟩) (mkS [ca, cb]).size ((mkS [ca, cb]).data.toList.map byte) w' from hs.get 0 rfl) (by rw [hdm, List.getElem?_map, hy]; rfl), ?_⟩
        refine call_pu (fun β w' hs => indexD_c w' y) ?_
        unfold digV
        cases hdy : digA y with
        | none =>
          refine ⟨(), ⟨rfl, hbad ?_⟩, Ent.mk' trivial rfl (fun β w hs => ((hs.keepB (List.sublist_cons_self _ _)).perm []).lower)⟩
          rcases hyb with ⟨_, q, _⟩ | ⟨_, q, _⟩
          · exact .inl (by rw [← q]; exact hdy)
          · exact .inr (by rw [← q]; exact hdy)
        | some v =>
          have hv := digA_lt hdy
          have hN16 : N < 16 := by
            rcases hyb with ⟨_, _, q⟩ | ⟨_, _, q⟩
            · omega
            · exact digA_lt q
          refine ⟨by first | decide | omega, ((N * 16 : Nat) : Int), ?_, ?_⟩
          · rw [show min (4 : Int).toNat IntKind.i64.bits = 4 from rfl, wrap_i64 (by omega) (by omega)]; omega
          refine ⟨((N * 16 + v : Nat) : Int), or4_i64 (by omega) hv, ?_⟩
          refine ⟨((j + 1 : Nat) : Int), by rw [wrap_i64 (by omega) (by omega)]; rfl, ?_⟩
          refine ⟨(j + 1, N * 16 + v), ?_, by show 2 - (j + 1) < 2 - j; omega, Ent.same ⟨rfl, rfl, rfl, rfl, rfl, rfl, rfl, trivial⟩ rfl⟩
          rcases hyb with ⟨q1, q2, q3⟩ | ⟨q1, q2, q3⟩
          · exact .inr (.inl ⟨by show j + 1 = 1; omega, by show digA ca = some (N * 16 + v); rw [← q2, hdy, q3, Nat.zero_mul, Nat.zero_add]⟩)
          · exact .inr (.inr ⟨by show j + 1 = 2; omega, N, v, q3, by rw [← q2]; exact hdy, rfl⟩)
      · have hge0 : ¬ (j : Int) < ((mkS [ca, cb]).size : Int) := hge
        obtain ⟨x, y, hx1, hy1, hN⟩ : ∃ x y, digA ca = some x ∧ digA cb = some y ∧ N = x * 16 + y := by
          rcases hj with ⟨h1, h2⟩ | ⟨h1, h2⟩ | ⟨h1, h⟩
          · omega
          · omega
          · exact h
        have hN8 : N < 256 := by
          have h1 := digA_lt hx1
          have h2 := digA_lt hy1
          omega
        refine ⟨((u8n N).toNat : Int), wrap_u8n _, ?_⟩
        intro b3
        obtain ⟨l2, hl2⟩ : ∃ l2, l2 = out ++ [u8n N] := ⟨_, rfl⟩
        have hl2l : out.length + 1 = l2.length := by rw [hl2, List.length_append]; rfl
        have hpl : pre.length < L.length := by
          rcases Nat.lt_or_ge pre.length L.length with h | h
          · exact h
          · rw [List.getElem?_eq_none h] at hx; cases hx
        refine ⟨2, out.length, l2.length, _, [u8n N].map byte, l2.map byte, rfl, fun β w' hs => row_rd (hs.get 0 rfl), bytes_one _, hl2l, by rw [hl2, List.map_append], by rw [maxLen_eq]; omega, by show l2.length * 1 ≤ _; omega, ?_⟩
        intro A2 c2 r1 r2 r3
        refine ⟨(l2, A2, c2), ⟨?_, ?_, ?_⟩, Ent.mk' trivial rfl (fun β w' hs => hs.perm [2])⟩
        · show pre ++ [mkS [ca, cb]] = L.take (pre ++ [mkS [ca, cb]]).length
          rw [List.length_append, List.length_singleton, List.take_add_one, hx, ← hpre]
          rfl
        · show unhexA ((pre ++ [mkS [ca, cb]]).map (·.data.toList)).flatten = some l2
          rw [List.map_append, List.map_singleton, hdm, List.flatten_append, unhexA_app _ _ (by rw [hpf, List.length_take]; omega), hun0, hl2]
          simp [unhexA, hx1, hy1, hN]
        · show l2.length ≤ (pre ++ [mkS [ca, cb]]).length
          rw [List.length_append, List.length_singleton]
          omega
    · rintro xs ⟨out, A, c⟩ Fs ⟨hpre, hun, hlen⟩ ⟨rfl, rfl⟩
      have hfl : (xs.map (·.data.toList)).flatten = s0 := by
        rw [← hLd, List.map_map, show ((fun b : ByteArray => b.data.toList) ∘ mkS) = id from funext fun l => by simp [mkS], List.map_id, pieces_flat 1 _ _ (Nat.le_refl _)]
      rw [hfl] at hun
      intro β w' hs
      have hcap : out.length ≤ c := brow_cap (show (browF ty_uint8 A out c).p w' from hs.get 0 rfl)
      exact (hs.keepB (List.nil_sublist _)).fin [0] ⟨A, out, c, 0, rfl, .inl ⟨rfl, hun⟩, hcap, rfl⟩
    · rintro e pre ⟨⟩ Fs ⟨rfl, hno⟩ rfl
      intro β w' hs
      exact ((hs.keepB (List.nil_sublist _)).nilRow ty_uint8 1).fin [0] ⟨none, [], 0, 5, rfl, .inr ⟨by decide, hno⟩, Nat.le_refl _, rfl⟩
  · have h00 : ¬ (((mkS s0).size % 2 : Nat) : Int) = 0 := h0
    intro β w' hs
    exact ((hs.keepB (List.nil_sublist _)).nilRow ty_uint8 1).fin [0] ⟨none, [], 0, 2, rfl, .inr ⟨by decide, unhexA_odd s0 (by omega)⟩, Nat.le_refl _, rfl⟩
def digB : List UInt8 := [48, 49, 50, 51, 52, 53, 54, 55, 56, 57, 97, 98, 99, 100, 101, 102]
theorem digB_iff {n : Nat} {c x : UInt8} (h : digB[n]? = some x) : x = c ↔ digA c = some n := by
  have key : ∀ n : _root_.Fin 16, ∀ m : _root_.Fin 256, (decide (digB[n.1]? = some (UInt8.ofNat m.1)) = decide (digA (UInt8.ofNat m.1) = some n.1)) := by decide +kernel
  have hn : n < 16 := (List.getElem?_eq_some_iff.1 h).1
  have h2 := key ⟨n, hn⟩ ⟨c.toNat, c.toNat_lt⟩
  simp only [UInt8.ofNat_toNat, decide_eq_decide] at h2
  rw [h] at h2
  exact ⟨fun q => h2.1 (by rw [q]), fun q => Option.some.inj (h2.2 q)⟩
def digTo (c : UInt8) (n : Nat) : Int := match digA c with
  | some d => if d < n then (d : Int) else -1
  | none => -1
theorem digTo_0 (c : UInt8) : digTo c 0 = -1 := by
  unfold digTo
  split
  · rw [if_neg (Nat.not_lt_zero _)]
  · rfl
theorem digTo_hit {c : UInt8} {n : Nat} (h : digA c = some n) : digTo c (n + 1) = (n : Int) := by
  unfold digTo
  rw [h]
  simp only
  rw [if_pos (Nat.lt_succ_self _)]
theorem digTo_no {c : UInt8} {n : Nat} (h : digA c ≠ some n) : digTo c (n + 1) = digTo c n := by
  unfold digTo
  cases hd : digA c with
  | none => rfl
  | some d =>
    simp only
    have hne : d ≠ n := fun q => h (by rw [hd, q])
    by_cases q : d < n
    · rw [if_pos (by omega), if_pos q]
    · rw [if_neg (by omega), if_neg q]
theorem digTo_16 (c : UInt8) : digTo c 16 = digV c := by
  unfold digTo digV
  cases hd : digA c with
  | none => rfl
  | some d => simp only; rw [if_pos (digA_lt hd)]
theorem unhex_none {s : List UInt8} {i : Nat} {x : UInt8} (h2 : s.length % 2 = 0) (hx : s[i]? = some x) (hd : digA x = none) : unhexA s = none := by
  have hi := (List.getElem?_eq_some_iff.1 hx).1
  by_cases he : i % 2 = 0
  · obtain ⟨y, hy, -⟩ := at_lt (show i + 1 < s.length by omega)
    have e : s = s.take i ++ x :: y :: s.drop (i + 2) := by
      have h1 := List.drop_eq_getElem_cons hi
      have h3 := List.drop_eq_getElem_cons (show i + 1 < s.length by omega)
      rw [(List.getElem?_eq_some_iff.1 hx).2] at h1
      rw [(List.getElem?_eq_some_iff.1 hy).2] at h3
      rw [← h3, ← h1, List.take_append_drop]
    rw [e]
    exact unhexA_bad x y _ _ (by rw [List.length_take]; omega) (.inl hd)
  · obtain ⟨y, hy, -⟩ := at_lt (show i - 1 < s.length by omega)
    have e : s = s.take (i - 1) ++ y :: x :: s.drop (i + 1) := by
      have h1 := List.drop_eq_getElem_cons hi
      have h3 := List.drop_eq_getElem_cons (show i - 1 < s.length by omega)
      rw [(List.getElem?_eq_some_iff.1 hx).2] at h1
      rw [(List.getElem?_eq_some_iff.1 hy).2, show i - 1 + 1 = i by omega] at h3
      rw [← h1, ← h3, List.take_append_drop]
    rw [e]
    exact unhexA_bad y x _ _ (by rw [List.length_take]; omega) (.inr hd)
theorem unhex_next {s o : List UInt8} {i v w : Nat} {x y : UInt8} (h : unhexA (s.take i) = some o) (he : i % 2 = 0) (hx : s[i]? = some x) (hy : s[i + 1]? = some y) (hv : digA x = some v) (hw : digA y = some w) : unhexA (s.take (i + 2)) = some (o ++ [u8n (v * 16 + w)]) := by
  have hi := (List.getElem?_eq_some_iff.1 hx).1
  rw [List.take_add_one, List.take_add_one, hx, hy, List.append_assoc, unhexA_app _ _ (by rw [List.length_take]; omega), h]
  show (match (some o), unhexA [x, y] with | some a, some b => some (a ++ b) | _, _ => none) = _
  have e : unhexA [x, y] = some [u8n (v * 16 + w)] := by simp [unhexA, hv, hw]
  rw [e]
theorem u8n_add (a b : Nat) : u8n a + u8n b = u8n (a + b) := by
  apply UInt8.toNat_inj.1
  unfold u8n
  rw [UInt8.toNat_add, UInt8.toNat_ofNat', UInt8.toNat_ofNat', UInt8.toNat_ofNat']
  omega
theorem rUnhex_c (w : World) (s : List UInt8) (hL : s.length ≤ 1000000) : Con Tryz.prog n_ostiaryref03_Unhex #[.string (mkS s)] w [] (decOutP (unhexA s)) := by
  have g := good_ostiaryref03_Unhex w (Un [])
  refine con_of_sx (cx := cx_ostiaryref03_Unhex w (Un [])) g b_ostiaryref03_Unhex rfl rfl (β := Va.z) [.c (.v (.string (mkS s)))] 0 [] [] rfl rfl (Sat.start rfl) ?_
  have hml := maxLen_eq
  have hsz := mkS_sz s
  refine ⟨by first | decide | omega, ?_⟩
  refine ⟨(((mkS s).size % 2 : Nat) : Int), Int.ofNat_tmod _ _, ?_⟩
  refine BIf.not (BIf.dec (fun h2 => ?_) (fun h2 => ?_))
  · have h20 : (((mkS s).size % 2 : Nat) : Int) = 0 := h2
    refine loop_rule (ι := Nat × Option Addr × Nat × List UInt8) 0 (fun j => [(0, .c (.v (.string (mkS s)))), (4, .c (.v (.slice j.2.1 j.2.2.2.length j.2.2.1))), (5, .c (.v (.int .i64 (j.1 : Int))))]) (fun _ => []) (fun j => [browF ty_uint8 j.2.1 j.2.2.2 j.2.2.1])
      (fun j => j.1 ≤ s.length ∧ (j.1 % 2 = 0 → unhexA (s.take j.1) = some j.2.2.2) ∧ (j.1 % 2 = 1 → ∃ o x v, s[j.1 - 1]? = some x ∧ digA x = some v ∧ unhexA (s.take (j.1 - 1)) = some o ∧ j.2.2.2 = o ++ [u8n (v * 16)]) ∧ j.2.2.2.length ≤ j.1) (fun j => s.length - j.1) (0, none, 0, []) ⟨Nat.zero_le _, fun _ => rfl, (fun h => by cases h), Nat.le_refl _⟩ (Ent.mk' ⟨rfl, rfl, rfl, trivial⟩ rfl (fun β w' hs => hs.nilRow ty_uint8 1)) g ?_
    rintro ⟨i, A, c, out⟩ ⟨hi, he, ho, hol⟩
    simp only at hi he ho hol
    refine BIf.dec (fun hlt => ?_) (fun hge => ?_)
    · have hlt0 : (i : Int) < ((mkS s).size : Int) := hlt
      obtain ⟨x, hx, -⟩ := at_lt (show i < s.length by omega)
      refine tri_know (p := 0 < out.length → ∃ b, A = some ⟨b, 0, none⟩) (fun β w' hs h => ?_) ?_
      · have hp : w'.ownsRow 0 ty_uint8 1 (.slice A out.length c) out.length (out.map byte) := hs.get 0 rfl
        rcases hp.2 with ⟨_, q⟩ | ⟨b, cap, cur, hv, _⟩
        · omega
        · injection hv with q1 q2 q3
          exact ⟨b, q1⟩
      intro hAb
      refine loop_rule (ι := Nat) 0 (fun j => [(0, .c (.v (.string (mkS s)))), (4, .c (.v (.slice A out.length c))), (5, .c (.v (.int .i64 (i : Int)))), (6, .c (.v (.int .i64 (digTo x j)))), (7, .c (.v (.int .i64 (j : Int))))]) (fun _ => []) (fun j => [browF ty_uint8 A out c])
        (fun j => j ≤ 16) (fun j => 16 - j) (0 : Nat) (Nat.zero_le _) (Ent.mk' ⟨rfl, rfl, rfl, by rw [digTo_0]; rfl, rfl, trivial⟩ rfl (fun β w' hs => hs)) g ?_
      intro n hn
      refine BIf.dec (fun hlt2 => ?_) (fun hge2 => ?_)
      · have hlt20 : (n : Int) < 16 := hlt2
        obtain ⟨d, hd, -⟩ := at_lt (show n < digB.length by show n < 16; omega)
        have hdi := digB_iff (c := x) hd
        refine draw_rule g p_ostiaryref03_Unhex_11 (by kernel_rfl) [] [] (Sub.of (List.Sublist.refl _) (List.nil_sublist _)) ?_
        refine ⟨n, d, rfl, hd, ?_⟩
        refine ⟨i, x, rfl, hx, ?_⟩
        refine BIf.dec (fun heq => ?_) (fun hne => ?_)
        · have heq0 : d = x := UInt8.toNat_inj.1 (Int.ofNat_inj.1 heq)
          refine ⟨((n + 1 : Nat) : Int), by rw [wrap_i64 (by omega) (by omega)]; rfl, ?_⟩
          refine ⟨n + 1, by omega, by omega, Ent.mk' ⟨rfl, rfl, rfl, by rw [digTo_hit (hdi.1 heq0)]; rfl, rfl, trivial⟩ rfl (fun β w' hs => hs)⟩
        · have hne0 : d ≠ x := fun q => hne (by rw [q])
          refine ⟨((n + 1 : Nat) : Int), by rw [wrap_i64 (by omega) (by omega)]; rfl, ?_⟩
          refine ⟨n + 1, by omega, by omega, Ent.mk' ⟨rfl, rfl, rfl, by rw [digTo_no (fun q => hne0 (hdi.2 q))]; rfl, rfl, trivial⟩ rfl (fun β w' hs => hs)⟩
      · have hge20 : ¬ (n : Int) < 16 := hge2
        obtain rfl : n = 16 := by omega
        rw [digTo_16]
        cases hdx : digA x with
        | none =>
          have hv : digV x = -1 := by unfold digV; rw [hdx]
          rw [hv]
          intro β w' hs
          exact (hs.nilRow ty_uint8 1).fin [0] ⟨none, [], 0, 5, rfl, .inr ⟨by decide, unhex_none (by omega) hx hdx⟩, Nat.le_refl _, rfl⟩
        | some v =>
          have hv : digV x = (v : Int) := by unfold digV; rw [hdx]
          have hv16 := digA_lt hdx
          rw [hv]
          refine ⟨by first | decide | omega, ?_⟩
          refine ⟨((i % 2 : Nat) : Int), Int.ofNat_tmod _ _, ?_⟩
          refine BIf.dec (fun hev => ?_) (fun hod => ?_)
          · have hev0 : ((i % 2 : Nat) : Int) = 0 := hev
            refine ⟨(((16 * v) : Nat) : Int), by rw [wrap_i64 (by omega) (by omega)]; rfl, ?_⟩
            refine ⟨((u8n (v * 16)).toNat : Int), by rw [show 16 * v = v * 16 by omega]; exact wrap_u8n _, ?_⟩
            intro b1
            obtain ⟨out2, hout2⟩ : ∃ out2, out2 = out ++ [u8n (v * 16)] := ⟨_, rfl⟩
            have hl2 : out.length + 1 = out2.length := by rw [hout2, List.length_append]; rfl
            refine ⟨1, out.length, out2.length, out.map byte, [u8n (v * 16)].map byte, out2.map byte, rfl, fun β w' hs => row_rd (hs.get 0 rfl), bytes_one _, hl2, by rw [hout2, List.map_append], by rw [hml]; omega, by show out2.length * 1 ≤ _; omega, ?_⟩
            intro A2 c2 r1 r2 r3
            refine ⟨((i + 1 : Nat) : Int), by rw [wrap_i64 (by omega) (by omega)]; rfl, ?_⟩
            exact ⟨(i + 1, A2, c2, out2), ⟨by show i + 1 ≤ _; omega, fun h => absurd (show (i + 1) % 2 = 0 from h) (by omega), fun _ => ⟨out, x, v, hx, hdx, he (by omega), hout2⟩, by show out2.length ≤ i + 1; omega⟩, by show s.length - (i + 1) < s.length - i; omega, Ent.mk' ⟨rfl, rfl, rfl, trivial⟩ rfl (fun β w' hs => hs.perm [1])⟩
          · have hod0 : ¬ ((i % 2 : Nat) : Int) = 0 := hod
            obtain ⟨o, x0, v0, hx0, hdx0, hun, hoe⟩ := ho (by omega)
            have hole : out.length = o.length + 1 := by rw [hoe, List.length_append]; rfl
            obtain ⟨bA, hbA⟩ := hAb (by omega)
            subst hbA
            refine ⟨_, wrap_i64 (by omega) (by omega), ?_⟩
            refine ⟨_, o.length, rfl, by omega, by omega, ?_⟩
            refine ⟨byte (u8n (v0 * 16)), fun β w' hs => Rd.cell1 (row_rd (show (browF ty_uint8 (some ⟨bA, 0, none⟩) out c).p w' from hs.get 0 rfl)) (by rw [hoe, List.map_append, List.getElem?_append_right (by simp)]; simp), ?_⟩
            refine ⟨((v : Nat) : Int), by rw [IntKind.wrap_u8]; omega, ?_⟩
            refine ⟨((u8n (v0 * 16 + v)).toNat : Int), by
              have h1 := UInt8.toNat_add (u8n (v0 * 16)) (u8n v)
              rw [u8n_add] at h1
              have h2 : (u8n v).toNat = v := by unfold u8n; rw [UInt8.toNat_ofNat']; omega
              rw [IntKind.wrap_u8, h1, h2]
              omega, ?_⟩
            refine ⟨_, o.length, rfl, by omega, by omega, ?_⟩
            refine ⟨_, fun β w' hs => Sat.rowSet hs (j := 0) (us := [byte (u8n (v0 * 16 + v))]) rfl (by show o.length * 1 + 1 ≤ out.length * 1; omega) (fun u hu => by obtain rfl := List.mem_singleton.1 hu; rfl), ?_⟩
            refine ⟨((i + 1 : Nat) : Int), by rw [wrap_i64 (by omega) (by omega)]; rfl, ?_⟩
            obtain ⟨out2, hout2⟩ : ∃ out2, out2 = o ++ [u8n (v0 * 16 + v)] := ⟨_, rfl⟩
            have hl2 : out2.length = out.length := by rw [hout2, List.length_append, hole]; rfl
            have hput : putAll (out.map byte) (o.length * 1) [byte (u8n (v0 * 16 + v))] = out2.map byte := by
              show putAt (out.map byte) (o.length * 1) _ = _
              rw [putAt_eq, Nat.mul_one, hoe, hout2, List.map_append, List.map_append, List.set_append_right _ _ (by simp)]
              simp
            have hi1 : i - 1 + 2 = i + 1 := by omega
            refine ⟨(i + 1, some ⟨bA, 0, none⟩, c, out2), ⟨by show i + 1 ≤ _; omega, fun _ => ?_, fun h => absurd (show (i + 1) % 2 = 1 from h) (by omega), by show out2.length ≤ i + 1; omega⟩, by show s.length - (i + 1) < s.length - i; omega, ?_⟩
            · show unhexA (s.take (i + 1)) = some out2
              rw [hout2, ← hi1]
              exact unhex_next hun (by omega) hx0 (by rw [show i - 1 + 1 = i by omega]; exact hx) hdx0 hdx
            · simp only [hl2]
              refine Ent.mk' ⟨rfl, rfl, rfl, trivial⟩ rfl (fun β w' hs => ?_)
              show Sat _ _ _ _ [rowF ty_uint8 1 (.slice (some ⟨bA, 0, none⟩) out2.length c) out2.length (out2.map byte)] _
              rw [← hput, hl2]
              exact hs
    · have hge0 : ¬ (i : Int) < ((mkS s).size : Int) := hge
      obtain rfl : i = s.length := by omega
      intro β w' hs
      refine hs.fin [0] ⟨A, out, c, 0, rfl, .inl ⟨rfl, ?_⟩, brow_cap (hs.get 0 rfl), rfl⟩
      have h := he (by omega)
      rwa [List.take_length] at h
  · have h20 : ¬ (((mkS s).size % 2 : Nat) : Int) = 0 := h2
    intro β w' hs
    exact (hs.nilRow ty_uint8 1).fin [0] ⟨none, [], 0, 2, rfl, .inr ⟨by decide, unhexA_odd s (by omega)⟩, Nat.le_refl _, rfl⟩
def hit (t : List UInt8) (i : Nat) : Option Nat := match Bx.looks ((t.drop i).take 32) with
  | some n => if 0 < n then some n else none
  | none => none
def scan (t : List UInt8) (i : Nat) : List (Nat × Nat) :=
  if i + 32 ≤ t.length then match hit t i with
    | some n => (i, n) :: scan t (i + 32)
    | none => scan t (i + 1)
  else []
termination_by t.length + 32 - i
decreasing_by all_goals omega
theorem scan_end {t : List UInt8} {i : Nat} (h : ¬ i + 32 ≤ t.length) : scan t i = [] := by rw [scan, if_neg h]
theorem scan_hit {t : List UInt8} {i n : Nat} (h : i + 32 ≤ t.length) (hn : hit t i = some n) : scan t i = (i, n) :: scan t (i + 32) := by rw [scan, if_pos h, hn]
theorem scan_no {t : List UInt8} {i : Nat} (h : i + 32 ≤ t.length) (hn : hit t i = none) : scan t i = scan t (i + 1) := by rw [scan, if_pos h, hn]
theorem number_hit (t : List UInt8) (i : Nat) : ∃ (v : Nat) (ok : Bool), numberV ((t.drop i).take 32) = .tuple #[.int .i64 (v : Int), .bool ok] ∧ ((ok = true ∧ hit t i = some v) ∨ (ok = false ∧ hit t i = none)) := by
  unfold numberV hit
  cases h : Bx.looks ((t.drop i).take 32) with
  | none => exact ⟨0, false, rfl, .inr ⟨rfl, rfl⟩⟩
  | some n =>
    refine ⟨n, decide ((0 : Int) < (n : Int)), rfl, ?_⟩
    by_cases h0 : 0 < n
    · exact .inl ⟨decide_eq_true (by omega), if_pos h0⟩
    · exact .inr ⟨decide_eq_false (by omega), if_neg h0⟩
abbrev Hp := Nat × Nat
def insH (x : Hp) (args : Array Value) (X : Fact) : Prop := args = #[.int .i64 (x.1 : Int), .int .i64 (x.2 : Int)] ∧ X = noF
def handlesEnd (t : List UInt8) (J Jx : List Hp → Fact → Prop) (Fs : List Fact) : Prop :=
  ∃ f Fs', Fs = f :: Fs' ∧ ((∃ xs, J xs f ∧ xs = scan t 0 ∧ Fs' = []) ∨ (∃ pre, Jx pre f ∧ (∃ r, scan t 0 = pre ++ r) ∧ Fs' = []))
theorem handles_it (l : Nat) (w : World) (bx : Nat) (A : Option Addr) (t : List UInt8) (c : Nat) (f0 R : Fact) (J Jx : List Hp → Fact → Prop) (hJ0 : J [] f0) (hJo : ∀ pre f, J pre f → f.own = true) (hRo : R.own = false) (hY : Yc Tryz.prog l J Jx R (fun _ => insH))
    (hl : t.length ≤ 1000000) (hc : t.length ≤ c) (hm : Mem w (f0 :: R :: [bkF bx ty_sl_uint8 [.slice A t.length c], bsF A t])) :
    Con Tryz.prog n_box_Handles_1 #[.func (.yield l) #[] #[], .pointer (some ⟨bx, 0, none⟩)] w [f0, bkF bx ty_sl_uint8 [.slice A t.length c]] (fun _ Fs => handlesEnd t J Jx Fs) := by
  have g := good_box_Handles_1 w (Un [f0, bkF bx ty_sl_uint8 [.slice A t.length c]]) [bx]
  have hs0 : Sat (cx_box_Handles_1 w (Un [f0, bkF bx ty_sl_uint8 [.slice A t.length c]]) [bx]) (Va.of fun _ => bx) 1 [] (f0 :: R :: [bkF bx ty_sl_uint8 [.slice A t.length c], bsF A t]) w := by
    refine hm.sat rfl (fun f hf ho k hk => ?_) ⟨Nat.le_refl 1, fun i hi => by obtain rfl : i = 0 := Nat.lt_one_iff.1 hi; rfl⟩
    simp only [List.mem_cons, List.not_mem_nil, or_false] at hf
    rcases hf with rfl | rfl | rfl | rfl
    · exact ⟨_, by simp, hk⟩
    · rw [hRo] at ho; cases ho
    · exact ⟨_, by simp, hk⟩
    · cases ho
  have hs1 := hs0.toBk 2 rfl 0 Nat.zero_lt_one rfl
  refine con_of_sx (cx := cx_box_Handles_1 w (Un [f0, bkF bx ty_sl_uint8 [.slice A t.length c]]) [bx]) g b_box_Handles_1 rfl rfl (β := Va.of fun _ => bx) [.c (.v (.func (.yield l) #[] #[])), .c (.p 0 0)] 1 _ _ rfl rfl hs1 ?_
  refine loop_rule (ι := List Hp × Nat × Fact) 1 (fun i => [(0, .c (.v (.func (.yield l) #[] #[]))), (1, .c (.p 0 0)), (3, .c (.v (.int .i64 (i.2.1 : Int))))]) (fun _ => [⟨0, ty_sl_uint8, [.v (.slice A t.length c)]⟩]) (fun i => [i.2.2, R, bsF A t])
    (fun i => J i.1 i.2.2 ∧ scan t 0 = i.1 ++ scan t i.2.1 ∧ i.2.1 ≤ t.length + 32) (fun i => t.length + 32 - i.2.1) ([], 0, f0) ⟨hJ0, rfl, Nat.zero_le _⟩ (Ent.same ⟨rfl, rfl, rfl, trivial⟩ rfl) g ?_
  rintro ⟨pre, i, f⟩ ⟨hJ, hsc, hi⟩
  simp only at hJ hsc hi
  have hfo := hJo _ _ hJ
  simp only
  refine ⟨((i + 32 : Nat) : Int), by rw [wrap_i64 (by omega) (by omega)]; rfl, ?_⟩
  refine BIf.dec (fun hlt => ?_) (fun hge => ?_)
  · have hlt0 : ((i + 32 : Nat) : Int) ≤ t.length := hlt
    have hlt : i + 32 ≤ t.length := by omega
    refine ⟨((i + 32 : Nat) : Int), by rw [wrap_i64 (by omega) (by omega)]; rfl, ?_⟩
    refine ⟨c, i + 32, i, 32, c - i, _, rfl, rfl, rfl, Nat.le_refl _, by omega, by omega, by omega, rfl, rfl, ?_⟩
    obtain ⟨v, ok, hv, hhit⟩ := number_hit t i
    have e32 : ((t.drop i).take 32).length = 32 := by simp; omega
    refine call_pu (v := .tuple #[.int .i64 (v : Int), .bool ok]) (fun β w' hs => by
      have h := number_c w' (cutA A c i 1) ((t.drop i).take 32) (c - i) (Bs.cutB (hs.get 2 rfl) hc (by omega : i ≤ i + 32) hlt (by simp)) (by omega) (by omega)
      rw [hv, e32] at h
      exact h) ?_
    rcases hhit with ⟨rfl, hh⟩ | ⟨rfl, hh⟩
    · rw [scan_hit hlt hh] at hsc
      refine yield_ro (X := noF) (x := (i, v)) hY 0 1 rfl hJ hfo rfl hRo (by decide) (fun β => ⟨rfl, rfl⟩) rfl (fun β w _ => ⟨trivial, fun k hk => hk.elim, fun k _ h => h.elim⟩) ?_ ?_
      · intro f2 hfo2 hJ2
        refine ⟨((i + 31 : Nat) : Int), by rw [wrap_i64 (by omega) (by omega)]; rfl, ?_⟩
        refine ⟨((i + 32 : Nat) : Int), by rw [wrap_i64 (by omega) (by omega)]; omega, ?_⟩
        refine ⟨(pre ++ [(i, v)], i + 32, f2), ⟨hJ2, by show scan t 0 = pre ++ [(i, v)] ++ scan t (i + 32); rw [hsc]; simp, by show i + 32 ≤ _; omega⟩, by show t.length + 32 - (i + 32) < t.length + 32 - i; omega, Ent.same ⟨rfl, rfl, rfl, trivial⟩ rfl⟩
      · intro f2 hfo2 hJ2 β w' hs
        exact (hs.keepB (List.nil_sublist _)).fin [0] ⟨f2, [], rfl, .inr ⟨_, hJ2, ⟨scan t (i + 32), by rw [hsc]; simp⟩, rfl⟩⟩ rfl rfl rfl ⟨hfo2, trivial⟩
    · rw [scan_no hlt hh] at hsc
      refine ⟨((i + 1 : Nat) : Int), by rw [wrap_i64 (by omega) (by omega)]; rfl, ?_⟩
      refine ⟨(pre, i + 1, f), ⟨hJ, hsc, by show i + 1 ≤ _; omega⟩, by show t.length + 32 - (i + 1) < t.length + 32 - i; omega, Ent.same ⟨rfl, rfl, rfl, trivial⟩ rfl⟩
  · have hge0 : ¬ ((i + 32 : Nat) : Int) ≤ t.length := hge
    rw [scan_end (t := t) (i := i) (by omega), List.append_nil] at hsc
    intro β w' hs
    exact (hs.keepB (List.nil_sublist _)).fin [0] ⟨f, [], rfl, .inl ⟨pre, hJ, hsc.symm, rfl⟩⟩ rfl rfl rfl ⟨hfo, trivial⟩
theorem handles_c (w : World) (A : Option Addr) (n c : Nat) : Con Tryz.prog n_box_Handles #[.slice A n c] w [] (fun v Fs => ∃ bx, v = .func (.func n_box_Handles_1) #[] #[.pointer (some ⟨bx, 0, none⟩)] ∧ Fs = [bkF bx ty_sl_uint8 [.slice A n c]]) := by
  refine con_of_sx (cx := cx_box_Handles w (Un [])) (good_box_Handles w (Un [])) b_box_Handles rfl rfl (β := Va.z) [.c (.v (.slice A n c))] 0 [] [] rfl rfl (Sat.start rfl) ?_
  intro β w' hs
  exact hs.ofBk.fin [0] ⟨β 0, rfl, rfl⟩
def findV (x : Hp) : List Value := [.int .i64 (x.1 : Int), .int .i64 (x.2 : Int)]
def findsV (l : List Hp) : List Value := l.flatMap findV
abbrev fndF (A : Option Addr) (l : List Hp) (c : Nat) : Fact := rowF ty_ostiaryref05_Find 2 (.slice A l.length c) l.length (findsV l)
theorem findsV_snoc (l : List Hp) (x : Hp) : findsV (l ++ [x]) = findsV l ++ findV x := by simp [findsV]
theorem findV_one (x : Hp) : ∀ u ∈ findV x, u.oneCell' = true := by
  intro u hu
  simp only [findV, List.mem_cons, List.not_mem_nil, or_false] at hu
  rcases hu with rfl | rfl <;> rfl
theorem looks_hit (t : List UInt8) (i : Nat) : ∃ (v : Nat) (ok : Bool), looksV ((t.drop i).take 32) = .tuple #[.int .i64 (v : Int), .bool ok] ∧ ((ok = true ∧ 0 < v ∧ hit t i = some v) ∨ (ok = true ∧ ¬ 0 < v ∧ hit t i = none) ∨ (ok = false ∧ hit t i = none)) := by
  unfold looksV hit
  cases h : Bx.looks ((t.drop i).take 32) with
  | none => exact ⟨0, false, rfl, .inr (.inr ⟨rfl, rfl⟩)⟩
  | some n =>
    refine ⟨n, true, rfl, ?_⟩
    by_cases h0 : 0 < n
    · exact .inl ⟨rfl, h0, if_pos h0⟩
    · exact .inr (.inl ⟨rfl, h0, if_neg h0⟩)
theorem rfinds_c (w : World) (A : Option Addr) (t : List UInt8) (c : Nat) (hr : Bs w A t) (hl : t.length ≤ 1000000) (hc : t.length ≤ c) :
    Con Tryz.prog n_ostiaryref05_Finds #[.slice A t.length c] w [] fun v Fs => ∃ A' c', v = .slice A' (scan t 0).length c' ∧ (scan t 0).length ≤ c' ∧ Fs = [fndF A' (scan t 0) c'] := by
  have g := good_ostiaryref05_Finds w (Un [])
  refine con_of_sx (cx := cx_ostiaryref05_Finds w (Un [])) g b_ostiaryref05_Finds rfl rfl (β := Va.z) [.c (.v (.slice A t.length c))] 0 [] [fndF none [] 0, oldF w] rfl rfl ((old_sat rfl).nilRow _ _) ?_
  refine loop_rule (ι := List Hp × Nat × Option Addr × Nat) 0 (fun i => [(0, .c (.v (.slice A t.length c))), (3, .c (.v (.slice i.2.2.1 i.1.length i.2.2.2))), (4, .c (.v (.int .i64 (i.2.1 : Int))))]) (fun _ => []) (fun i => [fndF i.2.2.1 i.1 i.2.2.2, oldF w])
    (fun i => scan t 0 = i.1 ++ scan t i.2.1 ∧ i.2.1 ≤ t.length ∧ i.1.length ≤ i.2.1 ∧ i.1.length ≤ i.2.2.2) (fun i => t.length - i.2.1) ([], 0, none, 0) ⟨rfl, Nat.zero_le _, Nat.zero_le _, Nat.zero_le _⟩ (Ent.same ⟨rfl, rfl, rfl, trivial⟩ rfl) g ?_
  rintro ⟨got, i, A1, c1⟩ ⟨hsc, hi, hgi, hgc⟩
  simp only at hsc hi hgi hgc
  simp only
  refine ⟨((t.length - i : Nat) : Int), by rw [wrap_i64 (by omega) (by omega)]; omega, ?_⟩
  refine BIf.dec (fun hlt => ?_) (fun hge => ?_)
  · have hlt0 : (32 : Int) ≤ ((t.length - i : Nat) : Int) := hlt
    have hlt : i + 32 ≤ t.length := by omega
    refine ⟨((i + 32 : Nat) : Int), by rw [wrap_i64 (by omega) (by omega)]; rfl, ?_⟩
    refine ⟨c, i + 32, i, 32, c - i, _, rfl, rfl, rfl, Nat.le_refl _, by omega, by omega, by omega, rfl, rfl, ?_⟩
    obtain ⟨v, ok, hv, hhit⟩ := looks_hit t i
    have e32 : ((t.drop i).take 32).length = 32 := by simp; omega
    refine call_pu (v := .tuple #[.int .i64 (v : Int), .bool ok]) (fun β w' hs => by
      have h := looks_c w' (cutA A c i 1) ((t.drop i).take 32) (c - i) (Bs.cutB (Rd.old hr (hs.get 1 rfl)) hc (by omega : i ≤ i + 32) hlt (by simp)) (by omega) (by omega)
      rw [hv, e32] at h
      exact h) ?_
    rcases hhit with ⟨rfl, hv0, hh⟩ | ⟨rfl, hv0, hh⟩ | ⟨rfl, hh⟩
    · rw [scan_hit hlt hh] at hsc
      refine BIf.dec (fun hp => ?_) (fun hp => ?_)
      · intro b0
        refine ⟨1, got.length, got.length + 1, findsV got, findV (i, v), findsV (got ++ [(i, v)]), rfl, fun β w hs => row_rd (hs.get 0 rfl), findV_one _, rfl, (findsV_snoc _ _).symm, by rw [maxLen_eq]; omega, by show (got.length + 1) * 16 ≤ _; omega, ?_⟩
        intro A' c' q1 q2 _
        refine ⟨((i + 32 : Nat) : Int), by rw [wrap_i64 (by omega) (by omega)]; rfl, ?_⟩
        have hle : (got ++ [(i, v)] : List Hp).length = got.length + 1 := by simp
        refine ⟨(got ++ [(i, v)], i + 32, A', c'), ⟨by show scan t 0 = got ++ [(i, v)] ++ scan t (i + 32); rw [hsc]; simp, hlt, by show (got ++ [(i, v)] : List Hp).length ≤ i + 32; omega, by show (got ++ [(i, v)] : List Hp).length ≤ c'; omega⟩, by show t.length - (i + 32) < t.length - i; omega, ?_⟩
        simp only [fndF, hle]
        exact Ent.mk' ⟨rfl, rfl, rfl, trivial⟩ rfl (fun β w' hs => hs.weaken (List.Sublist.refl _) (List.sublist_cons_self _ _))
      · exact (hp (by show (0 : Int) < (v : Int); omega)).elim
    · rw [scan_no hlt hh] at hsc
      refine BIf.dec (fun hp => ?_) (fun hp => ?_)
      · have hp0 : (0 : Int) < (v : Int) := hp
        omega
      · refine ⟨((i + 1 : Nat) : Int), by rw [wrap_i64 (by omega) (by omega)]; rfl, ?_⟩
        refine ⟨(got, i + 1, A1, c1), ⟨hsc, by show i + 1 ≤ _; omega, by show got.length ≤ i + 1; omega, hgc⟩, by show t.length - (i + 1) < t.length - i; omega, Ent.same ⟨rfl, rfl, rfl, trivial⟩ rfl⟩
    · rw [scan_no hlt hh] at hsc
      refine ⟨((i + 1 : Nat) : Int), by rw [wrap_i64 (by omega) (by omega)]; rfl, ?_⟩
      refine ⟨(got, i + 1, A1, c1), ⟨hsc, by show i + 1 ≤ _; omega, by show got.length ≤ i + 1; omega, hgc⟩, by show t.length - (i + 1) < t.length - i; omega, Ent.same ⟨rfl, rfl, rfl, trivial⟩ rfl⟩
  · have hge0 : ¬ (32 : Int) ≤ ((t.length - i : Nat) : Int) := hge
    rw [scan_end (t := t) (i := i) (by omega), List.append_nil] at hsc
    intro β w' hs
    rw [hsc]
    exact hs.fin [0] ⟨A1, c1, rfl, hgc, rfl⟩
theorem mulE_c (w : World) (n : Nat) (hn : n ≤ 3) : Pu Tryz.prog n_math_bits_Mul #[.int .u64 1, .int .u64 n] w (.tuple #[.int .u64 0, .int .u64 n]) := by
  refine pu_of (Calls.mono (Tryz.bits_Mul 1 n (by decide) (by omega) w) ?_)
  rintro e w' ⟨rfl, rfl⟩
  refine ⟨_, rfl, ?_, Chg.refl _ _⟩
  have : n = 0 ∨ n = 1 ∨ n = 2 ∨ n = 3 := by omega
  rcases this with rfl | rfl | rfl | rfl <;> rfl
theorem hpE_c (w : World) (s : ByteArray) (b : Bool) (h : _root_.Go.Lib.hasPrefix s.data.toList [61] = b) : Pu Tryz.prog n_strings_HasPrefix #[.string s, .string ⟨#[61]⟩] w (.bool b) := by
  refine pu_of (Calls.mono (Tryz.strings_HasPrefix s ⟨#[61]⟩ w) ?_)
  rintro e w' ⟨rfl, rfl⟩
  exact ⟨_, rfl, congrArg Value.bool h, Chg.refl _ _⟩
def eqs (n : Nat) : List UInt8 := List.replicate n 61
theorem repeat_c (w : World) (n : Nat) (hn : n ≤ 3) : Pu Tryz.prog n_strings_Repeat #[.string ⟨#[61]⟩, .int .i64 n] w (.string (mkS (eqs n))) := by
  have g := good_strings_Repeat w (Un [])
  have hml := maxLen_eq
  refine con_of_sx (cx := cx_strings_Repeat w (Un [])) g b_strings_Repeat rfl rfl (β := Va.z) [.c (.v (.string ⟨#[61]⟩)), .c (.v (.int .i64 n))] 0 [] [] rfl rfl (Sat.start rfl) ?_
  have : n = 0 ∨ n = 1 ∨ n = 2 ∨ n = 3 := by omega
  rcases this with rfl | rfl | rfl | rfl
  · intro β w' hs
    exact hs.fin [] ⟨rfl, rfl⟩
  · intro β w' hs
    exact hs.fin [] ⟨rfl, rfl⟩
  · refine ⟨1, rfl, 2, rfl, ?_⟩
    refine call_pu (fun β w' hs => mulE_c w' 2 (by omega)) ?_
    refine ⟨_, wrap_i64 (by omega) (by omega), ?_⟩
    refine ⟨0, 61, rfl, rfl, ?_⟩
    refine call_pu (v := .bool false) (fun β w' hs => hpE_c w' _ false (by decide +kernel)) ?_
    refine call_pu (v := .bool false) (fun β w' hs => hpE_c w' _ false (by decide +kernel)) ?_
    refine call_pu (v := .bool false) (fun β w' hs => hpE_c w' _ false (by decide +kernel)) ?_
    refine call_pu (v := .bool true) (fun β w' hs => hpE_c w' _ true (by decide +kernel)) ?_
    refine ⟨2, 0, rfl, rfl, by decide +kernel, Nat.zero_le _, ?_⟩
    intro β w' hs
    exact hs.fin [] ⟨congrArg Value.string (by decide +kernel), rfl⟩
  · refine ⟨1, rfl, 3, rfl, ?_⟩
    refine call_pu (fun β w' hs => mulE_c w' 3 (by omega)) ?_
    refine ⟨_, wrap_i64 (by omega) (by omega), ?_⟩
    refine ⟨0, 61, rfl, rfl, ?_⟩
    refine call_pu (v := .bool false) (fun β w' hs => hpE_c w' _ false (by decide +kernel)) ?_
    refine call_pu (v := .bool false) (fun β w' hs => hpE_c w' _ false (by decide +kernel)) ?_
    refine call_pu (v := .bool false) (fun β w' hs => hpE_c w' _ false (by decide +kernel)) ?_
    refine call_pu (v := .bool true) (fun β w' hs => hpE_c w' _ true (by decide +kernel)) ?_
    refine ⟨3, 0, rfl, rfl, by decide +kernel, Nat.zero_le _, ?_⟩
    intro β w' hs
    exact hs.fin [] ⟨congrArg Value.string (by decide +kernel), rfl⟩
def runsA (t : List UInt8) : List (List UInt8) := runsF [] t
def lettersL : List UInt8 := [65, 66, 67, 68, 69, 70, 71, 72, 73, 74, 75, 76, 77, 78, 79, 80, 81, 82, 83, 84, 85, 86, 87, 88, 89, 90, 97, 98, 99, 100, 101, 102, 103, 104, 105, 106, 107, 108, 109, 110, 111, 112, 113, 114, 115, 116, 117, 118, 119, 120, 121, 122, 48, 49, 50, 51, 52, 53, 54, 55, 56, 57, 43, 47, 45, 95]
theorem runC_ix (c : UInt8) : decide (0 ≤ _root_.Go.Lib.indexByte lettersL c) = runC c := by
  have h : ∀ n : _root_.Fin 256, decide (0 ≤ _root_.Go.Lib.indexByte lettersL (UInt8.ofNat n.val)) = runC (UInt8.ofNat n.val) := by decide +kernel
  have h1 := h ⟨c.toNat, c.toNat_lt⟩
  simpa using h1
theorem indexR_c (w : World) (c : UInt8) : Pu Tryz.prog n_strings_IndexByte #[.string (mkS lettersL), .int .u8 c.toNat] w (.int .i64 (_root_.Go.Lib.indexByte lettersL c)) := by
  refine pu_of (Calls.mono (Tryz.strings_IndexByte (mkS lettersL) c.toNat w) ?_)
  rintro e w' ⟨rfl, rfl⟩
  refine ⟨_, rfl, ?_, Chg.refl _ _⟩
  show Value.int .i64 (_root_.Go.Lib.indexByte _ ((c.toNat : Int).toNat.toUInt8)) = _
  rw [Int.toNat_natCast, show c.toNat.toUInt8 = c from UInt8.ofNat_toNat]
  simp [mkS]
def rcut (t : List UInt8) (a i : Nat) : List UInt8 := (t.drop a).take (i - a)
def rst (t : List UInt8) (a i : Nat) : List (List UInt8) := if i ≤ t.length then runsF (rcut t a i) (t.drop i) else []
theorem rcut_nil (t : List UInt8) (i : Nat) : rcut t i i = [] := by unfold rcut; rw [Nat.sub_self]; rfl
theorem rcut_len {t : List UInt8} {a i : Nat} (h : a ≤ i) (hi : i ≤ t.length) : (rcut t a i).length = i - a := by
  unfold rcut
  rw [List.length_take, List.length_drop]
  omega
theorem rcut_snoc {t : List UInt8} {a i : Nat} {c : UInt8} (h : a ≤ i) (hc : t[i]? = some c) : rcut t a (i + 1) = rcut t a i ++ [c] := by
  unfold rcut
  rw [show i + 1 - a = (i - a) + 1 by omega, List.take_add_one, List.getElem?_drop, show a + (i - a) = i by omega, hc]
  rfl
theorem rst_at {t : List UInt8} {a i : Nat} (h : i ≤ t.length) : rst t a i = runsF (rcut t a i) (t.drop i) := if_pos h
theorem rst_over {t : List UInt8} {a i : Nat} (h : ¬ i ≤ t.length) : rst t a i = [] := if_neg h
theorem rst_in {t : List UInt8} {a i : Nat} {c : UInt8} (h : a ≤ i) (hc : t[i]? = some c) (hr : runC c = true) : rst t a i = rst t a (i + 1) := by
  have hi := (List.getElem?_eq_some_iff.1 hc).1
  rw [rst_at (by omega), rst_at (by omega), rcut_snoc h hc, List.drop_eq_getElem_cons hi, runsF, (List.getElem?_eq_some_iff.1 hc).2, if_pos hr]
def runH (t : List UInt8) (a i : Nat) : List (List UInt8) := if i > a then [rcut t a i] else []
theorem runH_eq {t : List UInt8} {a i : Nat} (h : a ≤ i) (hi : i ≤ t.length) (r : List (List UInt8)) : (if rcut t a i = [] then r else rcut t a i :: r) = runH t a i ++ r := by
  have hl := rcut_len (t := t) h hi
  unfold runH
  by_cases ha : i > a
  · rw [if_neg (fun e => by rw [e] at hl; simp at hl; omega), if_pos ha]
    rfl
  · rw [if_pos (List.length_eq_zero_iff.1 (by omega)), if_neg ha]
    rfl
theorem rst_out {t : List UInt8} {a i : Nat} {c : UInt8} (h : a ≤ i) (hc : t[i]? = some c) (hr : runC c = false) : rst t a i = runH t a i ++ rst t (i + 1) (i + 1) := by
  have hi := (List.getElem?_eq_some_iff.1 hc).1
  rw [rst_at (by omega), rst_at (by omega), rcut_nil, List.drop_eq_getElem_cons hi, runsF, (List.getElem?_eq_some_iff.1 hc).2, if_neg (by rw [hr]; decide), runH_eq h (by omega)]
theorem rst_end {t : List UInt8} {a i : Nat} (h : a ≤ i) (hi : i = t.length) : rst t a i = runH t a i ++ rst t (i + 1) (i + 1) := by
  rw [rst_at (by omega), rst_over (by omega), List.drop_of_length_le (by omega), runsF, runH_eq h (by omega)]
def runsEnd (L : List ByteArray) (J Jx : List ByteArray → Fact → Prop) (Fs : List Fact) : Prop :=
  ∃ f Fs', Fs = f :: Fs' ∧ ((∃ xs, J xs f ∧ xs = L ∧ Fs' = []) ∨ (∃ pre, Jx pre f ∧ Fs' = []))
theorem runs_it (l : Nat) (w : World) (bx : Nat) (A : Option Addr) (t : List UInt8) (c : Nat) (f0 R : Fact) (J Jx : List ByteArray → Fact → Prop) (hJ0 : J [] f0) (hJo : ∀ pre f, J pre f → f.own = true) (hRo : R.own = false) (hY : Yc Tryz.prog l J Jx R (insS ((runsA t).map mkS)))
    (hl : t.length ≤ 1000000) (hc : t.length ≤ c) (hm : Mem w (f0 :: R :: [bkF bx ty_sl_uint8 [.slice A t.length c], bsF A t])) :
    Con Tryz.prog n_knows_Runs_1 #[.func (.yield l) #[] #[], .pointer (some ⟨bx, 0, none⟩)] w [f0, bkF bx ty_sl_uint8 [.slice A t.length c]] (fun _ Fs => runsEnd ((runsA t).map mkS) J Jx Fs) := by
  have g := good_knows_Runs_1 w (Un [f0, bkF bx ty_sl_uint8 [.slice A t.length c]]) [bx]
  have hs0 : Sat (cx_knows_Runs_1 w (Un [f0, bkF bx ty_sl_uint8 [.slice A t.length c]]) [bx]) (Va.of fun _ => bx) 1 [] (f0 :: R :: [bkF bx ty_sl_uint8 [.slice A t.length c], bsF A t]) w := by
    refine hm.sat rfl (fun f hf ho k hk => ?_) ⟨Nat.le_refl 1, fun i hi => by obtain rfl : i = 0 := Nat.lt_one_iff.1 hi; rfl⟩
    simp only [List.mem_cons, List.not_mem_nil, or_false] at hf
    rcases hf with rfl | rfl | rfl | rfl
    · exact ⟨_, by simp, hk⟩
    · rw [hRo] at ho; cases ho
    · exact ⟨_, by simp, hk⟩
    · cases ho
  have hs1 := hs0.toBk 2 rfl 0 Nat.zero_lt_one rfl
  refine con_of_sx (cx := cx_knows_Runs_1 w (Un [f0, bkF bx ty_sl_uint8 [.slice A t.length c]]) [bx]) g b_knows_Runs_1 rfl rfl (β := Va.of fun _ => bx) [.c (.v (.func (.yield l) #[] #[])), .c (.p 0 0)] 1 _ _ rfl rfl hs1 ?_
  have hml := maxLen_eq
  obtain ⟨L, hLd⟩ : ∃ L, (runsA t).map mkS = L := ⟨_, rfl⟩
  rw [hLd] at hY ⊢
  refine loop_rule (ι := Nat × Nat × List ByteArray × Fact) 1 (fun j => [(0, .c (.v (.func (.yield l) #[] #[]))), (1, .c (.p 0 0)), (3, .c (.v (.int .i64 (j.1 : Int)))), (4, .c (.v (.int .i64 (j.2.1 : Int))))]) (fun _ => [⟨0, ty_sl_uint8, [.v (.slice A t.length c)]⟩]) (fun j => [j.2.2.2, R, bsF A t])
    (fun j => J j.2.2.1 j.2.2.2 ∧ L = j.2.2.1 ++ (rst t j.1 j.2.1).map mkS ∧ j.1 ≤ j.2.1 ∧ j.2.1 ≤ t.length + 1) (fun j => t.length + 1 - j.2.1) (0, 0, [], f0) ⟨hJ0, by show L = [] ++ (rst t 0 0).map mkS; rw [← hLd]; unfold rst; rw [if_pos (Nat.zero_le _), rcut_nil]; rfl, Nat.le_refl _, Nat.zero_le _⟩ (Ent.mk' ⟨rfl, rfl, rfl, rfl, trivial⟩ rfl (fun β w' hs => hs)) g ?_
  rintro ⟨a, i, pre, f⟩ ⟨hJ, hpre, hai, hi⟩
  simp only at hJ hpre hai hi
  have hfo := hJo _ _ hJ
  simp only
  refine BIf.dec (fun hle => ?_) (fun hgt => ?_)
  · have hle0 : (i : Int) ≤ (t.length : Int) := hle
    conv => whnf
    generalize hq : decide ((i : Int) < (t.length : Int)) = bq
    cases bq
    · have hni : ¬ (i : Int) < (t.length : Int) := of_decide_eq_false hq
      have hrs := rst_end (t := t) hai (by omega)
      conv => whnf
      generalize hq2 : decide ((i : Int) > (a : Int)) = bq2
      cases bq2
      · have hia : ¬ (i : Int) > (a : Int) := of_decide_eq_false hq2
        rw [runH, if_neg (show ¬ i > a by omega), List.nil_append] at hrs
        refine ⟨(((i + 1) : Nat) : Int), by rw [wrap_i64 (by omega) (by omega)]; rfl, ?_⟩
        refine ⟨(((i + 1) : Nat) : Int), by rw [wrap_i64 (by omega) (by omega)]; rfl, ?_⟩
        rw [hrs] at hpre
        exact ⟨(i + 1, i + 1, pre, f), ⟨hJ, hpre, Nat.le_refl _, by show i + 1 ≤ _; omega⟩, by show t.length + 1 - (i + 1) < t.length + 1 - i; omega, Ent.mk' ⟨rfl, rfl, rfl, rfl, trivial⟩ rfl (fun β w' hs => hs)⟩
      · have hia : (i : Int) > (a : Int) := of_decide_eq_true hq2
        rw [runH, if_pos (show i > a by omega)] at hrs
        rw [hrs, List.map_append] at hpre
        refine ⟨c, i, a, i - a, c - a, _, rfl, rfl, rfl, by omega, by omega, by omega, rfl, rfl, rfl, ?_⟩
        refine ⟨rcut t a i, fun β w' hs => ?_, ?_⟩
        · have h := Bs.cutB (hs.get 2 rfl : Bs w' A t) (i := a) (j := i) hc hai (by omega) rfl
          have h2 : Rd 1 (cutA A c a 1) (rcut t a i).length ((rcut t a i).map byte) w' := h
          rw [rcut_len hai (by omega)] at h2
          exact h2
        have hx : L[pre.length]? = some (mkS (rcut t a i)) := by
          rw [hpre, List.getElem?_append_right (Nat.le_refl _), Nat.sub_self]
          rfl
        refine yield_ro (X := noF) (x := mkS (rcut t a i)) hY 0 1 rfl hJ hfo rfl hRo (by decide) (fun β => ⟨rfl, rfl, hx⟩) rfl (fun β w _ => ⟨trivial, fun k hk => hk.elim, fun k _ h => h.elim⟩) ?_ ?_
        · intro f2 hfo2 hJ2
          refine ⟨(((i + 1) : Nat) : Int), by rw [wrap_i64 (by omega) (by omega)]; rfl, ?_⟩
          refine ⟨(((i + 1) : Nat) : Int), by rw [wrap_i64 (by omega) (by omega)]; rfl, ?_⟩
          exact ⟨(i + 1, i + 1, pre ++ [mkS (rcut t a i)], f2), ⟨hJ2, by show L = (pre ++ [mkS (rcut t a i)]) ++ _; rw [hpre, List.append_assoc]; rfl, Nat.le_refl _, by show i + 1 ≤ _; omega⟩, by show t.length + 1 - (i + 1) < t.length + 1 - i; omega, Ent.mk' ⟨rfl, rfl, rfl, rfl, trivial⟩ rfl (fun β w' hs => hs)⟩
        · intro f2 hfo2 hJ2 β w' hs
          exact (hs.keepB (List.nil_sublist _)).fin [0] ⟨f2, _, rfl, .inr ⟨_, hJ2, rfl⟩⟩ rfl rfl rfl ⟨hfo2, trivial⟩
    · have hlt : (i : Int) < (t.length : Int) := of_decide_eq_true hq
      obtain ⟨y, hy, -⟩ := at_lt (show i < t.length by omega)
      obtain ⟨ad, hA⟩ : ∃ ad, A = some ad := by
        exact Bs.addr (show Bs w A t from hm.fact (bsF A t) (by simp)) (by omega)
      refine ⟨ad, i, hA, rfl, by omega, ?_⟩
      refine ⟨byte y, fun β w' hs => Rd.cell1 (show Rd 1 (some ad) t.length (t.map byte) w' from hA ▸ hs.get 2 rfl) (by rw [List.getElem?_map, hy]; rfl), ?_⟩
      refine call_pu (fun β w' hs => indexR_c w' y) ?_
      conv => whnf
      generalize hq3 : decide ((0 : Int) ≤ _root_.Go.Lib.indexByte lettersL y) = b3
      rw [runC_ix] at hq3
      cases b3
      · have hrs := rst_out (t := t) hai hy hq3
        conv => whnf
        generalize hq2 : decide ((i : Int) > (a : Int)) = bq2
        cases bq2
        · have hia : ¬ (i : Int) > (a : Int) := of_decide_eq_false hq2
          rw [runH, if_neg (show ¬ i > a by omega), List.nil_append] at hrs
          refine ⟨(((i + 1) : Nat) : Int), by rw [wrap_i64 (by omega) (by omega)]; rfl, ?_⟩
          refine ⟨(((i + 1) : Nat) : Int), by rw [wrap_i64 (by omega) (by omega)]; rfl, ?_⟩
          rw [hrs] at hpre
          exact ⟨(i + 1, i + 1, pre, f), ⟨hJ, hpre, Nat.le_refl _, by show i + 1 ≤ _; omega⟩, by show t.length + 1 - (i + 1) < t.length + 1 - i; omega, Ent.mk' ⟨rfl, rfl, rfl, rfl, trivial⟩ rfl (fun β w' hs => hs)⟩
        · have hia : (i : Int) > (a : Int) := of_decide_eq_true hq2
          rw [runH, if_pos (show i > a by omega)] at hrs
          rw [hrs, List.map_append] at hpre
          refine ⟨c, i, a, i - a, c - a, _, rfl, rfl, rfl, by omega, by omega, by omega, rfl, rfl, rfl, ?_⟩
          refine ⟨rcut t a i, fun β w' hs => ?_, ?_⟩
          · have h := Bs.cutB (hs.get 2 rfl : Bs w' A t) (i := a) (j := i) hc hai (by omega) rfl
            have h2 : Rd 1 (cutA A c a 1) (rcut t a i).length ((rcut t a i).map byte) w' := h
            rw [rcut_len hai (by omega)] at h2
            exact h2
          have hx : L[pre.length]? = some (mkS (rcut t a i)) := by
            rw [hpre, List.getElem?_append_right (Nat.le_refl _), Nat.sub_self]
            rfl
          refine yield_ro (X := noF) (x := mkS (rcut t a i)) hY 0 1 rfl hJ hfo rfl hRo (by decide) (fun β => ⟨rfl, rfl, hx⟩) rfl (fun β w _ => ⟨trivial, fun k hk => hk.elim, fun k _ h => h.elim⟩) ?_ ?_
          · intro f2 hfo2 hJ2
            refine ⟨(((i + 1) : Nat) : Int), by rw [wrap_i64 (by omega) (by omega)]; rfl, ?_⟩
            refine ⟨(((i + 1) : Nat) : Int), by rw [wrap_i64 (by omega) (by omega)]; rfl, ?_⟩
            exact ⟨(i + 1, i + 1, pre ++ [mkS (rcut t a i)], f2), ⟨hJ2, by show L = (pre ++ [mkS (rcut t a i)]) ++ _; rw [hpre, List.append_assoc]; rfl, Nat.le_refl _, by show i + 1 ≤ _; omega⟩, by show t.length + 1 - (i + 1) < t.length + 1 - i; omega, Ent.mk' ⟨rfl, rfl, rfl, rfl, trivial⟩ rfl (fun β w' hs => hs)⟩
          · intro f2 hfo2 hJ2 β w' hs
            exact (hs.keepB (List.nil_sublist _)).fin [0] ⟨f2, _, rfl, .inr ⟨_, hJ2, rfl⟩⟩ rfl rfl rfl ⟨hfo2, trivial⟩
      · have hrs := rst_in (t := t) hai hy hq3
        rw [hrs] at hpre
        refine ⟨(((i + 1) : Nat) : Int), by rw [wrap_i64 (by omega) (by omega)]; rfl, ?_⟩
        exact ⟨(a, i + 1, pre, f), ⟨hJ, hpre, by show a ≤ i + 1; omega, by show i + 1 ≤ _; omega⟩, by show t.length + 1 - (i + 1) < t.length + 1 - i; omega, Ent.mk' ⟨rfl, rfl, rfl, rfl, trivial⟩ rfl (fun β w' hs => hs)⟩
  · have hgt0 : ¬ (i : Int) ≤ (t.length : Int) := hgt
    rw [rst_over (by omega), List.map_nil, List.append_nil] at hpre
    intro β w' hs
    exact (hs.keepB (List.nil_sublist _)).fin [0] ⟨f, _, rfl, .inl ⟨pre, hJ, hpre.symm, rfl⟩⟩ rfl rfl rfl ⟨hfo, trivial⟩
theorem Runs_c (w : World) (A : Option Addr) (n c : Nat) : Con Tryz.prog n_knows_Runs #[.slice A n c] w [] (fun v Fs => ∃ bx, v = .func (.func n_knows_Runs_1) #[] #[.pointer (some ⟨bx, 0, none⟩)] ∧ Fs = [bkF bx ty_sl_uint8 [.slice A n c]]) := by
  refine con_of_sx (cx := cx_knows_Runs w (Un [])) (good_knows_Runs w (Un [])) b_knows_Runs rfl rfl (β := Va.z) [.c (.v (.slice A n c))] 0 [] [] rfl rfl (Sat.start rfl) ?_
  intro β w' hs
  exact hs.ofBk.fin [0] ⟨β 0, rfl, rfl⟩
def readL (s : List UInt8) : List (List UInt8) := (decP (s ++ eqs ((4 - s.length % 4) % 4))).toList ++ ((decU s).toList ++ (unhexA s).toList)
def insRd (L : List (List UInt8)) (pre : List (List UInt8)) (x : List UInt8) (args : Array Value) (X : Fact) : Prop := ∃ A c, args = #[.slice A x.length c] ∧ X = browF ty_uint8 A x c ∧ x.length ≤ c ∧ L[pre.length]? = some x
def readEnd (L : List (List UInt8)) (J Jx : List (List UInt8) → Fact → Prop) (Fs : List Fact) : Prop :=
  ∃ f Fs', Fs = f :: Fs' ∧ ((∃ xs, J xs f ∧ xs = L ∧ Fs' = []) ∨ (∃ pre, Jx pre f ∧ Fs' = []))
theorem read_it (l : Nat) (w : World) (bx : Nat) (t : List UInt8) (f0 R : Fact) (J Jx : List (List UInt8) → Fact → Prop) (hJ0 : J [] f0) (hJo : ∀ pre f, J pre f → f.own = true) (hRo : R.own = false) (hY : Yc Tryz.prog l J Jx R (insRd (readL t)))
    (hl : t.length ≤ 900000) (hm : Mem w (f0 :: R :: [bkF bx ty_string [.string (mkS t)]])) :
    Con Tryz.prog n_knows_read_1 #[.func (.yield l) #[] #[], .pointer (some ⟨bx, 0, none⟩)] w [f0, bkF bx ty_string [.string (mkS t)]] (fun _ Fs => readEnd (readL t) J Jx Fs) := by
  have g := good_knows_read_1 w (Un [f0, bkF bx ty_string [.string (mkS t)]]) [bx]
  have hs0 : Sat (cx_knows_read_1 w (Un [f0, bkF bx ty_string [.string (mkS t)]]) [bx]) (Va.of fun _ => bx) 1 [] (f0 :: R :: [bkF bx ty_string [.string (mkS t)]]) w := by
    refine hm.sat rfl (fun f hf ho k hk => ?_) ⟨Nat.le_refl 1, fun i hi => by obtain rfl : i = 0 := Nat.lt_one_iff.1 hi; rfl⟩
    simp only [List.mem_cons, List.not_mem_nil, or_false] at hf
    rcases hf with rfl | rfl | rfl
    · exact ⟨_, by simp, hk⟩
    · rw [hRo] at ho; cases ho
    · exact ⟨_, by simp, hk⟩
  have hs1 := hs0.toBk 2 rfl 0 Nat.zero_lt_one rfl
  have hml := maxLen_eq
  have htz := mkS_sz t
  refine con_of_sx (cx := cx_knows_read_1 w (Un [f0, bkF bx ty_string [.string (mkS t)]]) [bx]) g b_knows_read_1 rfl rfl (β := Va.of fun _ => bx) [.c (.v (.func (.yield l) #[] #[])), .c (.p 0 0)] 1 _ _ rfl rfl hs1 ?_
  refine draw_rule g p_knows_read_1_0 (by kernel_rfl) [⟨0, ty_string, [.v (.string (mkS t))]⟩] [] (Sub.of (List.Sublist.refl _) (List.nil_sublist _)) ?_
  obtain ⟨k, hk⟩ : ∃ k, k = (4 - t.length % 4) % 4 := ⟨_, rfl⟩
  refine ⟨by first | decide | omega, ?_⟩
  refine ⟨(((mkS t).size % 4 : Nat) : Int), Int.ofNat_tmod _ _, ?_⟩
  refine ⟨(((4 - (mkS t).size % 4) : Nat) : Int), by rw [wrap_i64 (by omega) (by omega)]; omega, ?_⟩
  refine ⟨by first | decide | omega, ?_⟩
  refine ⟨(k : Int), by rw [hk, htz]; exact Int.ofNat_tmod _ _, ?_⟩
  refine call_pu (fun β w' hs => repeat_c w' k (by omega)) ?_
  have hkz := mkS_sz (eqs k)
  have hkl : (eqs k).length = k := by simp [eqs]
  have hcat : mkS t ++ mkS (eqs k) = mkS (t ++ eqs k) := by
    apply ByteArray.ext
    simp [mkS]
  refine ⟨subPerm [], ?_⟩
  refine ⟨by first | decide | omega, ?_⟩
  obtain ⟨L, hLd⟩ : ∃ L, readL t = L := ⟨_, rfl⟩
  have hL3 := hLd
  unfold readL at hL3
  rw [← hk] at hL3
  rw [hLd] at hY ⊢
  refine call_con [] (fun β w' hs => by
    rw [hcat]
    exact Decode_c w' (t ++ eqs k) (by rw [List.length_append]; omega)) ?_
  rintro v Fs ⟨A, q, c, e, rfl, hle, hcap, rfl⟩
  obtain ⟨o1, ho1⟩ : ∃ o1, decP (t ++ eqs k) = o1 := ⟨_, rfl⟩
  obtain ⟨o2, ho2⟩ : ∃ o2, decU t = o2 := ⟨_, rfl⟩
  obtain ⟨o3, ho3⟩ : ∃ o3, unhexA t = o3 := ⟨_, rfl⟩
  rw [ho1] at hle
  rw [ho1, ho2, ho3] at hL3
  obtain ⟨pre, hpe⟩ : ∃ pre : List (List UInt8), pre = [] := ⟨_, rfl⟩
  rw [← hpe] at hJ0
  have hpre : L = pre ++ (o1.toList ++ (o2.toList ++ o3.toList)) := by rw [hpe]; exact hL3.symm
  have hJ := hJ0
  have hfo := hJo _ _ hJ
  rcases hle with ⟨rfl, rfl⟩ | ⟨hne, rfl⟩
  · have hx : L[pre.length]? = some q := by
      rw [hpre, List.getElem?_append_right (Nat.le_refl _), Nat.sub_self]
      rfl
    refine yield_own hY (x := q) 1 2 0 rfl hJ hfo rfl rfl rfl (by decide) (by decide) (by decide) (fun β => ⟨A, c, rfl, rfl, hcap, hx⟩) ?_ ?_
    · intro f hfo hJ
      have hpre : L = (pre ++ [q]) ++ (o2.toList ++ o3.toList) := by rw [hpre]; simp
      generalize pre ++ [q] = pre at hJ hpre
      refine call_con [] (fun β w' hs => DecodeURL_c w' t (by omega)) ?_
      rintro v Fs ⟨A, q, c, e, rfl, hle, hcap, rfl⟩
      rw [ho2] at hle
      rcases hle with ⟨rfl, rfl⟩ | ⟨hne, rfl⟩
      · have hx : L[pre.length]? = some q := by
          rw [hpre, List.getElem?_append_right (Nat.le_refl _), Nat.sub_self]
          rfl
        refine yield_own hY (x := q) 1 2 0 rfl hJ hfo rfl rfl rfl (by decide) (by decide) (by decide) (fun β => ⟨A, c, rfl, rfl, hcap, hx⟩) ?_ ?_
        · intro f hfo hJ
          have hpre : L = (pre ++ [q]) ++ o3.toList := by rw [hpre]; simp
          generalize pre ++ [q] = pre at hJ hpre
          refine call_con [] (fun β w' hs => Unhex_c w' t (by omega)) ?_
          rintro v Fs ⟨A, q, c, e, rfl, hle, hcap, rfl⟩
          rw [ho3] at hle
          rcases hle with ⟨rfl, rfl⟩ | ⟨hne, rfl⟩
          · have hx : L[pre.length]? = some q := by
              rw [hpre, List.getElem?_append_right (Nat.le_refl _), Nat.sub_self]
              rfl
            refine yield_own hY (x := q) 1 2 0 rfl hJ hfo rfl rfl rfl (by decide) (by decide) (by decide) (fun β => ⟨A, c, rfl, rfl, hcap, hx⟩) ?_ ?_
            · intro f hfo hJ
              have hpre : L = pre ++ [q] := hpre
              intro β w' hs
              exact (hs.keepB (List.nil_sublist _)).fin [0] ⟨f, _, rfl, .inl ⟨pre ++ [q], hJ, hpre.symm, rfl⟩⟩ rfl rfl rfl ⟨hfo, trivial⟩
            · intro f2 hfo2 hJ2 β w' hs
              exact (hs.keepB (List.nil_sublist _)).fin [0] ⟨f2, _, rfl, .inr ⟨_, hJ2, rfl⟩⟩ rfl rfl rfl ⟨hfo2, trivial⟩
          · refine BIf.dec (fun h => absurd h (show ¬ (e = 0) by omega)) (fun _ => ?_)
            have hpre : L = pre := by rw [hpre]; exact List.append_nil _
            intro β w' hs
            exact (hs.keepB (List.nil_sublist _)).fin [1] ⟨_, _, rfl, .inl ⟨pre, hJ, hpre.symm, rfl⟩⟩ rfl rfl rfl ⟨hfo, trivial⟩
        · intro f2 hfo2 hJ2 β w' hs
          exact (hs.keepB (List.nil_sublist _)).fin [0] ⟨f2, _, rfl, .inr ⟨_, hJ2, rfl⟩⟩ rfl rfl rfl ⟨hfo2, trivial⟩
      · refine BIf.dec (fun h => absurd h (show ¬ (e = 0) by omega)) (fun _ => ?_)
        have hpre : L = pre ++ o3.toList := hpre
        refine call_con [] (fun β w' hs => Unhex_c w' t (by omega)) ?_
        rintro v Fs ⟨A, q, c, e, rfl, hle, hcap, rfl⟩
        rw [ho3] at hle
        rcases hle with ⟨rfl, rfl⟩ | ⟨hne, rfl⟩
        · have hx : L[pre.length]? = some q := by
            rw [hpre, List.getElem?_append_right (Nat.le_refl _), Nat.sub_self]
            rfl
          refine yield_own hY (x := q) 2 3 0 rfl hJ hfo rfl rfl rfl (by decide) (by decide) (by decide) (fun β => ⟨A, c, rfl, rfl, hcap, hx⟩) ?_ ?_
          · intro f hfo hJ
            have hpre : L = pre ++ [q] := hpre
            intro β w' hs
            exact (hs.keepB (List.nil_sublist _)).fin [0] ⟨f, _, rfl, .inl ⟨pre ++ [q], hJ, hpre.symm, rfl⟩⟩ rfl rfl rfl ⟨hfo, trivial⟩
          · intro f2 hfo2 hJ2 β w' hs
            exact (hs.keepB (List.nil_sublist _)).fin [0] ⟨f2, _, rfl, .inr ⟨_, hJ2, rfl⟩⟩ rfl rfl rfl ⟨hfo2, trivial⟩
        · refine BIf.dec (fun h => absurd h (show ¬ (e = 0) by omega)) (fun _ => ?_)
          have hpre : L = pre := by rw [hpre]; exact List.append_nil _
          intro β w' hs
          exact (hs.keepB (List.nil_sublist _)).fin [2] ⟨_, _, rfl, .inl ⟨pre, hJ, hpre.symm, rfl⟩⟩ rfl rfl rfl ⟨hfo, trivial⟩
    · intro f2 hfo2 hJ2 β w' hs
      exact (hs.keepB (List.nil_sublist _)).fin [0] ⟨f2, _, rfl, .inr ⟨_, hJ2, rfl⟩⟩ rfl rfl rfl ⟨hfo2, trivial⟩
  · refine BIf.dec (fun h => absurd h (show ¬ (e = 0) by omega)) (fun _ => ?_)
    have hpre : L = pre ++ (o2.toList ++ o3.toList) := hpre
    refine call_con [] (fun β w' hs => DecodeURL_c w' t (by omega)) ?_
    rintro v Fs ⟨A, q, c, e, rfl, hle, hcap, rfl⟩
    rw [ho2] at hle
    rcases hle with ⟨rfl, rfl⟩ | ⟨hne, rfl⟩
    · have hx : L[pre.length]? = some q := by
        rw [hpre, List.getElem?_append_right (Nat.le_refl _), Nat.sub_self]
        rfl
      refine yield_own hY (x := q) 2 3 0 rfl hJ hfo rfl rfl rfl (by decide) (by decide) (by decide) (fun β => ⟨A, c, rfl, rfl, hcap, hx⟩) ?_ ?_
      · intro f hfo hJ
        have hpre : L = (pre ++ [q]) ++ o3.toList := by rw [hpre]; simp
        generalize pre ++ [q] = pre at hJ hpre
        refine call_con [] (fun β w' hs => Unhex_c w' t (by omega)) ?_
        rintro v Fs ⟨A, q, c, e, rfl, hle, hcap, rfl⟩
        rw [ho3] at hle
        rcases hle with ⟨rfl, rfl⟩ | ⟨hne, rfl⟩
        · have hx : L[pre.length]? = some q := by
            rw [hpre, List.getElem?_append_right (Nat.le_refl _), Nat.sub_self]
            rfl
          refine yield_own hY (x := q) 1 3 0 rfl hJ hfo rfl rfl rfl (by decide) (by decide) (by decide) (fun β => ⟨A, c, rfl, rfl, hcap, hx⟩) ?_ ?_
          · intro f hfo hJ
            have hpre : L = pre ++ [q] := hpre
            intro β w' hs
            exact (hs.keepB (List.nil_sublist _)).fin [0] ⟨f, _, rfl, .inl ⟨pre ++ [q], hJ, hpre.symm, rfl⟩⟩ rfl rfl rfl ⟨hfo, trivial⟩
          · intro f2 hfo2 hJ2 β w' hs
            exact (hs.keepB (List.nil_sublist _)).fin [0] ⟨f2, _, rfl, .inr ⟨_, hJ2, rfl⟩⟩ rfl rfl rfl ⟨hfo2, trivial⟩
        · refine BIf.dec (fun h => absurd h (show ¬ (e = 0) by omega)) (fun _ => ?_)
          have hpre : L = pre := by rw [hpre]; exact List.append_nil _
          intro β w' hs
          exact (hs.keepB (List.nil_sublist _)).fin [1] ⟨_, _, rfl, .inl ⟨pre, hJ, hpre.symm, rfl⟩⟩ rfl rfl rfl ⟨hfo, trivial⟩
      · intro f2 hfo2 hJ2 β w' hs
        exact (hs.keepB (List.nil_sublist _)).fin [0] ⟨f2, _, rfl, .inr ⟨_, hJ2, rfl⟩⟩ rfl rfl rfl ⟨hfo2, trivial⟩
    · refine BIf.dec (fun h => absurd h (show ¬ (e = 0) by omega)) (fun _ => ?_)
      have hpre : L = pre ++ o3.toList := hpre
      refine call_con [] (fun β w' hs => Unhex_c w' t (by omega)) ?_
      rintro v Fs ⟨A, q, c, e, rfl, hle, hcap, rfl⟩
      rw [ho3] at hle
      rcases hle with ⟨rfl, rfl⟩ | ⟨hne, rfl⟩
      · have hx : L[pre.length]? = some q := by
          rw [hpre, List.getElem?_append_right (Nat.le_refl _), Nat.sub_self]
          rfl
        refine yield_own hY (x := q) 3 4 0 rfl hJ hfo rfl rfl rfl (by decide) (by decide) (by decide) (fun β => ⟨A, c, rfl, rfl, hcap, hx⟩) ?_ ?_
        · intro f hfo hJ
          have hpre : L = pre ++ [q] := hpre
          intro β w' hs
          exact (hs.keepB (List.nil_sublist _)).fin [0] ⟨f, _, rfl, .inl ⟨pre ++ [q], hJ, hpre.symm, rfl⟩⟩ rfl rfl rfl ⟨hfo, trivial⟩
        · intro f2 hfo2 hJ2 β w' hs
          exact (hs.keepB (List.nil_sublist _)).fin [0] ⟨f2, _, rfl, .inr ⟨_, hJ2, rfl⟩⟩ rfl rfl rfl ⟨hfo2, trivial⟩
      · refine BIf.dec (fun h => absurd h (show ¬ (e = 0) by omega)) (fun _ => ?_)
        have hpre : L = pre := by rw [hpre]; exact List.append_nil _
        intro β w' hs
        exact (hs.keepB (List.nil_sublist _)).fin [3] ⟨_, _, rfl, .inl ⟨pre, hJ, hpre.symm, rfl⟩⟩ rfl rfl rfl ⟨hfo, trivial⟩
theorem read_c (w : World) (s : ByteArray) : Con Tryz.prog n_knows_read #[.string s] w [] (fun v Fs => ∃ bx, v = .func (.func n_knows_read_1) #[] #[.pointer (some ⟨bx, 0, none⟩)] ∧ Fs = [bkF bx ty_string [.string s]]) := by
  refine con_of_sx (cx := cx_knows_read w (Un [])) (good_knows_read w (Un [])) b_knows_read rfl rfl (β := Va.z) [.c (.v (.string s))] 0 [] [] rfl rfl (Sat.start rfl) ?_
  intro β w' hs
  exact hs.ofBk.fin [0] ⟨β 0, rfl, rfl⟩
end Go.Proofs.YtoifclfanabalaaGreatDoor.Sx

namespace Go.Proofs.YtoifclfanabalaaGreatDoor.Sx
open Go
open Go.ChangeMaps (setBlock)
variable {kk : IntKind}
def itIP (kk : IntKind) (b r : Nat) (l ss : MLI) (cur : Option (Int × Value)) (w : World) : Prop :=
  ∃ (es ds : List MEI) (k since c0 : Nat) (seen : Array Nat), w.heap[b]? = some (.map (es.map (MEI.ent kk)).toArray k) ∧ MapIOk es k l ∧ w.heap[r]? = some (.mapIter (some b) since seen c0) ∧ r ≠ b ∧ (∀ e ∈ es, e.2.2 < since) ∧ since ≤ c0 ∧ since ≤ k ∧
    ds.map MEI.cut = ss ∧ seen.toList = ds.map (·.2.2) ∧ (∀ d ∈ ds, d ∈ es) ∧ (ds.map (·.2.2)).Nodup ∧
    ∀ x, cur = some x → ∃ (d : MEI) (s0 : Array Nat), d ∈ es ∧ d.cut = x ∧ seen = s0.push d.2.2 ∧ c0 = k
def itIF (kk : IntKind) (b r : Nat) (l ss : MLI) (cur : Option (Int × Value)) : Fact where
  own := true
  D := fun g => g = b ∨ g = r
  p := itIP kk b r l ss cur
  st := fun w w' hs ⟨es, ds, k, since, c0, seen, h1, h2, h3, h4⟩ => ⟨es, ds, k, since, c0, seen, by rw [hs b (.inl rfl)]; exact h1, h2, by rw [hs r (.inr rfl)]; exact h3, h4⟩
theorem born_inj {es : List MEI} {k : Nat} {l : MLI} (h : MapIOk es k l) {d e : MEI} (hd : d ∈ es) (he : e ∈ es) (q : d.2.2 = e.2.2) : d = e := by
  have hp := List.pairwise_map.1 h.inc
  clear h
  induction es with
  | nil => cases hd
  | cons a r ih =>
    obtain ⟨h1, h2⟩ := List.pairwise_cons.1 hp
    rcases List.mem_cons.1 hd with rfl | hd'
    · rcases List.mem_cons.1 he with rfl | he'
      · rfl
      · have := h1 e he'
        omega
    · rcases List.mem_cons.1 he with rfl | he'
      · have := h1 d hd'
        omega
      · exact ih hd' he' h2
theorem born_nodup {es : List MEI} {k : Nat} {l : MLI} (h : MapIOk es k l) : (es.map (·.2.2)).Nodup := h.inc.imp fun h => Nat.ne_of_lt h
theorem nodup_len : ∀ {xs ys : List Nat}, xs.Nodup → (∀ x ∈ xs, x ∈ ys) → xs.length ≤ ys.length
  | [], _, _, _ => Nat.zero_le _
  | x :: r, ys, hn, hs => by
    obtain ⟨h1, h2⟩ := List.nodup_cons.1 hn
    have hx := hs x (by simp)
    have ih := nodup_len (xs := r) (ys := ys.erase x) h2 fun y hy => (List.mem_erase_of_ne (fun q : y = x => h1 (q ▸ hy))).2 (hs y (by simp [hy]))
    have hl := List.length_erase_of_mem hx
    have hp := List.length_pos_of_mem hx
    simp only [List.length_cons]
    omega
def nxtV (kk : IntKind) : Option (Int × Value) → Value
  | none => .tuple #[.bool false]
  | some x => .tuple #[.bool true, .int kk x.1, x.2]
def NxtI (l ss : MLI) : Option (Int × Value) → Prop
  | none => ss.Perm l
  | some x => x ∈ l ∧ ss.length < l.length
def nxtF (kk : IntKind) (b r : Nat) (l ss : MLI) (cur : Option (Int × Value)) : Option (Int × Value) → Fact
  | none => itIF kk b r l ss cur
  | some x => itIF kk b r l (ss ++ [x]) (some x)
theorem perm_of {es ds : List MEI} (h1 : (es.map (·.2.2)).Nodup) (h2 : (ds.map (·.2.2)).Nodup) (hs : ∀ d ∈ ds, d ∈ es) (ha : ∀ e ∈ es, e ∈ ds) : ds.Perm es := by
  have n1 : es.Nodup := (List.pairwise_map.1 h1).imp fun {a b} q e => q (by rw [e])
  have n2 : ds.Nodup := (List.pairwise_map.1 h2).imp fun {a b} q e => q (by rw [e])
  exact (List.perm_ext_iff_of_nodup n2 n1).2 fun x => ⟨hs x, ha x⟩
section
variable {cx : Cx} {β : Va} {n : Nat} {H : List Bk} {F : List Fact} {w : World}
theorem Sat.rangeI (h : Sat cx β n H F w) (g : Good cx) (j : Nat) {b : Nat} {l : MLI} (hj : nth F j = some (mapIF kk b l)) {t kt et : TypeId} {i : TI} (hi : lk cx.tt t = some i := by rfl) (hd : i.desc = .map kt et := by rfl) :
    ∃ r w', (Instr.range t (.map (some b))).run cx.P w = .ok (.pointer (some ⟨r, 0, none⟩)) w' ∧ Sat cx β n H (putAt F j (itIF kk b r l [] none)) w' := by
  obtain ⟨es, k, hb, hm⟩ := h.get j hj
  have hlt : b < w.heap.size := (Array.getElem?_eq_some_iff.1 hb).1
  refine ⟨w.heap.size, _, run_range_map w t kt et b _ k ((g.ti hi).real (d := .map _ _) hd rfl) hb, h.upd hj rfl ((Chg.alloc w _).mono fun _ _ h => h.elim) ⟨es, [], k, k, k, #[], ?_, hm, heap_alloc_new w _, by omega, hm.lt, Nat.le_refl _, Nat.le_refl _, rfl, rfl, (fun d h => by cases h), List.nodup_nil, fun x h => by cases h⟩ (fun q hq => ?_)⟩
  · exact ((MapKept.heap_alloc w _).2 b hlt).trans hb
  · rcases hq with rfl | rfl
    · exact .inl rfl
    · exact .inr ⟨Nat.le_refl _, by simp⟩
theorem Sat.nextI (h : Sat cx β n H F w) (j : Nat) {b r : Nat} {l ss : MLI} {cur : Option (Int × Value)} (hj : nth F j = some (itIF kk b r l ss cur)) (ty : TypeId) :
    ∃ (o : {o : Option (Int × Value) // NxtI l ss o}) (w' : World), (Instr.next (.pointer (some ⟨r, 0, none⟩)) false ty).run cx.P w = .ok (nxtV kk o.1) w' ∧ Sat cx β n H (putAt F j (nxtF kk b r l ss cur o.1)) w' := by
  have hp := h.get j hj
  obtain ⟨es, ds, k, since, c0, seen, hb, hm, hr, hne, hold, hsc, hsk, hss, hseen, hsub, hnd, hcur⟩ := hp
  have hold' : ∀ x ∈ (es.map (MEI.ent kk)).toArray.toList, x.born < since := by
    intro x hx
    rw [List.toList_toArray] at hx
    obtain ⟨e, he, rfl⟩ := List.mem_map.1 hx
    exact hold e he
  have hin : ∀ e ∈ es, seen.contains e.2.2 = true → e ∈ ds := by
    intro e he q
    have q2 : e.2.2 ∈ ds.map (·.2.2) := by rw [← hseen]; simpa using q
    obtain ⟨d, hd, e2⟩ := List.mem_map.1 q2
    rwa [← born_inj hm (hsub d hd) he e2]
  rcases run_next_at (P := cx.P) w ty r b since c0 seen _ k hr hb hold' hsc with ⟨h0, hrun⟩ | ⟨e, he, w1, hal, hrun⟩
  · have hall : ∀ e ∈ es, e ∈ ds := by
      intro e he
      refine hin e he ?_
      cases q : seen.contains e.2.2 with
      | true => rfl
      | false =>
        have : (MEI.ent kk e) ∈ leftOf (es.map (MEI.ent kk)).toArray seen := by
          unfold leftOf
          rw [Array.mem_filter]
          exact ⟨by rw [List.mem_toArray]; exact List.mem_map.2 ⟨e, he, rfl⟩, by show (!seen.contains e.2.2) = true; rw [q]; rfl⟩
        have e0 := Array.eq_empty_of_size_eq_zero h0
        rw [e0] at this
        simp at this
    have hperm : ss.Perm l := by
      rw [← hss, ← hm.cut]
      exact (perm_of (born_nodup hm) hnd hsub hall).map _
    refine ⟨⟨none, hperm⟩, w, hrun, ?_⟩
    show Sat cx β n H (putAt F j (itIF kk b r l ss cur)) w
    exact h.upd hj rfl (Chg.refl _ _) (h.get j hj) (fun q hq => .inl hq)
  · unfold leftOf at he
    rw [Array.mem_toList_iff, Array.mem_filter] at he
    obtain ⟨he1, he2⟩ := he
    obtain ⟨d, hd, rfl⟩ : ∃ d ∈ es, MEI.ent kk d = e := by simpa using he1
    have hns : ¬ seen.contains d.2.2 = true := by
      intro q
      have q2 : (!seen.contains d.2.2) = true := he2
      rw [q] at q2
      cases q2
    have hnd2 : d ∉ ds := fun q => hns (by
      have : d.2.2 ∈ seen.toList := by rw [hseen]; exact List.mem_map.2 ⟨d, q, rfl⟩
      simpa using this)
    have hlen : ss.length < l.length := by
      have hx := nodup_len (xs := d.2.2 :: ds.map (·.2.2)) (ys := es.map (·.2.2)) (List.nodup_cons.2 ⟨fun q => ?_, hnd⟩) (fun x hx => ?_)
      · rw [← hss, ← hm.cut, List.length_map, List.length_map]
        simp only [List.length_cons, List.length_map] at hx
        omega
      · obtain ⟨d', hd', e2⟩ := List.mem_map.1 q
        rw [born_inj hm (hsub d' hd') hd e2] at hd'
        exact hnd2 hd'
      · rcases List.mem_cons.1 hx with rfl | hx
        · exact List.mem_map.2 ⟨d, hd, rfl⟩
        · obtain ⟨d', hd', rfl⟩ := List.mem_map.1 hx
          exact List.mem_map.2 ⟨d', hsub d' hd', rfl⟩
    have hmem : d.cut ∈ l := by rw [← hm.cut]; exact List.mem_map.2 ⟨d, hd, rfl⟩
    refine ⟨⟨some d.cut, hmem, hlen⟩, _, hrun, ?_⟩
    have hr1 : w1.heap[r]? = some (.mapIter (some b) since seen c0) := by rcases hal with rfl | rfl <;> exact hr
    have hb1 : w1.heap[b]? = some (.map (es.map (MEI.ent kk)).toArray k) := by rcases hal with rfl | rfl <;> exact hb
    have hset := MapKept.heap_set (o' := .mapIter (some b) since (seen.push d.2.2) k) hr1
    refine h.upd hj rfl ?_ ?_ (fun q hq => .inl hq)
    · rcases hal with rfl | rfl <;> exact ⟨rfl, rfl, rfl, by simp [setBlock], fun i _ hi => hset.2 i (fun e1 => hi (.inr e1))⟩
    · refine ⟨es, ds ++ [d], k, since, k, seen.push d.2.2, (hset.2 b (fun e1 => hne e1.symm)).trans hb1, hm, hset.1, hne, hold, hsk, hsk, ?_, ?_, ?_, ?_, ?_⟩
      · rw [List.map_append, hss]
        rfl
      · rw [Array.toList_push, hseen, List.map_append]
        rfl
      · intro x hx
        rcases List.mem_append.1 hx with hx | hx
        · exact hsub x hx
        · obtain rfl := List.mem_singleton.1 hx
          exact hd
      · rw [List.map_append]
        refine List.nodup_append.2 ⟨hnd, by simp, fun x hx y hy q => ?_⟩
        simp only [List.map_cons, List.map_nil, List.mem_singleton] at hy
        subst hy q
        rw [← hseen] at hx
        exact hns (by simpa using hx)
      · intro x hx
        cases hx
        exact ⟨d, seen, hd, rfl, rfl, rfl⟩
theorem Sat.entryI (h : Sat cx β n H F w) (j : Nat) {b r : Nat} {l ss : MLI} {x : Int × Value} (hj : nth F j = some (itIF kk b r l ss (some x))) :
    (Instr.entry (.pointer (some ⟨r, 0, none⟩))).run cx.P w = .ok (.tuple #[.int kk x.1, x.2]) w := by
  obtain ⟨es, ds, k, since, c0, seen, hb, hm, hr, hne, hold, hsc, hsk, hss, hseen, hsub, hnd, hcur⟩ := h.get j hj
  obtain ⟨d, s0, hd, rfl, rfl, rfl⟩ := hcur x rfl
  have hn : ((es.map (MEI.ent kk)).toArray.toList.map (·.born)).Nodup := by
    rw [List.toList_toArray, List.map_map]
    exact born_nodup hm
  exact run_entry_at w r b since s0 _ c0 (MEI.ent kk d) hr hb (by rw [List.toList_toArray]; exact List.mem_map.2 ⟨d, hd, rfl⟩) hn
end
end Go.Proofs.YtoifclfanabalaaGreatDoor.Sx

namespace Go.Proofs.YtoifclfanabalaaGreatDoor.Sx
open Go
attribute [local irreducible] Calls
theorem Sat.endJ {cx : Cx} {β : Va} {n : Nat} {H : List Bk} {F : List Fact} {w : World} {kk : IntKind} (h : Sat cx β n H F w) (j : Nat) {b r : Nat} {l ss : MLI} {cur : Option (Int × Value)} (hj : nth F j = some (itIF kk b r l ss cur)) : Sat cx β n H (putAt F j (mapIF kk b l)) w := by
  obtain ⟨es, ds, k, since, c0, seen, hb, hm, _⟩ := h.get j hj
  exact h.upd hj rfl (Chg.refl _ _) ⟨es, k, hb, hm⟩ (fun q hq => .inl (.inl hq))
theorem Sat.emptyJ {cx : Cx} {β : Va} {n : Nat} {H : List Bk} {F : List Fact} {w : World} {kk : IntKind} (h : Sat cx β n H F w) (j : Nat) {b : Nat} (hj : nth F j = some (mapF b [])) : Sat cx β n H (putAt F j (mapIF kk b [])) w := by
  obtain ⟨es, k, hb, hm⟩ := h.get j hj
  obtain rfl : es = [] := List.map_eq_nil_iff.1 hm.cut
  exact h.upd hj rfl (Chg.refl _ _) ⟨[], k, hb, rfl, List.Pairwise.nil, fun _ q => by cases q⟩ (fun q hq => .inl hq)
def insKJ (n : Nat) (pre : List Int) (x : Int) (args : Array Value) (X : Fact) : Prop := args = #[.int .i64 x] ∧ X = noF ∧ pre.length < n
theorem keysJ_c (w : World) (mb : Option Nat) : Con Tryz.prog n_maps_Keys_map_int_struct_int_struct #[.map mb] w [] fun v Fs => ∃ B, v = .func (.func n_maps_Keys_map_int_struct_int_struct_1) #[] #[.pointer (some ⟨B, 0, none⟩)] ∧ Fs = [bkF B ty_map_int_struct [.map mb]] := by
  refine con_of_sx (cx := cx_maps_Keys_map_int_struct_int_struct w (Un [])) (good_maps_Keys_map_int_struct_int_struct w (Un [])) b_maps_Keys_map_int_struct_int_struct rfl rfl (β := Va.z) [.c (.v (.map mb))] 0 [] [] rfl rfl (Sat.start rfl) ?_
  intro β w' hs
  exact hs.ofBk.fin [0] ⟨β 0, rfl, rfl⟩
theorem keysJ_it (l : Nat) (w : World) (bx b : Nat) (lm : MLI) (f0 R : Fact) (J Jx : List Int → Fact → Prop) (hJ0 : J [] f0) (hJo : ∀ pre f, J pre f → f.own = true) (hRo : R.own = false) (hY : Yc Tryz.prog l J Jx R (insKJ lm.length))
    (hm : Mem w (f0 :: R :: [bkF bx ty_map_int_struct [.map (some b)], mapIF .i64 b lm])) :
    Con Tryz.prog n_maps_Keys_map_int_struct_int_struct_1 #[.func (.yield l) #[] #[], .pointer (some ⟨bx, 0, none⟩)] w [f0, bkF bx ty_map_int_struct [.map (some b)], mapIF .i64 b lm]
      (fun _ Fs => ∃ f Fs', Fs = f :: Fs' ∧ ((∃ xs, J xs f ∧ xs.Perm (lm.map (·.1)) ∧ Fs' = [mapIF .i64 b lm]) ∨ (∃ pre, Jx pre f ∧ Fs' = [mapIF .i64 b lm]))) := by
  have g := good_maps_Keys_map_int_struct_int_struct_1 w (Un [f0, bkF bx ty_map_int_struct [.map (some b)], mapIF .i64 b lm]) [bx]
  have hs0 : Sat (cx_maps_Keys_map_int_struct_int_struct_1 w (Un [f0, bkF bx ty_map_int_struct [.map (some b)], mapIF .i64 b lm]) [bx]) (Va.of fun _ => bx) 1 [] (f0 :: R :: [bkF bx ty_map_int_struct [.map (some b)], mapIF .i64 b lm]) w := by
    refine hm.sat rfl (fun f hf ho k hk => ?_) ⟨Nat.le_refl 1, fun i hi => by obtain rfl : i = 0 := Nat.lt_one_iff.1 hi; rfl⟩
    simp only [List.mem_cons, List.not_mem_nil, or_false] at hf
    rcases hf with rfl | rfl | rfl | rfl
    · exact ⟨_, by simp, hk⟩
    · rw [hRo] at ho; cases ho
    · exact ⟨bkF bx ty_map_int_struct [.map (some b)], by simp, hk⟩
    · exact ⟨mapIF .i64 b lm, by simp, hk⟩
  have hs1 := hs0.toBk 2 rfl 0 Nat.zero_lt_one rfl
  refine con_of_sx (cx := cx_maps_Keys_map_int_struct_int_struct_1 w (Un [f0, bkF bx ty_map_int_struct [.map (some b)], mapIF .i64 b lm]) [bx]) g b_maps_Keys_map_int_struct_int_struct_1 rfl rfl (β := Va.of fun _ => bx) [.c (.v (.func (.yield l) #[] #[])), .c (.p 0 0)] 1 _ _ rfl rfl hs1 ?_
  refine ⟨Nat, fun r => .pointer (some ⟨r, 0, none⟩), fun r => [f0, R, itIF .i64 b r lm [] none], fun β w' ty hs => hs.rangeI g 2 rfl, fun r => ?_⟩
  refine loop_rule (ι := MLI × Fact × Option (Int × Value)) 1 (fun _ => [(0, .c (.v (.func (.yield l) #[] #[]))), (1, .c (.p 0 0)), (5, .c (.v (.pointer (some ⟨r, 0, none⟩))))]) (fun _ => [⟨0, ty_map_int_struct, [.v (.map (some b))]⟩]) (fun i => [i.2.1, R, itIF .i64 b r lm i.1 i.2.2])
    (fun i => J (i.1.map (·.1)) i.2.1) (fun i => lm.length - i.1.length) ([], f0, none) hJ0 (Ent.same ⟨rfl, rfl, rfl, trivial⟩ rfl) g ?_
  rintro ⟨ss, f, cur⟩ hJ
  simp only at hJ
  have hfo := hJo _ _ hJ
  simp only
  refine ⟨{o : Option (Int × Value) // NxtI lm ss o}, fun o => nxtV .i64 o.1, fun o => [f, R, nxtF .i64 b r lm ss cur o.1], fun β w' ty hs => hs.nextI 2 rfl ty, ?_⟩
  rintro ⟨o, ho⟩
  cases o with
  | none =>
    have hperm : ss.Perm lm := ho
    intro β w' hs
    exact ((hs.endJ 2 rfl).keepB (List.nil_sublist _)).fin [0, 2] ⟨f, _, rfl, .inl ⟨_, hJ, hperm.map _, rfl⟩⟩ rfl rfl rfl ⟨hfo, rfl, trivial⟩
  | some x =>
    have hlt : ss.length < lm.length := ho.2
    refine ⟨Unit, fun _ => .tuple #[.int .i64 x.1, x.2], fun _ => [f, R, itIF .i64 b r lm (ss ++ [x]) (some x)], fun β w' ty hs => ⟨(), w', hs.entryI 2 rfl, hs⟩, fun _ => ?_⟩
    refine yield_ro (X := noF) (x := x.1) hY 0 1 rfl hJ hfo rfl hRo (by decide) (fun β => ⟨rfl, rfl, by rw [List.length_map]; exact hlt⟩) rfl (fun β w _ => ⟨trivial, fun k hk => hk.elim, fun k _ h => h.elim⟩) ?_ ?_
    · intro f2 hfo2 hJ2
      refine ⟨(ss ++ [x], f2, some x), by show J ((ss ++ [x]).map (·.1)) f2; rw [List.map_append]; exact hJ2, by show lm.length - (ss ++ [x]).length < lm.length - ss.length; rw [List.length_append]; show lm.length - (ss.length + 1) < _; omega, Ent.same ⟨rfl, rfl, rfl, trivial⟩ rfl⟩
    · intro f2 hfo2 hJ2 β w' hs
      exact ((hs.endJ 2 rfl).keepB (List.nil_sublist _)).fin [0, 2] ⟨f2, _, rfl, .inr ⟨_, hJ2, rfl⟩⟩ rfl rfl rfl ⟨hfo2, rfl, trivial⟩
abbrev jrowF (A : Option Addr) (l : List Int) (c : Nat) : Fact := rowF ty_int 1 (.slice A l.length c) l.length (l.map (Value.int .i64))
structure ColJ where
  A : Option Addr
  c : Nat
  l : List Int
def GivesJ (k : FuncId) (bx : Nat) (ty : TypeId) (cs : List Value) (G G' : Fact) (n : Nat) (P : List Int → Prop) : Prop :=
  ∀ (l : Nat) (w : World) (f0 R : Fact) (J Jx : List Int → Fact → Prop), J [] f0 → (∀ pre f, J pre f → f.own = true) → R.own = false → Yc Tryz.prog l J Jx R (insKJ n) → Mem w (f0 :: R :: [bkF bx ty cs, G]) →
    Con Tryz.prog k #[.func (.yield l) #[] #[], .pointer (some ⟨bx, 0, none⟩)] w [f0, bkF bx ty cs, G] (fun _ Fs => ∃ f Fs', Fs = f :: Fs' ∧ ((∃ xs, J xs f ∧ P xs ∧ Fs' = [G']) ∨ (∃ pre, Jx pre f ∧ Fs' = [G'])))
theorem appendJ_c (w : World) (k : FuncId) (bx : Nat) (ty : TypeId) (cs : List Value) (G G' : Fact) (n : Nat) (P : List Int → Prop) (hcall : callable Tryz.prog k = true) (hG : G.own = true) (hG' : G'.own = true) (hn : n ≤ 1000000) (hg : GivesJ k bx ty cs G G' n P) (hm : Mem w [bkF bx ty cs, G]) :
    Con Tryz.prog n_slices_AppendSeq_int_int #[.slice none 0 0, .func (.func k) #[] #[.pointer (some ⟨bx, 0, none⟩)]] w [bkF bx ty cs, G] fun v Fs => ∃ A c l, v = .slice A l.length c ∧ P l ∧ l.length ≤ n ∧ (0 < l.length → ∃ ad, A = some ad) ∧ Fs = [jrowF A l c, G'] := by
  have g := good_slices_AppendSeq_int_int w (Un [bkF bx ty cs, G])
  have hml := maxLen_eq
  have hs0 : Sat (cx_slices_AppendSeq_int_int w (Un [bkF bx ty cs, G])) Va.z 0 [] [bkF bx ty cs, G] w := hm.sat0 rfl (fun f hf _ k hk => ⟨f, hf, hk⟩)
  refine con_of_sx (cx := cx_slices_AppendSeq_int_int w (Un [bkF bx ty cs, G])) g b_slices_AppendSeq_int_int rfl rfl (β := Va.z) [.c (.v (.slice none 0 0)), .c (.v (.func (.func k) #[] #[.pointer (some ⟨bx, 0, none⟩)]))] 0 [] _ rfl rfl hs0 ?_
  refine range_rule (α := Int) (ι := ColJ) (κ := Unit) g rfl (cv := [.pointer (some ⟨bx, 0, none⟩)]) rfl hcall 1 (Nat.le_refl 1)
    (fun pre i => i.l = pre ∧ pre.length ≤ n ∧ (0 < i.l.length → ∃ ad, i.A = some ad)) (fun i => [⟨0, ty_sl_int, [.v (.slice i.A i.l.length i.c)]⟩]) (fun i => [jrowF i.A i.l i.c]) (fun i => ⟨rfl, trivial⟩)
    (fun _ _ _ => False) (fun _ => []) (fun _ => []) (fun _ => trivial)
    [bkF bx ty cs, G] [] [] ⟨rfl, hG, trivial⟩ (fun g h => by cases h) ⟨none, 0, []⟩ ⟨rfl, Nat.zero_le _, fun h => absurd h (by decide)⟩
    (fun β w hs => ⟨β, Agr.refl _ _, (hs.nilRow ty_int 1).perm [1, 2, 0]⟩) (insKJ n)
    (fun xs Fs' => P xs ∧ Fs' = [G']) (fun _ Fs' => Fs' = [G'])
    (fun l w f0 R J Jx hJ0 hJo hRo hY hm => (hg l w f0 R J Jx hJ0 hJo hRo hY hm).mono fun _ Fs h => h) ?_ ?_ ?_
  · rintro ⟨A, c, l⟩ pre x args X W S' lb bs pn pn' hbs ⟨rfl, hlen, hA⟩ ⟨rfl, rfl, hx⟩
    simp only at hA
    have hx0 : l.length < n := hx
    refine ⟨_, rfl, ?_⟩
    intro b2
    refine ⟨2, l.length, (l ++ [x]).length, l.map (Value.int .i64), [Value.int .i64 x], (l ++ [x]).map (Value.int .i64), rfl, fun β w hs => row_rd (hs.get 0 rfl), fun u hu => by obtain rfl := List.mem_singleton.1 hu; rfl, by simp, by simp, by rw [List.length_append, hml]; show l.length + 1 ≤ _; omega, by rw [List.length_append]; show (l.length + 1) * 8 ≤ _; omega, ?_⟩
    intro A' c' h1 h2 h3
    have e1 : (l ++ [x]).length = l.length + 1 := by rw [List.length_append]; rfl
    refine ⟨⟨A', c', l ++ [x]⟩, ⟨rfl, by rw [e1]; omega, fun _ => ?_⟩, Ent.mk' trivial rfl (fun β w hs => hs.perm [2])⟩
    cases A' with
    | none => exact absurd (h3 rfl).2 (by decide)
    | some ad => exact ⟨ad, rfl⟩
  · rintro xs ⟨A, c, l⟩ Fs ⟨rfl, hlen, hA⟩ ⟨hP, rfl⟩
    simp only at hA
    intro β w' hs
    exact (hs.keepB (List.nil_sublist _)).fin [1, 0] ⟨A, c, l, rfl, hP, hlen, hA, rfl⟩ rfl rfl rfl ⟨rfl, hG', trivial⟩
  · rintro e pre j Fs ⟨⟩
theorem collectJ_c (w : World) (k : FuncId) (bx : Nat) (ty : TypeId) (cs : List Value) (G G' : Fact) (n : Nat) (P : List Int → Prop) (hcall : callable Tryz.prog k = true) (hG : G.own = true) (hG' : G'.own = true) (hn : n ≤ 1000000) (hg : GivesJ k bx ty cs G G' n P) (hm : Mem w [bkF bx ty cs, G]) :
    Con Tryz.prog n_slices_Collect_int #[.func (.func k) #[] #[.pointer (some ⟨bx, 0, none⟩)]] w [bkF bx ty cs, G] fun v Fs => ∃ A c l, v = .slice A l.length c ∧ P l ∧ l.length ≤ n ∧ (0 < l.length → ∃ ad, A = some ad) ∧ Fs = [jrowF A l c, G'] := by
  have g := good_slices_Collect_int w (Un [bkF bx ty cs, G])
  have hs0 : Sat (cx_slices_Collect_int w (Un [bkF bx ty cs, G])) Va.z 0 [] [bkF bx ty cs, G] w := hm.sat0 rfl (fun f hf _ k hk => ⟨f, hf, hk⟩)
  refine con_of_sx (cx := cx_slices_Collect_int w (Un [bkF bx ty cs, G])) g b_slices_Collect_int rfl rfl (β := Va.z) [.c (.v (.func (.func k) #[] #[.pointer (some ⟨bx, 0, none⟩)]))] 0 [] _ rfl rfl hs0 ?_
  refine call_con [0, 1] (hown := ⟨rfl, hG, trivial⟩) (fun β w' hs => appendJ_c w' k bx ty cs G G' n P hcall hG hG' hn hg (hs.mem.take (js := [0, 1]) rfl)) ?_
  rintro v Fs ⟨A, c, l, rfl, hP, hlen, hA, rfl⟩
  intro β w' hs
  exact hs.fin [0, 1] ⟨A, c, l, rfl, hP, hlen, hA, rfl⟩ rfl rfl rfl ⟨rfl, hG', trivial⟩
theorem keysJ_gives (bx b : Nat) (lm : MLI) : GivesJ n_maps_Keys_map_int_struct_int_struct_1 bx ty_map_int_struct [.map (some b)] (mapIF .i64 b lm) (mapIF .i64 b lm) lm.length (fun xs => xs.Perm (lm.map (·.1))) :=
  fun l w f0 R J Jx hJ0 hJo hRo hY hm => keysJ_it l w bx b lm f0 R J Jx hJ0 hJo hRo hY hm
def setPut (l : List Nat) (n : Nat) : List Nat := if n ∈ l then l else l ++ [n]
def numsL (t : List UInt8) : List Nat := (scan t 0).map (·.2)
def foundL (t : List UInt8) : List Nat := numsL t ++ (runsA t).flatMap fun s => (readL s).flatMap numsL
def foundS (t : List UInt8) : List Nat := sortN ((foundL t).foldl setPut [])
def setM (l : List Nat) : MLI := l.map fun n : Nat => (((n : Nat) : Int), Value.agg #[])
theorem setM_put : ∀ (l : List Nat) (n : Nat), iput (setM l) (n : Int) (Value.agg #[]) = setM (setPut l n)
  | [], n => rfl
  | k :: r, n => by
    have ih := setM_put r n
    show (if (k : Int) = (n : Int) then _ else _) = _
    by_cases h : k = n
    · subst h
      rw [if_pos rfl]
      unfold setPut
      rw [if_pos (List.mem_cons_self ..)]
      rfl
    · rw [if_neg (fun q => h (Int.ofNat_inj.1 q)), show iput (r.map fun n : Nat => (((n : Nat) : Int), Value.agg #[])) (n : Int) (Value.agg #[]) = setM (setPut r n) from ih]
      unfold setPut
      by_cases h2 : n ∈ r
      · rw [if_pos h2, if_pos (List.mem_cons_of_mem _ h2)]
        rfl
      · rw [if_neg h2, if_neg (fun q => (List.mem_cons.1 q).elim (fun e => h e.symm) h2)]
        rfl
theorem sortN_perm {l m : List Nat} (h : l.Perm m) : sortN l = sortN m := by
  have hp : ∀ l : List Nat, (sortN l).Pairwise (fun a b => a ≤ b) := fun l =>
    (List.pairwise_mergeSort (le := fun x y => decide (x ≤ y)) (fun a b c p q => by simp only [decide_eq_true_eq] at *; omega) (fun a b => by simp only [Bool.or_eq_true, decide_eq_true_eq]; omega) l).imp (fun q => of_decide_eq_true q)
  exact List.Perm.eq_of_pairwise (le := fun a b => a ≤ b) (fun a b _ _ p q => Nat.le_antisymm p q) (hp l) (hp m) ((List.mergeSort_perm _ _).trans (h.trans (List.mergeSort_perm _ _).symm))
theorem nats_of {xs : List Int} {l : List Nat} (h : xs.Perm ((setM l).map (·.1))) : ∃ ns : List Nat, xs = ns.map Int.ofNat ∧ ns.Perm l := by
  have e : (setM l).map (·.1) = l.map Int.ofNat := by
    unfold setM
    rw [List.map_map]
    rfl
  rw [e] at h
  refine ⟨xs.map Int.toNat, ?_, ?_⟩
  · rw [List.map_map]
    refine (List.map_id xs).symm.trans (List.map_congr_left fun x hx => ?_)
    obtain ⟨n, _, rfl⟩ := List.mem_map.1 (h.mem_iff.1 hx)
    rfl
  · have := h.map Int.toNat
    rw [List.map_map, show (Int.toNat ∘ Int.ofNat) = id from rfl, List.map_id] at this
    exact this
theorem jrow_i (A : Option Addr) (ns : List Nat) (c : Nat) : jrowF A (ns.map Int.ofNat) c = irowF A ns c := by
  unfold jrowF irowF
  rw [List.length_map]
  congr 1
  simp [ints]
theorem sortedJ_c (w : World) (bx b : Nat) (l : List Nat) (hn : l.length ≤ 1000000) (hm : Mem w [bkF bx ty_map_int_struct [.map (some b)], mapIF .i64 b (setM l)]) :
    Con Tryz.prog n_slices_Sorted_int #[.func (.func n_maps_Keys_map_int_struct_int_struct_1) #[] #[.pointer (some ⟨bx, 0, none⟩)]] w [bkF bx ty_map_int_struct [.map (some b)], mapIF .i64 b (setM l)]
      fun v Fs => ∃ A c, v = .slice A (sortN l).length c ∧ Fs = [irowF A (sortN l) c, mapIF .i64 b (setM l)] := by
  have g := good_slices_Sorted_int w (Un [bkF bx ty_map_int_struct [.map (some b)], mapIF .i64 b (setM l)])
  have hs0 : Sat (cx_slices_Sorted_int w (Un [bkF bx ty_map_int_struct [.map (some b)], mapIF .i64 b (setM l)])) Va.z 0 [] [bkF bx ty_map_int_struct [.map (some b)], mapIF .i64 b (setM l)] w := hm.sat0 rfl (fun f hf _ k hk => ⟨f, hf, hk⟩)
  refine con_of_sx (cx := cx_slices_Sorted_int w (Un [bkF bx ty_map_int_struct [.map (some b)], mapIF .i64 b (setM l)])) g b_slices_Sorted_int rfl rfl (β := Va.z) [.c (.v (.func (.func n_maps_Keys_map_int_struct_int_struct_1) #[] #[.pointer (some ⟨bx, 0, none⟩)]))] 0 [] _ rfl rfl hs0 ?_
  refine call_con [0, 1] (R := fun v Fs => ∃ A c xs, v = .slice A (List.length xs) c ∧ List.Perm xs (List.map (fun q : Int × Value => q.1) (setM l)) ∧ xs.length ≤ (setM l).length ∧ (0 < xs.length → ∃ ad, A = some ad) ∧ Fs = [jrowF A xs c, mapIF .i64 b (setM l)]) (hown := ⟨rfl, rfl, trivial⟩) (fun β w' hs => collectJ_c w' n_maps_Keys_map_int_struct_int_struct_1 bx ty_map_int_struct [.map (some b)] (mapIF .i64 b (setM l)) (mapIF .i64 b (setM l)) (setM l).length (fun xs => List.Perm xs (List.map (fun q : Int × Value => q.1) (setM l))) (by kernel_rfl) rfl rfl (by simpa [setM] using hn) (keysJ_gives bx b (setM l)) (hs.mem.take (js := [0, 1]) rfl)) ?_
  rintro v Fs ⟨A, c, xs, rfl, hP, hlen, hA, rfl⟩
  obtain ⟨ns, rfl, hns⟩ := nats_of hP
  rw [jrow_i, List.length_map]
  refine call_con [0] (fun β w' hs => sort_c w' A ns c (hs.mem.take (js := [0]) rfl) (by rw [hns.length_eq]; omega)) ?_
  rintro v Fs ⟨rfl, rfl⟩
  intro β w' hs
  have e1 : (sortN ns) = sortN l := sortN_perm hns
  have e2 : ns.length = (sortN l).length := by rw [sortN_len, hns.length_eq]
  rw [e1] at hs
  exact hs.fin [0, 1] ⟨A, c, by rw [← e2]; rfl, rfl⟩ rfl rfl rfl ⟨rfl, rfl, trivial⟩
theorem Sat.mapPutJ {cx : Cx} {β : Va} {n : Nat} {H : List Bk} {F : List Fact} {w : World} (h : Sat cx β n H F w) (g : Good cx) (j : Nat) {b : Nat} {l : MLI} {kk : IntKind} (hj : nth F j = some (mapIF kk b l)) {t kt et : TypeId} {i ik : TI} (s : Int) (v : Value) (hi : lk cx.tt t = some i := by rfl) (hd : i.desc = .map kt et := by rfl) (hik : lk cx.tt kt = some ik := by rfl) (hdk : ik.desc = .int kk := by rfl) :
    ∃ w', (Instr.mapUpdate t (.map (some b)) (.int kk s) v).run cx.P w = .ok () w' ∧ Sat cx β n H (putAt F j (mapIF kk b (iput l s v))) w' := by
  obtain ⟨o, e1, e2⟩ := run_putI (P := cx.P) ((g.ti hi).real (d := .map _ _) hd rfl) ((g.ti hik).real (d := .int kk) hdk rfl) (h.get j hj) s v
  exact ⟨_, e1, h.upd hj rfl (chg_put o) e2 (fun k hk => .inl hk)⟩
theorem Sat.mapPutJY {cx : Cx} {β : Va} {n : Nat} {H : List Bk} {F : List Fact} {w : World} (h : Sat cx β n H F w) (g : Good cx) (j : Nat) {b : Nat} {l : MLI} {kk : IntKind} (hj : nth F j = some (mapIF kk b l)) {t kt et : TypeId} {i ik : TI} (s : Int) (v : Value) (hi : lk cx.tt t = some i := by rfl) (hd : i.desc = .map kt et := by rfl) (hik : lk cx.tt kt = some ik := by rfl) (hdk : ik.desc = .int kk := by rfl) :
    ∃ (w' : World) (y : Nat), (Instr.mapUpdate t (.map (some b)) (.int kk s) v).run cx.P w = .ok () w' ∧ Sat cx β n H ((fun _ => putAt F j (mapIF kk b (iput l s v))) y) w' := by
  obtain ⟨w', e1, e2⟩ := h.mapPutJ g j hj s v hi hd hik hdk
  exact ⟨w', 0, e1, e2⟩
theorem Rd.cutN {size : Nat} {w : World} {A : Option Addr} {xs : List Value} {n : Nat} (h : Rd size A n xs w) {c i j : Nat} (hn : n ≤ c) (hij : i ≤ j) (hj : j ≤ n) : Rd size (cutA A c i size) (j - i) ((xs.drop (i * size)).take ((j - i) * size)) w := by
  have hl := h.1
  have hle : i * size + (j - i) * size ≤ n * size := by rw [← Nat.add_mul]; exact Nat.mul_le_mul_right _ (by omega)
  refine ⟨by rw [List.length_take, List.length_drop]; omega, fun hp => ?_⟩
  obtain ⟨ad, rfl, hc⟩ := h.2 (by omega)
  have hne : ¬ c = i := by omega
  refine ⟨ad.add (i * size), by simp [cutA, hne], fun k u hk => ?_⟩
  rw [add_add']
  refine hc (i * size + k) u ?_
  rw [← hk]
  have hkl : k < (j - i) * size := by
    have := (List.getElem?_eq_some_iff.1 hk).1
    rw [List.length_take] at this
    omega
  rw [List.getElem?_take, if_pos hkl, List.getElem?_drop]
theorem rIn_c (w : World) (A : Option Addr) (l : List Nat) (c n : Nat) (hr : Rd 1 A l.length (ints l) w) (hn : l.length ≤ 4000000) : Pu Tryz.prog n_ostiaryref28_In #[.slice A l.length c, .int .i64 (n : Int)] w (.bool (decide (n ∈ l))) := by
  have g := good_ostiaryref28_In w (Un [])
  refine con_of_sx (cx := cx_ostiaryref28_In w (Un [])) g b_ostiaryref28_In rfl rfl (β := Va.z) [.c (.v (.slice A l.length c)), .c (.v (.int .i64 (n : Int)))] 0 [] [rdF 1 A l.length (ints l)] rfl rfl ((Sat.start rfl).rd (fun _ h => by cases h) hr) ?_
  refine loop_rule (ι := Nat) 0 (fun j => [(1, .c (.v (.int .i64 (n : Int)))), (7, .c (.v (.slice A l.length c))), (8, .c (.v (.int .i64 (l.length : Int)))), (9, .c (.v (.int .i64 (j : Int))))]) (fun _ => []) (fun _ => [rdF 1 A l.length (ints l)])
    (fun j => j ≤ l.length ∧ n ∉ l.take j) (fun j => l.length - j) (0 : Nat) ⟨Nat.zero_le _, by simp⟩ (Ent.mk' ⟨rfl, rfl, rfl, rfl, trivial⟩ rfl (fun β w' hs => hs)) g ?_
  rintro j ⟨hj, hno⟩
  refine BIf.dec (fun hlt => ?_) (fun hge => ?_)
  · have hlt0 : (j : Int) < (l.length : Int) := hlt
    obtain ⟨y, hy, hym⟩ := at_lt (show j < l.length by omega)
    obtain ⟨ad, hA, _⟩ := hr.2 (by omega)
    refine ⟨ad, j, hA, rfl, by omega, ?_⟩
    refine ⟨.int .i64 (y : Int), fun β w' hs => Rd.cell1 (show Rd 1 (some ad) l.length (ints l) w' from hA ▸ hs.get 0 rfl) (by simp [ints, hy]), ?_⟩
    refine BIf.dec (fun he => ?_) (fun hne => ?_)
    · have he0 : y = n := Int.ofNat_inj.1 he
      intro β w' hs
      exact hs.fin [] ⟨by rw [decide_eq_true (he0 ▸ hym)]; rfl, rfl⟩
    · have hne0 : ¬ y = n := fun q => hne (by rw [q])
      refine ⟨((j + 1 : Nat) : Int), by rw [wrap_i64 (by omega) (by omega)]; rfl, ?_⟩
      exact ⟨j + 1, ⟨by omega, by rw [List.take_add_one, hy]; simp only [Option.toList, List.mem_append, List.mem_singleton, not_or]; exact ⟨hno, fun q => hne0 q.symm⟩⟩, by omega, Ent.mk' ⟨rfl, rfl, rfl, rfl, trivial⟩ rfl (fun β w' hs => hs)⟩
  · have hge0 : ¬ (j : Int) < (l.length : Int) := hge
    rw [List.take_of_length_le (by omega)] at hno
    intro β w' hs
    exact hs.fin [] ⟨by rw [decide_eq_false hno]; rfl, rfl⟩
def lessT (l : List Nat) (n : Nat) : List Nat := l.takeWhile fun x => decide (x < n)
def putL (l : List Nat) (n : Nat) : List Nat := if n ∈ l then l else lessT l n ++ n :: l.drop (lessT l n).length
theorem lessT_at {l : List Nat} {n i : Nat} (hi : i ≤ l.length) (h : ∀ q ∈ l.take i, q < n) (he : i < l.length → ∃ y, l[i]? = some y ∧ ¬ y < n) : lessT l n = l.take i := by
  have e : l = l.take i ++ l.drop i := (List.take_append_drop i l).symm
  unfold lessT
  conv => lhs; rw [e]
  rw [List.takeWhile_append_of_pos (fun q hq => decide_eq_true (h q hq))]
  rcases Nat.lt_or_ge i l.length with q | q
  · obtain ⟨y, hy, hn⟩ := he q
    rw [List.drop_eq_getElem_cons q, (List.getElem?_eq_some_iff.1 hy).2, List.takeWhile_cons_of_neg (by simpa using hn), List.append_nil]
  · rw [List.drop_of_length_le q]
    simp
theorem rput_c (w : World) (A : Option Addr) (l : List Nat) (c n : Nat) (hn : l.length ≤ 3000000) (hm : Mem w [irowF A l c]) :
    Con Tryz.prog n_ostiaryref28_put #[.slice A l.length c, .int .i64 (n : Int)] w [irowF A l c] fun v Fs => ∃ A' c', v = .slice A' (putL l n).length c' ∧ Fs = [irowF A' (putL l n) c'] := by
  have g := good_ostiaryref28_put w (Un [irowF A l c])
  have hml := maxLen_eq
  have hr0 : Rd 1 A l.length (ints l) w := row_rd (hm.fact (irowF A l c) (by simp))
  have hcap : l.length ≤ c := row_cap (hm.fact (irowF A l c) (by simp))
  have hs0 : Sat (cx_ostiaryref28_put w (Un [irowF A l c])) Va.z 0 [] [irowF A l c] w := hm.sat0 rfl (fun f hf _ k hk => ⟨f, hf, hk⟩)
  refine con_of_sx (cx := cx_ostiaryref28_put w (Un [irowF A l c])) g b_ostiaryref28_put rfl rfl (β := Va.z) [.c (.v (.slice A l.length c)), .c (.v (.int .i64 (n : Int)))] 0 [] _ rfl rfl hs0 ?_
  refine call_pu (fun β w' hs => rIn_c w' A l c n (row_rd (hs.get 0 rfl)) (by omega)) ?_
  refine BIf.dec (fun hin => ?_) (fun hno => ?_)
  · intro β w' hs
    have e : putL l n = l := by unfold putL; rw [if_pos hin]
    rw [e]
    exact hs.fin [0] ⟨A, c, rfl, rfl⟩
  · have e : putL l n = lessT l n ++ n :: l.drop (lessT l n).length := by unfold putL; rw [if_neg hno]
    rw [e]
    refine loop_rule (ι := Nat) 0 (fun j => [(0, .c (.v (.slice A l.length c))), (1, .c (.v (.int .i64 (n : Int)))), (5, .c (.v (.int .i64 (j : Int))))]) (fun _ => []) (fun _ => [irowF A l c])
      (fun j => j ≤ l.length ∧ ∀ q ∈ l.take j, q < n) (fun j => l.length - j) (0 : Nat) ⟨Nat.zero_le _, by simp⟩ (Ent.mk' ⟨rfl, rfl, rfl, trivial⟩ rfl (fun β w' hs => hs)) g ?_
    rintro j ⟨hj, hlo⟩
    refine BIf.dec (fun hlt => ?_) (fun hge => ?_)
    · have hlt0 : (j : Int) < (l.length : Int) := hlt
      obtain ⟨y, hy, hym⟩ := at_lt (show j < l.length by omega)
      obtain ⟨ad, hA, _⟩ := hr0.2 (by omega)
      refine ⟨ad, j, hA, rfl, by omega, ?_⟩
      refine ⟨.int .i64 (y : Int), fun β w' hs => Rd.cell1 (show Rd 1 (some ad) l.length (ints l) w' from hA ▸ row_rd (hs.get 0 rfl)) (by simp [ints, hy]), ?_⟩
      refine BIf.dec (fun he => ?_) (fun hne => ?_)
      · have he0 : y < n := Int.ofNat_lt.1 he
        refine ⟨((j + 1 : Nat) : Int), by rw [wrap_i64 (by omega) (by omega)]; rfl, ?_⟩
        refine ⟨j + 1, ⟨by omega, fun q hq => ?_⟩, by omega, Ent.mk' ⟨rfl, rfl, rfl, trivial⟩ rfl (fun β w' hs => hs)⟩
        rw [List.take_add_one, hy] at hq
        rcases List.mem_append.1 hq with hq | hq
        · exact hlo q hq
        · obtain rfl := List.mem_singleton.1 hq
          exact he0
      · have hne0 : ¬ y < n := fun q => hne (Int.ofNat_lt.2 q)
        rw [lessT_at hj hlo (fun _ => ⟨y, hy, hne0⟩)]
        obtain ⟨r, hr⟩ : ∃ r, r = l.take j ++ n :: l.drop (l.take j).length := ⟨_, rfl⟩
        have hjl : (l.take j).length = j := by rw [List.length_take]; omega
        rw [← hr]
        rw [hjl] at hr
        have hrl : r.length = l.length + 1 := by rw [hr, List.length_append, List.length_take, List.length_cons, List.length_drop]; omega
        have hA1 : ∀ w', (irowF A l c).p w' → Rd 1 A j ((ints l).take j) w' := fun w' h => Rd.take (row_rd h) (by omega)
        have hA2 : ∀ w', (irowF A l c).p w' → Rd 1 (cutA A c j 1) (l.length - j) ((ints l).drop j) w' := fun w' h => by
          have h2 := Rd.cutN (row_rd h) hcap (show j ≤ l.length by omega) (Nat.le_refl _)
          rw [Nat.mul_one, Nat.mul_one, List.take_of_length_le (by rw [List.length_drop]; simp [ints])] at h2
          exact h2
        refine draw_rule g p_ostiaryref28_put_6 (by kernel_rfl) [] [] (Sub.of (List.Sublist.refl _) (List.nil_sublist _)) ?_
        refine ⟨c, j, 0, j, c, A, rfl, rfl, rfl, by omega, by omega, Nat.zero_le _, rfl, rfl, cutA_zero', ?_⟩
        refine ⟨c, l.length, j, l.length - j, c - j, _, rfl, rfl, rfl, Nat.le_refl _, hcap, by omega, rfl, rfl, rfl, ?_⟩
        refine ⟨?_, ?_⟩
        · intro b0
          refine ⟨subPerm [], ?_⟩
          refine ⟨?_, ?_⟩
          · refine ⟨0, 0, j, [], (ints l).take j, (ints l).take j, rfl, fun β w' hs => hA1 w' (hs.get 1 rfl), fun u hu => ints_one l u (List.mem_of_mem_take hu), Nat.zero_add _, rfl, by rw [hml]; omega, by show j * 8 ≤ _; omega, ?_⟩
            intro A1 c1 p1 _ _
            refine ⟨subPerm [], ?_⟩
            intro b1
            refine ⟨subPerm [], ?_⟩
            refine ⟨1, j, j + 1, (ints l).take j, [.int .i64 (n : Int)], (ints l).take j ++ [.int .i64 (n : Int)], rfl, fun β w' hs => row_rd (hs.get 0 rfl), (fun u hu => by obtain rfl := List.mem_singleton.1 hu; rfl), rfl, rfl, by rw [hml]; omega, by show (j + 1) * 8 ≤ _; omega, ?_⟩
            intro A2 c2 p2 _ _
            refine ⟨subPerm [], ?_⟩
            refine ⟨1, j + 1, r.length, (ints l).take j ++ [.int .i64 (n : Int)], (ints l).drop j, ints r, rfl, fun β w' hs => hA2 w' (hs.get 2 rfl), fun u hu => ints_one l u (List.mem_of_mem_drop hu), by omega, by rw [hr]; simp [ints], by rw [hml]; omega, by show r.length * 8 ≤ _; omega, ?_⟩
            intro A3 c3 p3 _ _
            refine ⟨subPerm [], ?_⟩
            intro β w' hs
            exact hs.fin [1] ⟨A3, c3, rfl, rfl⟩
          · intro b1
            refine ⟨subPerm [], ?_⟩
            refine ⟨1, 0, j, [], (ints l).take j, (ints l).take j, rfl, fun β w' hs => hA1 w' (hs.get 2 rfl), fun u hu => ints_one l u (List.mem_of_mem_take hu), Nat.zero_add _, rfl, by rw [hml]; omega, by show j * 8 ≤ _; omega, ?_⟩
            intro A1 c1 p1 _ _
            refine ⟨subPerm [], ?_⟩
            refine ⟨1, j, j + 1, (ints l).take j, [.int .i64 (n : Int)], (ints l).take j ++ [.int .i64 (n : Int)], rfl, fun β w' hs => row_rd (hs.get 0 rfl), (fun u hu => by obtain rfl := List.mem_singleton.1 hu; rfl), rfl, rfl, by rw [hml]; omega, by show (j + 1) * 8 ≤ _; omega, ?_⟩
            intro A2 c2 p2 _ _
            refine ⟨subPerm [], ?_⟩
            refine ⟨1, j + 1, r.length, (ints l).take j ++ [.int .i64 (n : Int)], (ints l).drop j, ints r, rfl, fun β w' hs => hA2 w' (hs.get 2 rfl), fun u hu => ints_one l u (List.mem_of_mem_drop hu), by omega, by rw [hr]; simp [ints], by rw [hml]; omega, by show r.length * 8 ≤ _; omega, ?_⟩
            intro A3 c3 p3 _ _
            refine ⟨subPerm [], ?_⟩
            intro β w' hs
            exact hs.fin [1] ⟨A3, c3, rfl, rfl⟩
        · intro b1
          refine ⟨subPerm [], ?_⟩
          intro b0
          refine ⟨subPerm [], ?_⟩
          refine ⟨0, 0, j, [], (ints l).take j, (ints l).take j, rfl, fun β w' hs => hA1 w' (hs.get 2 rfl), fun u hu => ints_one l u (List.mem_of_mem_take hu), Nat.zero_add _, rfl, by rw [hml]; omega, by show j * 8 ≤ _; omega, ?_⟩
          intro A1 c1 p1 _ _
          refine ⟨subPerm [], ?_⟩
          refine ⟨0, j, j + 1, (ints l).take j, [.int .i64 (n : Int)], (ints l).take j ++ [.int .i64 (n : Int)], rfl, fun β w' hs => row_rd (hs.get 1 rfl), (fun u hu => by obtain rfl := List.mem_singleton.1 hu; rfl), rfl, rfl, by rw [hml]; omega, by show (j + 1) * 8 ≤ _; omega, ?_⟩
          intro A2 c2 p2 _ _
          refine ⟨subPerm [], ?_⟩
          refine ⟨0, j + 1, r.length, (ints l).take j ++ [.int .i64 (n : Int)], (ints l).drop j, ints r, rfl, fun β w' hs => hA2 w' (hs.get 2 rfl), fun u hu => ints_one l u (List.mem_of_mem_drop hu), by omega, by rw [hr]; simp [ints], by rw [hml]; omega, by show r.length * 8 ≤ _; omega, ?_⟩
          intro A3 c3 p3 _ _
          refine ⟨subPerm [], ?_⟩
          intro β w' hs
          exact hs.fin [0] ⟨A3, c3, rfl, rfl⟩
    · have hge0 : ¬ (j : Int) < (l.length : Int) := hge
      rw [lessT_at hj hlo (fun q => absurd q (by omega))]
      obtain ⟨r, hr⟩ : ∃ r, r = l.take j ++ n :: l.drop (l.take j).length := ⟨_, rfl⟩
      have hjl : (l.take j).length = j := by rw [List.length_take]; omega
      rw [← hr]
      rw [hjl] at hr
      have hrl : r.length = l.length + 1 := by rw [hr, List.length_append, List.length_take, List.length_cons, List.length_drop]; omega
      have hA1 : ∀ w', (irowF A l c).p w' → Rd 1 A j ((ints l).take j) w' := fun w' h => Rd.take (row_rd h) (by omega)
      have hA2 : ∀ w', (irowF A l c).p w' → Rd 1 (cutA A c j 1) (l.length - j) ((ints l).drop j) w' := fun w' h => by
        have h2 := Rd.cutN (row_rd h) hcap (show j ≤ l.length by omega) (Nat.le_refl _)
        rw [Nat.mul_one, Nat.mul_one, List.take_of_length_le (by rw [List.length_drop]; simp [ints])] at h2
        exact h2
      refine draw_rule g p_ostiaryref28_put_6 (by kernel_rfl) [] [] (Sub.of (List.Sublist.refl _) (List.nil_sublist _)) ?_
      refine ⟨c, j, 0, j, c, A, rfl, rfl, rfl, by omega, by omega, Nat.zero_le _, rfl, rfl, cutA_zero', ?_⟩
      refine ⟨c, l.length, j, l.length - j, c - j, _, rfl, rfl, rfl, Nat.le_refl _, hcap, by omega, rfl, rfl, rfl, ?_⟩
      refine ⟨?_, ?_⟩
      · intro b0
        refine ⟨subPerm [], ?_⟩
        refine ⟨?_, ?_⟩
        · refine ⟨0, 0, j, [], (ints l).take j, (ints l).take j, rfl, fun β w' hs => hA1 w' (hs.get 1 rfl), fun u hu => ints_one l u (List.mem_of_mem_take hu), Nat.zero_add _, rfl, by rw [hml]; omega, by show j * 8 ≤ _; omega, ?_⟩
          intro A1 c1 p1 _ _
          refine ⟨subPerm [], ?_⟩
          intro b1
          refine ⟨subPerm [], ?_⟩
          refine ⟨1, j, j + 1, (ints l).take j, [.int .i64 (n : Int)], (ints l).take j ++ [.int .i64 (n : Int)], rfl, fun β w' hs => row_rd (hs.get 0 rfl), (fun u hu => by obtain rfl := List.mem_singleton.1 hu; rfl), rfl, rfl, by rw [hml]; omega, by show (j + 1) * 8 ≤ _; omega, ?_⟩
          intro A2 c2 p2 _ _
          refine ⟨subPerm [], ?_⟩
          refine ⟨1, j + 1, r.length, (ints l).take j ++ [.int .i64 (n : Int)], (ints l).drop j, ints r, rfl, fun β w' hs => hA2 w' (hs.get 2 rfl), fun u hu => ints_one l u (List.mem_of_mem_drop hu), by omega, by rw [hr]; simp [ints], by rw [hml]; omega, by show r.length * 8 ≤ _; omega, ?_⟩
          intro A3 c3 p3 _ _
          refine ⟨subPerm [], ?_⟩
          intro β w' hs
          exact hs.fin [1] ⟨A3, c3, rfl, rfl⟩
        · intro b1
          refine ⟨subPerm [], ?_⟩
          refine ⟨1, 0, j, [], (ints l).take j, (ints l).take j, rfl, fun β w' hs => hA1 w' (hs.get 2 rfl), fun u hu => ints_one l u (List.mem_of_mem_take hu), Nat.zero_add _, rfl, by rw [hml]; omega, by show j * 8 ≤ _; omega, ?_⟩
          intro A1 c1 p1 _ _
          refine ⟨subPerm [], ?_⟩
          refine ⟨1, j, j + 1, (ints l).take j, [.int .i64 (n : Int)], (ints l).take j ++ [.int .i64 (n : Int)], rfl, fun β w' hs => row_rd (hs.get 0 rfl), (fun u hu => by obtain rfl := List.mem_singleton.1 hu; rfl), rfl, rfl, by rw [hml]; omega, by show (j + 1) * 8 ≤ _; omega, ?_⟩
          intro A2 c2 p2 _ _
          refine ⟨subPerm [], ?_⟩
          refine ⟨1, j + 1, r.length, (ints l).take j ++ [.int .i64 (n : Int)], (ints l).drop j, ints r, rfl, fun β w' hs => hA2 w' (hs.get 2 rfl), fun u hu => ints_one l u (List.mem_of_mem_drop hu), by omega, by rw [hr]; simp [ints], by rw [hml]; omega, by show r.length * 8 ≤ _; omega, ?_⟩
          intro A3 c3 p3 _ _
          refine ⟨subPerm [], ?_⟩
          intro β w' hs
          exact hs.fin [1] ⟨A3, c3, rfl, rfl⟩
      · intro b1
        refine ⟨subPerm [], ?_⟩
        intro b0
        refine ⟨subPerm [], ?_⟩
        refine ⟨0, 0, j, [], (ints l).take j, (ints l).take j, rfl, fun β w' hs => hA1 w' (hs.get 2 rfl), fun u hu => ints_one l u (List.mem_of_mem_take hu), Nat.zero_add _, rfl, by rw [hml]; omega, by show j * 8 ≤ _; omega, ?_⟩
        intro A1 c1 p1 _ _
        refine ⟨subPerm [], ?_⟩
        refine ⟨0, j, j + 1, (ints l).take j, [.int .i64 (n : Int)], (ints l).take j ++ [.int .i64 (n : Int)], rfl, fun β w' hs => row_rd (hs.get 1 rfl), (fun u hu => by obtain rfl := List.mem_singleton.1 hu; rfl), rfl, rfl, by rw [hml]; omega, by show (j + 1) * 8 ≤ _; omega, ?_⟩
        intro A2 c2 p2 _ _
        refine ⟨subPerm [], ?_⟩
        refine ⟨0, j + 1, r.length, (ints l).take j ++ [.int .i64 (n : Int)], (ints l).drop j, ints r, rfl, fun β w' hs => hA2 w' (hs.get 2 rfl), fun u hu => ints_one l u (List.mem_of_mem_drop hu), by omega, by rw [hr]; simp [ints], by rw [hml]; omega, by show r.length * 8 ≤ _; omega, ?_⟩
        intro A3 c3 p3 _ _
        refine ⟨subPerm [], ?_⟩
        intro β w' hs
        exact hs.fin [0] ⟨A3, c3, rfl, rfl⟩
theorem decG_len : ∀ {vs : List Nat} {l : List UInt8}, decG vs = some l → l.length ≤ vs.length
  | [], l, h => by
    simp only [decG] at h
    obtain rfl := Option.some.inj h
    exact Nat.le_refl _
  | [a], l, h => by simp [decG] at h
  | [a, b], l, h => by
    simp only [decG] at h
    split at h
    · obtain rfl := Option.some.inj h
      simp
    · cases h
  | [a, b, c], l, h => by
    simp only [decG] at h
    split at h
    · obtain rfl := Option.some.inj h
      simp
    · cases h
  | a :: b :: c :: d :: r, l, h => by
    simp only [decG] at h
    cases hr : decG r with
    | none => rw [hr] at h; cases h
    | some m =>
      rw [hr] at h
      obtain rfl := Option.some.inj h
      have := decG_len hr
      simp only [List.length_cons]
      omega
theorem decS_len {url : Bool} {s l : List UInt8} (h : decS url s = some l) : l.length ≤ s.length := by
  unfold decS at h
  cases hv : valsA url s with
  | none => rw [hv] at h; cases h
  | some vs =>
    rw [hv] at h
    have h1 := decG_len (show decG vs = some l from h)
    rw [(valsA_len hv).1] at h1
    exact h1
theorem strip_len (s : List UInt8) : (strip s).length ≤ s.length := by
  unfold strip
  split
  · rw [List.length_dropLast]; omega
  · exact Nat.le_refl _
theorem decP_len {s l : List UInt8} (h : decP s = some l) : l.length ≤ s.length := by
  unfold decP at h
  split at h
  · cases h
  · split at h
    · cases h
    · have h1 := decS_len h
      rw [unpad_strip] at h1
      have h2 := strip_len (strip s)
      have h3 := strip_len s
      omega
theorem decU_len {s l : List UInt8} (h : decU s = some l) : l.length ≤ s.length := by
  unfold decU at h
  split at h
  · cases h
  · exact decS_len h
theorem unhexA_len : ∀ {s l : List UInt8}, unhexA s = some l → l.length ≤ s.length
  | [], l, h => by
    obtain rfl := Option.some.inj h
    exact Nat.le_refl _
  | [_], l, h => by cases h
  | a :: b :: r, l, h => by
    simp only [unhexA] at h
    cases ha : digA a with
    | none => rw [ha] at h; cases h
    | some x =>
      cases hb : digA b with
      | none => rw [ha, hb] at h; cases h
      | some y =>
        cases hr : unhexA r with
        | none => rw [ha, hb, hr] at h; cases h
        | some m =>
          rw [ha, hb, hr] at h
          obtain rfl := Option.some.inj h
          have := unhexA_len hr
          simp only [List.length_cons]
          omega
theorem readL_len {s q : List UInt8} (h : q ∈ readL s) : q.length ≤ s.length + 3 := by
  unfold readL at h
  rcases List.mem_append.1 h with h | h
  · have h1 := decP_len (Option.mem_toList.1 h)
    rw [List.length_append] at h1
    simp only [eqs, List.length_replicate] at h1
    omega
  · rcases List.mem_append.1 h with h | h
    · have h1 := decU_len (Option.mem_toList.1 h)
      omega
    · have h1 := unhexA_len (Option.mem_toList.1 h)
      omega
theorem runsF_len : ∀ (t a : List UInt8) {s : List UInt8}, s ∈ runsF a t → s.length ≤ a.length + t.length
  | [], a, s, h => by
    unfold runsF at h
    split at h
    · cases h
    · obtain rfl := List.mem_singleton.1 h
      exact Nat.le_add_right _ _
  | c :: r, a, s, h => by
    unfold runsF at h
    split at h
    · have := runsF_len r _ h
      rw [List.length_append] at this
      simp only [List.length_cons, List.length_nil] at this ⊢
      omega
    · split at h
      · have := runsF_len r _ h
        simp only [List.length_cons, List.length_nil] at this ⊢
        omega
      · rcases List.mem_cons.1 h with rfl | h
        · exact Nat.le_add_right _ _
        · have := runsF_len r _ h
          simp only [List.length_cons, List.length_nil] at this ⊢
          omega
theorem runsA_len {t s : List UInt8} (h : s ∈ runsA t) : s.length ≤ t.length := by
  have := runsF_len t [] h
  simpa using this
theorem scanL_len (t : List UInt8) : ∀ (k i : Nat), t.length + 32 - i ≤ k → (scan t i).length ≤ t.length - i := by
  intro k
  induction k with
  | zero => intro i h; rw [scan_end (by omega)]; exact Nat.zero_le _
  | succ k ih =>
    intro i h
    by_cases hi : i + 32 ≤ t.length
    · cases hh : hit t i with
      | none =>
        rw [scan_no hi hh]
        have := ih (i + 1) (by omega)
        omega
      | some n =>
        rw [scan_hit hi hh, List.length_cons]
        have := ih (i + 32) (by omega)
        omega
    · rw [scan_end hi]; exact Nat.zero_le _
theorem numsL_len (t : List UInt8) : (numsL t).length ≤ t.length := by
  unfold numsL
  rw [List.length_map]
  exact scanL_len t _ 0 (Nat.le_refl _)
theorem readN_len (s : List UInt8) : ((readL s).flatMap numsL).length ≤ 3 * s.length + 9 := by
  have h : ∀ q ∈ readL s, (numsL q).length ≤ s.length + 3 := fun q hq => Nat.le_trans (numsL_len q) (readL_len hq)
  unfold readL at h ⊢
  generalize decP (s ++ eqs ((4 - s.length % 4) % 4)) = o1 at h ⊢
  generalize decU s = o2 at h ⊢
  generalize unhexA s = o3 at h ⊢
  have g : ∀ o : Option (List UInt8), (∀ q ∈ o.toList, (numsL q).length ≤ s.length + 3) → (o.toList.flatMap numsL).length ≤ s.length + 3 := by
    intro o ho
    cases o with
    | none => exact Nat.zero_le _
    | some q =>
      have := ho q (by simp)
      simpa using this
  have g1 := g o1 (fun q hq => h q (List.mem_append_left _ hq))
  have g2 := g o2 (fun q hq => h q (List.mem_append_right _ (List.mem_append_left _ hq)))
  have g3 := g o3 (fun q hq => h q (List.mem_append_right _ (List.mem_append_right _ hq)))
  rw [List.flatMap_append, List.flatMap_append, List.length_append, List.length_append]
  omega
theorem runsF_sum : ∀ (t a : List UInt8), ((runsF a t).flatMap fun s => (readL s).flatMap numsL).length ≤ 3 * (a.length + t.length) + 9 * (t.length + 1)
  | [], a => by
    unfold runsF
    split
    · exact Nat.zero_le _
    · have := readN_len a
      simp only [List.flatMap_cons, List.flatMap_nil, List.append_nil, List.length_nil]
      omega
  | c :: r, a => by
    unfold runsF
    split
    · have := runsF_sum r (a ++ [c])
      rw [List.length_append] at this
      simp only [List.length_cons, List.length_nil] at this ⊢
      omega
    · split
      · have := runsF_sum r []
        simp only [List.length_cons, List.length_nil] at this ⊢
        omega
      · have := runsF_sum r []
        have h2 := readN_len a
        rw [List.flatMap_cons, List.length_append]
        simp only [List.length_cons, List.length_nil] at this ⊢
        omega
theorem foundL_len (t : List UInt8) : (foundL t).length ≤ 13 * t.length + 9 := by
  unfold foundL
  rw [List.length_append]
  have h1 := numsL_len t
  have h2 := runsF_sum t []
  unfold runsA
  simp only [List.length_nil] at h2
  omega
theorem setPut_len (l : List Nat) (n : Nat) : (setPut l n).length ≤ l.length + 1 := by
  unfold setPut
  split
  · exact Nat.le_succ _
  · rw [List.length_append]; exact Nat.le_refl _
theorem setPuts_len : ∀ (ns l : List Nat), (ns.foldl setPut l).length ≤ l.length + ns.length
  | [], l => Nat.le_refl _
  | n :: r, l => by
    have h1 := setPuts_len r (setPut l n)
    have h2 := setPut_len l n
    rw [List.foldl_cons, List.length_cons]
    omega
theorem Found_c (w : World) (A : Option Addr) (t : List UInt8) (c : Nat) (hl : t.length ≤ 70000) (hc : t.length ≤ c) (hm : Mem w [bsF A t]) :
    Con Tryz.prog n_knows_Found #[.slice A t.length c] w [] fun v Fs => ∃ A' c', v = .slice A' (foundS t).length c' ∧ (0 < (foundS t).length → ∃ ad, A' = some ad) ∧ Fs = [irowF A' (foundS t) c'] := by
  have g := good_knows_Found w (Un [])
  have hs0 : Sat (cx_knows_Found w (Un [])) Va.z 0 [] [bsF A t] w := hm.sat0 rfl (fun f hf ho k hk => by obtain rfl := List.mem_singleton.1 hf; cases ho)
  refine con_of_sx (cx := cx_knows_Found w (Un [])) g b_knows_Found rfl rfl (β := Va.z) [.c (.v (.slice A t.length c))] 0 [] _ rfl rfl hs0 ?_
  intro b1
  refine call_con [] (fun β w hs => handles_c w A t.length c) ?_
  rintro v Fs ⟨bx, rfl, rfl⟩
  refine range_rule (α := Hp) (ι := List Nat) (κ := Unit) g rfl (cv := [.pointer (some ⟨bx, 0, none⟩)]) rfl (by kernel_rfl) 1 (Nat.le_refl 1)
    (fun pre i => i = (pre.map (·.2)).foldl setPut []) (fun _ => [⟨0, ty_map_int_struct, [.v (.map (some b1))]⟩]) (fun i => [mapIF .i64 b1 (setM i)]) (fun i => ⟨rfl, trivial⟩)
    (fun e pre i => False) (fun i => []) (fun i => []) (fun i => trivial)
    [bkF bx ty_sl_uint8 [.slice A t.length c]] [bsF A t] [bsF A t] ⟨rfl, trivial⟩ (fun g h => by obtain rfl := List.mem_singleton.1 h; rfl) [] rfl (fun β w hs => ⟨β, Agr.refl _ _, ?_⟩) (fun _ => insH)
    (fun xs Fs' => xs = scan t 0 ∧ Fs' = []) (fun pre Fs' => (∃ r, scan t 0 = pre ++ r) ∧ Fs' = [])
    (fun l w f0 R J Jx hJ0 hJo hRo hY hm => (handles_it l w bx A t c f0 R J Jx hJ0 hJo hRo hY (by omega) hc hm).mono fun _ Fs h => h) ?_ ?_ ?_
  · exact (((hs.emptyJ 1 rfl).dupRo 2 rfl).perm [1, 0, 2, 3])
  · rintro i pre x args X W S l bs pn pn' hbs hpre ⟨rfl, rfl⟩
    refine ⟨_, rfl, ?_⟩
    refine ⟨_, fun _ => _, fun β w' hs => hs.mapPutJY (rcx_good g) 1 rfl (t := ty_map_int_struct) (x.2 : Int) (.agg #[]), fun _ => ?_⟩
    refine ⟨setPut i x.2, ?_, ?_⟩
    · show setPut i x.2 = ((pre ++ [x]).map (·.2)).foldl setPut []
      rw [List.map_append, List.foldl_append, ← hpre]
      rfl
    · simp only [← setM_put]
      exact Ent.mk' trivial rfl (fun β w hs => hs.perm [1])
  · rintro xs i Fs hpre ⟨hxs, rfl⟩
    have hi : i = (numsL t).foldl setPut [] := by rw [hpre, hxs]; rfl
    refine call_con [] (fun β w hs => Runs_c w A t.length c) ?_
    rintro v Fs ⟨bx, rfl, rfl⟩
    obtain ⟨L, hLd⟩ : ∃ L, (runsA t).map mkS = L := ⟨_, rfl⟩
    refine range_rule (α := ByteArray) (ι := List Nat) (κ := Unit) g rfl (cv := [.pointer (some ⟨bx, 0, none⟩)]) rfl (by kernel_rfl) 1 (Nat.le_refl 1)
      (fun pre i => pre = L.take pre.length ∧ i = (numsL t ++ (pre.map (·.data.toList)).flatMap fun s => (readL s).flatMap numsL).foldl setPut []) (fun _ => [⟨0, ty_map_int_struct, [.v (.map (some b1))]⟩]) (fun i => [mapIF .i64 b1 (setM i)]) (fun i => ⟨rfl, trivial⟩)
      (fun e pre i => False) (fun i => []) (fun i => []) (fun i => trivial)
      [bkF bx ty_sl_uint8 [.slice A t.length c]] [bsF A t] [] ⟨rfl, trivial⟩ (fun g h => by cases h) i ⟨rfl, by rw [hi]; simp⟩ (fun β w hs => ⟨β, Agr.refl _ _, hs.perm [0, 2, 1]⟩) (insS L)
      (fun xs Fs' => xs = L ∧ Fs' = []) (fun pre Fs' => Fs' = [])
      (fun l w f0 R J Jx hJ0 hJo hRo hY hm => by
        have h := runs_it l w bx A t c f0 R J Jx hJ0 hJo hRo (by rw [hLd]; exact hY) (by omega) hc hm
        rw [hLd] at h
        exact h) ?_ ?_ ?_
    · rintro i pre x args X W S lb bs pn pn' hbs ⟨hpre, hi⟩ ⟨rfl, rfl, hx⟩
      obtain ⟨s, hs, rfl⟩ : ∃ s, s ∈ runsA t ∧ x = mkS s := by
        have h := List.mem_of_getElem? hx
        rw [← hLd] at h
        obtain ⟨s, h1, h2⟩ := List.mem_map.1 h
        exact ⟨s, h1, h2.symm⟩
      have hsl := runsA_len hs
      refine ⟨_, rfl, ?_⟩
      refine call_con [] (fun β w hs => read_c w (mkS s)) ?_
      rintro v Fs ⟨by1, rfl, rfl⟩
      obtain ⟨B, hB⟩ : ∃ B, B = numsL t ++ (pre.map (·.data.toList)).flatMap fun s => (readL s).flatMap numsL := ⟨_, rfl⟩
      rw [← hB] at hi
      refine range_rule (α := List UInt8) (ι := List Nat) (κ := Unit) (rcx_good g) rfl (cv := [.pointer (some ⟨by1, 0, none⟩)]) rfl (by kernel_rfl) 1 (Nat.le_refl 1)
        (fun qs i => qs = (readL s).take qs.length ∧ i = (B ++ qs.flatMap numsL).foldl setPut []) (fun _ => [⟨0, ty_map_int_struct, [.v (.map (some b1))]⟩]) (fun i => [mapIF .i64 b1 (setM i)]) (fun i => ⟨rfl, trivial⟩)
        (fun e pre i => False) (fun i => []) (fun i => []) (fun i => trivial)
        [bkF by1 ty_string [.string (mkS s)]] [] [] ⟨rfl, trivial⟩ (fun g h => by cases h) i ⟨rfl, by rw [hi]; simp⟩ (fun β w hs => ⟨β, Agr.refl _ _, hs.perm [0, 2]⟩) (insRd (readL s))
        (fun xs Fs' => xs = readL s ∧ Fs' = []) (fun pre Fs' => Fs' = [])
        (fun l w f0 R J Jx hJ0 hJo hRo hY hm => (read_it l w by1 s f0 R J Jx hJ0 hJo hRo hY (by omega) hm).mono fun _ Fs h => h) ?_ ?_ ?_
      · rintro i2 qs q args X W S2 l2 bs2 pn2 pn3 hbs2 ⟨hqs, hi2⟩ ⟨A2, c2, rfl, rfl, hc2, hq⟩
        have hql := readL_len (List.mem_of_getElem? hq)
        refine ⟨_, rfl, ?_⟩
        refine call_con [] (fun β w hs => handles_c w A2 q.length c2) ?_
        rintro v Fs ⟨bx2, rfl, rfl⟩
        refine range_rule (α := Hp) (ι := List Nat) (κ := Unit) (rcx_good g) rfl (cv := [.pointer (some ⟨bx2, 0, none⟩)]) rfl (by kernel_rfl) 1 (Nat.le_refl 1)
          (fun hs i => i = ((B ++ qs.flatMap numsL) ++ hs.map (·.2)).foldl setPut []) (fun _ => [⟨0, ty_map_int_struct, [.v (.map (some b1))]⟩]) (fun i => [mapIF .i64 b1 (setM i)]) (fun i => ⟨rfl, trivial⟩)
          (fun e pre i => False) (fun i => []) (fun i => []) (fun i => trivial)
          [bkF bx2 ty_sl_uint8 [.slice A2 q.length c2]] [bsF A2 q] [] ⟨rfl, trivial⟩ (fun g h => by cases h) i2 (by rw [hi2]; simp) (fun β w hs => ⟨β, Agr.refl _ _, (hs.rdRow 1 rfl).perm [1, 0, 2]⟩) (fun _ => insH)
          (fun xs Fs' => xs = scan q 0 ∧ Fs' = []) (fun pre Fs' => (∃ r, scan q 0 = pre ++ r) ∧ Fs' = [])
          (fun l w f0 R J Jx hJ0 hJo hRo hY hm => (handles_it l w bx2 A2 q c2 f0 R J Jx hJ0 hJo hRo hY (by omega) hc2 hm).mono fun _ Fs h => h) ?_ ?_ ?_
        · rintro i3 pre3 x args X W S l bs pn pn' hbs hpre3 ⟨rfl, rfl⟩
          refine ⟨_, rfl, ?_⟩
          refine ⟨_, fun _ => _, fun β w' hs => hs.mapPutJY (rcx_good (rcx_good g)) 1 rfl (t := ty_map_int_struct) (x.2 : Int) (.agg #[]), fun _ => ?_⟩
          refine ⟨setPut i3 x.2, ?_, ?_⟩
          · show setPut i3 x.2 = ((B ++ qs.flatMap numsL) ++ (pre3 ++ [x]).map (·.2)).foldl setPut []
            rw [List.map_append, ← List.append_assoc, List.foldl_append, ← hpre3]
            rfl
          · simp only [← setM_put]
            exact Ent.mk' trivial rfl (fun β w hs => hs.perm [1])
        · rintro hs3 i3 Fs hpre3 ⟨hxs3, rfl⟩
          refine ⟨i3, ⟨?_, ?_⟩, Ent.mk' trivial rfl (fun β w hs => hs)⟩
          · show qs ++ [q] = (readL s).take (qs ++ [q]).length
            rw [List.length_append, List.length_singleton, List.take_add_one, hq, ← hqs]
            rfl
          · show i3 = (B ++ (qs ++ [q]).flatMap numsL).foldl setPut []
            rw [hpre3, hxs3, List.flatMap_append, ← List.append_assoc]
            simp [numsL]
        · rintro e pre j Fs ⟨⟩
      · rintro xs i2 Fs ⟨hqs, hi2⟩ ⟨hxs, rfl⟩
        refine ⟨i2, ⟨?_, ?_⟩, Ent.mk' trivial rfl (fun β w hs => hs)⟩
        · show pre ++ [mkS s] = L.take (pre ++ [mkS s]).length
          rw [List.length_append, List.length_singleton, List.take_add_one, hx, ← hpre]
          rfl
        · show i2 = (numsL t ++ ((pre ++ [mkS s]).map (·.data.toList)).flatMap fun s => (readL s).flatMap numsL).foldl setPut []
          rw [hi2, hxs, List.map_append, List.flatMap_append, ← List.append_assoc, ← hB]
          simp [mkS]
      · rintro e pre j Fs ⟨⟩
    · rintro xs i Fs ⟨hpre, hi⟩ ⟨hxs, rfl⟩
      have hiS : i = (foundL t).foldl setPut [] := by
        rw [hi, hxs, ← hLd, List.map_map, show ((fun b : ByteArray => b.data.toList) ∘ mkS) = id from funext fun l => by simp [mkS], List.map_id]
        rfl
      have hilen : i.length ≤ 1000000 := by
        rw [hiS]
        have h1 := setPuts_len (foundL t) []
        have h2 := foundL_len t
        simp only [List.length_nil] at h1
        omega
      refine call_con [] (fun β w' hs => keysJ_c w' (some b1)) ?_
      rintro v Fs ⟨bk, rfl, rfl⟩
      refine call_con [0, 1] (fun β w' hs => sortedJ_c w' bk b1 i hilen (hs.mem.take (js := [0, 1]) rfl)) ?_
      rintro v Fs ⟨A', c', rfl, rfl⟩
      have e1 : sortN i = foundS t := by rw [hiS]; rfl
      rw [e1]
      intro β w' hs
      have hA' : 0 < (foundS t).length → ∃ ad, A' = some ad := fun h => by
        obtain ⟨ad, h1, _⟩ := (row_rd (show (irowF A' (foundS t) c').p w' from hs.get 0 rfl)).2 h
        exact ⟨ad, h1⟩
      exact (hs.keepB (List.nil_sublist _)).fin [0] ⟨A', c', rfl, hA', rfl⟩
    · rintro e pre j Fs ⟨⟩
  · rintro e pre j Fs ⟨⟩
theorem putL_len (l : List Nat) (n : Nat) : (putL l n).length ≤ l.length + 1 := by
  unfold putL
  split
  · omega
  · rw [List.length_append, List.length_cons, List.length_drop]
    have : (lessT l n).length ≤ l.length := (List.takeWhile_prefix _).length_le
    omega
theorem putsL_len : ∀ (ns l : List Nat), (ns.foldl putL l).length ≤ l.length + ns.length
  | [], l => Nat.le_refl _
  | n :: r, l => by
    have h1 := putsL_len r (putL l n)
    have h2 := putL_len l n
    rw [List.foldl_cons, List.length_cons]
    omega
theorem rfinds28_c (w : World) (A P : Option Addr) (l : List Nat) (p : List UInt8) (c cp : Nat) (hl : p.length ≤ 1000000) (hc : p.length ≤ cp) (hn : l.length ≤ 1900000) (hm : Mem w [irowF A l c, bsF P p]) :
    Con Tryz.prog n_ostiaryref28_finds #[.slice A l.length c, .slice P p.length cp] w [irowF A l c] fun v Fs => ∃ A' c', v = .slice A' ((numsL p).foldl putL l).length c' ∧ Fs = [irowF A' ((numsL p).foldl putL l) c'] := by
  have g := good_ostiaryref28_finds w (Un [irowF A l c])
  have hml := maxLen_eq
  have hs0 : Sat (cx_ostiaryref28_finds w (Un [irowF A l c])) Va.z 0 [] [irowF A l c, bsF P p] w := hm.sat0 rfl (fun f hf ho k hk => by
    simp only [List.mem_cons, List.not_mem_nil, or_false] at hf
    rcases hf with rfl | rfl
    · exact ⟨_, List.mem_singleton.2 rfl, hk⟩
    · cases ho)
  refine con_of_tri (cx := cx_ostiaryref28_finds w (Un [irowF A l c])) g b_ostiaryref28_finds rfl rfl (β := Va.z) [.c (.v (.slice A l.length c)), .c (.v (.slice P p.length cp))] 0 [] _ rfl rfl hs0 ?_
  refine tri_seq g ?_
  refine tri_seq g ?_
  refine call_con [] (fun β w' hs => rfinds_c w' P p cp (hs.get 1 rfl) hl hc) ?_
  rintro v Fs ⟨A1, c1, rfl, hc1, rfl⟩
  obtain ⟨fs, hfs⟩ : ∃ fs, scan p 0 = fs := ⟨_, rfl⟩
  have hfl : fs.length ≤ 1000000 := by
    have := numsL_len p
    unfold numsL at this
    rw [List.length_map, hfs] at this
    omega
  have hnums : numsL p = fs.map (·.2) := by unfold numsL; rw [hfs]
  rw [hnums]
  rw [hfs] at hc1 ⊢
  refine tri_know (p := 0 < fs.length → ∃ ad, A1 = some ad) (fun β w' hs h => by
    obtain ⟨ad, q, _⟩ := (row_rd (show (fndF A1 fs c1).p w' from hs.get 0 rfl)).2 (by omega)
    exact ⟨ad, q⟩) ?_
  intro hA1
  refine loop_rule (ι := Nat × Option Addr × Nat × List Nat) 0 (fun j => [(0, .c (.v (.slice j.2.1 j.2.2.2.length j.2.2.1))), (8, .c (.v (.slice A1 fs.length c1))), (9, .c (.v (.int .i64 (fs.length : Int)))), (10, .c (.v (.int .i64 (j.1 : Int))))]) (fun _ => []) (fun j => [fndF A1 fs c1, irowF j.2.1 j.2.2.2 j.2.2.1])
    (fun j => j.1 ≤ fs.length ∧ j.2.2.2 = ((fs.take j.1).map (·.2)).foldl putL l) (fun j => fs.length - j.1) (0, A, c, l) ⟨Nat.zero_le _, rfl⟩ (Ent.mk' ⟨rfl, rfl, rfl, rfl, trivial⟩ rfl (fun β w' hs => hs.perm [0, 1])) g ?_
  rintro ⟨i, B, d, m⟩ ⟨hi, hm2⟩
  simp only at hi hm2
  have hml2 : m.length ≤ l.length + i := by
    have := putsL_len ((fs.take i).map (·.2)) l
    rw [← hm2, List.length_map, List.length_take] at this
    omega
  refine BIf.dec (fun hlt => ?_) (fun hge => ?_)
  · have hlt0 : (i : Int) < (fs.length : Int) := hlt
    obtain ⟨q, hq, -⟩ := at_lt (show i < fs.length by omega)
    obtain ⟨ad, hAd⟩ := hA1 (by omega)
    refine ⟨ad, i, hAd, rfl, by omega, findV q, rfl, fun β w' hs => ?_, ?_⟩
    · have h2 := Rd.elem (f := findV) (fun _ => rfl) (row_rd (show (fndF A1 fs c1).p w' from hs.get 0 rfl)) hAd (show i < fs.length by omega)
      rw [(List.getElem?_eq_some_iff.1 hq).2] at h2
      exact h2
    refine call_con [1] (fun β w' hs => rput_c w' B m d q.2 (by omega) (hs.mem.take (js := [1]) rfl)) ?_
    rintro v Fs ⟨B2, d2, rfl, rfl⟩
    refine ⟨(((i + 1) : Nat) : Int), by rw [wrap_i64 (by omega) (by omega)]; rfl, ?_⟩
    exact ⟨(i + 1, B2, d2, putL m q.2), ⟨by show i + 1 ≤ _; omega, by show putL m q.2 = ((fs.take (i + 1)).map (·.2)).foldl putL l; rw [List.take_add_one, hq, List.map_append, List.foldl_append, ← hm2]; rfl⟩, by show fs.length - (i + 1) < fs.length - i; omega, Ent.mk' ⟨rfl, rfl, rfl, rfl, trivial⟩ rfl (fun β w' hs => ((hs.keepB (List.nil_sublist _)).perm [1, 0]).lower)⟩
  · have hge0 : ¬ (i : Int) < (fs.length : Int) := hge
    rw [List.take_of_length_le (by omega)] at hm2
    rw [← hm2]
    refine tri_of g ?_
    intro β w' hs
    exact hs.fin [1] ⟨B, d, rfl, rfl⟩
def strs (l : List ByteArray) : List Value := l.map Value.string
theorem strs_one (l : List ByteArray) : ∀ u ∈ strs l, u.oneCell' = true := by
  intro u hu
  obtain ⟨x, _, rfl⟩ := List.mem_map.1 hu
  rfl
abbrev srowF (A : Option Addr) (l : List ByteArray) (c : Nat) : Fact := rowF ty_string 1 (.slice A l.length c) l.length (strs l)
theorem runC_iff (c : UInt8) : runC c = true ↔ (97 ≤ c.toNat ∧ c.toNat ≤ 122) ∨ (65 ≤ c.toNat ∧ c.toNat ≤ 90) ∨ (48 ≤ c.toNat ∧ c.toNat ≤ 57) ∨ c.toNat = 43 ∨ c.toNat = 47 ∨ c.toNat = 45 ∨ c.toNat = 95 := by
  have key : ∀ n : _root_.Fin 256, (runC (UInt8.ofNat n.1) = true ↔ (97 ≤ n.1 ∧ n.1 ≤ 122) ∨ (65 ≤ n.1 ∧ n.1 ≤ 90) ∨ (48 ≤ n.1 ∧ n.1 ≤ 57) ∨ n.1 = 43 ∨ n.1 = 47 ∨ n.1 = 45 ∨ n.1 = 95) := by decide +kernel
  have h := key ⟨c.toNat, c.toNat_lt⟩
  simpa using h
theorem rrun_c (w : World) (c : UInt8) : Pu Tryz.prog n_ostiaryref28_run #[byte c] w (.bool (runC c)) := by
  have g := good_ostiaryref28_run w (Un [])
  refine con_of_sx (cx := cx_ostiaryref28_run w (Un [])) g b_ostiaryref28_run rfl rfl (β := Va.z) [.c (.v (byte c))] 0 [] [] rfl rfl (Sat.start rfl) ?_
  obtain ⟨n, hn⟩ : ∃ n : Int, (c.toNat : Int) = n := ⟨_, rfl⟩
  have hb : byte c = .int .u8 n := by rw [← hn]; rfl
  rw [hb]
  have hT : (97 ≤ n ∧ n ≤ 122) ∨ (65 ≤ n ∧ n ≤ 90) ∨ (48 ≤ n ∧ n ≤ 57) ∨ n = 43 ∨ n = 47 ∨ n = 45 ∨ n = 95 → runC c = true := fun h => (runC_iff c).2 (by omega)
  have hF : ¬ ((97 ≤ n ∧ n ≤ 122) ∨ (65 ≤ n ∧ n ≤ 90) ∨ (48 ≤ n ∧ n ≤ 57) ∨ n = 43 ∨ n = 47 ∨ n = 45 ∨ n = 95) → runC c = false := fun h => Bool.eq_false_iff.2 fun q => h (by have := (runC_iff c).1 q; omega)
  clear hn
  repeat' refine BIf.dec (fun h => ?_) (fun h => ?_)
  all_goals
    intro β w' hs
    refine hs.fin [] ⟨?_, rfl⟩
    first
    | (show Value.bool (decide (n = 95)) = _
       by_cases q : n = 95
       · rw [hT (by omega), decide_eq_true q]
       · rw [hF (by omega), decide_eq_false q])
    | (rw [hT (by omega)]; rfl)
    | (rw [hF (by omega)]; rfl)
theorem runsF_cons_in {s : List UInt8} {c : UInt8} {r : List UInt8} (h : runC c = true) : runsF s (c :: r) = runsF (s ++ [c]) r := by rw [runsF, if_pos h]
theorem runsF_cons_out {s : List UInt8} {c : UInt8} {r : List UInt8} (h : runC c = false) : runsF s (c :: r) = (if s = [] then [] else [s]) ++ runsF [] r := by
  rw [runsF, if_neg (by rw [h]; decide)]
  split <;> rfl
theorem mkS_cat (a b : List UInt8) : mkS a ++ mkS b = mkS (a ++ b) := by
  apply ByteArray.ext
  simp [mkS]
theorem mkS_nil_iff (a : List UInt8) : mkS a = ByteArray.empty ↔ a = [] := by
  constructor
  · intro h
    have := congrArg ByteArray.size h
    rw [mkS_sz] at this
    exact List.length_eq_zero_iff.1 this
  · rintro rfl; rfl
theorem runsF_num : ∀ (t s : List UInt8), (runsF s t).length ≤ t.length + 1
  | [], s => by
    rw [runsF]
    split <;> simp
  | x :: r, s => by
    rw [runsF]
    split
    · have := runsF_num r (s ++ [x])
      rw [List.length_cons]; omega
    · split
      · have := runsF_num r []
        rw [List.length_cons]; omega
      · have := runsF_num r []
        rw [List.length_cons, List.length_cons]; omega
theorem rRuns_c (w : World) (A : Option Addr) (t : List UInt8) (c : Nat) (hl : t.length ≤ 1000000) (hm : Mem w [bsF A t]) :
    Con Tryz.prog n_ostiaryref28_Runs #[.slice A t.length c] w [] fun v Fs => ∃ A' c', v = .slice A' ((runsA t).map mkS).length c' ∧ ((runsA t).map mkS).length ≤ c' ∧ Fs = [srowF A' ((runsA t).map mkS) c'] := by
  have g := good_ostiaryref28_Runs w (Un [])
  have hml := maxLen_eq
  have hs0 : Sat (cx_ostiaryref28_Runs w (Un [])) Va.z 0 [] [bsF A t] w := hm.sat0 rfl (fun f hf ho k hk => by obtain rfl := List.mem_singleton.1 hf; cases ho)
  refine con_of_sx (cx := cx_ostiaryref28_Runs w (Un [])) g b_ostiaryref28_Runs rfl rfl (β := Va.z) [.c (.v (.slice A t.length c))] 0 [] _ rfl rfl hs0 ?_
  obtain ⟨L, hL⟩ : ∃ L, (runsA t).map mkS = L := ⟨_, rfl⟩
  have hLl : L.length ≤ t.length + 1 := by rw [← hL, List.length_map]; exact runsF_num t []
  rw [hL]
  refine loop_rule (ι := Nat × List UInt8 × Option Addr × Nat × List ByteArray) 0 (fun j => [(3, .c (.v (.slice j.2.2.1 j.2.2.2.2.length j.2.2.2.1))), (4, .c (.v (.string (mkS j.2.1)))), (7, .c (.v (.slice A t.length c))), (8, .c (.v (.int .i64 (t.length : Int)))), (9, .c (.v (.int .i64 (j.1 : Int))))]) (fun _ => []) (fun j => [srowF j.2.2.1 j.2.2.2.2 j.2.2.2.1, bsF A t])
    (fun j => j.1 ≤ t.length ∧ L = j.2.2.2.2 ++ (runsF j.2.1 (t.drop j.1)).map mkS ∧ j.2.1.length ≤ j.1) (fun j => t.length - j.1) (0, [], none, 0, []) ⟨Nat.zero_le _, hL.symm, Nat.le_refl _⟩ (Ent.mk' ⟨rfl, rfl, rfl, rfl, rfl, trivial⟩ rfl (fun β w' hs => hs.nilRow ty_string 1)) g ?_
  rintro ⟨i, s, B, d, out⟩ ⟨hi, hLo, hsl⟩
  simp only at hi hLo hsl
  refine BIf.dec (fun hlt => ?_) (fun hge => ?_)
  · have hlt0 : (i : Int) < (t.length : Int) := hlt
    obtain ⟨x, hx, -⟩ := at_lt (show i < t.length by omega)
    obtain ⟨ad, hA⟩ := Bs.addr (show Bs w A t from hm.fact (bsF A t) (by simp)) (by omega)
    have hdr : t.drop i = x :: t.drop (i + 1) := by rw [List.drop_eq_getElem_cons (show i < t.length by omega), (List.getElem?_eq_some_iff.1 hx).2]
    rw [hdr] at hLo
    refine ⟨ad, i, hA, rfl, by omega, ?_⟩
    refine ⟨byte x, fun β w' hs => Rd.cell1 (show Rd 1 (some ad) t.length (t.map byte) w' from hA ▸ hs.get 1 rfl) (by rw [List.getElem?_map, hx]; rfl), ?_⟩
    refine call_pu (fun β w' hs => rrun_c w' x) ?_
    cases hr : runC x with
    | true =>
      rw [runsF_cons_in hr] at hLo
      intro b1
      refine ⟨[x], fun β w' hs => row_rd (hs.get 0 rfl), ?_⟩
      refine ⟨by rw [mkS_sz, hml]; show s.length + 1 ≤ _; omega, ?_⟩
      have e1 : mkS s ++ (⟨#[x]⟩ : ByteArray) = mkS (s ++ [x]) := mkS_cat s [x]
      refine ⟨(((i + 1) : Nat) : Int), by rw [wrap_i64 (by omega) (by omega)]; rfl, ?_⟩
      exact ⟨(i + 1, s ++ [x], B, d, out), ⟨by show i + 1 ≤ _; omega, hLo, by show (s ++ [x]).length ≤ i + 1; rw [List.length_append]; show s.length + 1 ≤ _; omega⟩, by show t.length - (i + 1) < t.length - i; omega, Ent.mk' ⟨rfl, by rw [← e1]; rfl, rfl, rfl, rfl, trivial⟩ rfl (fun β w' hs => hs.perm [1, 2])⟩
    | false =>
      rw [runsF_cons_out hr, List.map_append, ← List.append_assoc] at hLo
      refine BIf.not (BIf.dec (fun he => ?_) (fun hne => ?_))
      · have hs0 : s = [] := (mkS_nil_iff s).1 he
        rw [if_pos hs0, List.map_nil, List.append_nil] at hLo
        refine ⟨(((i + 1) : Nat) : Int), by rw [wrap_i64 (by omega) (by omega)]; rfl, ?_⟩
        exact ⟨(i + 1, [], B, d, out), ⟨by show i + 1 ≤ _; omega, hLo, Nat.zero_le _⟩, by show t.length - (i + 1) < t.length - i; omega, Ent.mk' ⟨rfl, rfl, rfl, rfl, rfl, trivial⟩ rfl (fun β w' hs => hs)⟩
      · have hs0 : ¬ s = [] := fun q => hne ((mkS_nil_iff s).2 q)
        rw [if_neg hs0] at hLo
        intro b1
        obtain ⟨out2, hout2⟩ : ∃ out2, out2 = out ++ [mkS s] := ⟨_, rfl⟩
        have hol2 : out.length + 1 = out2.length := by rw [hout2, List.length_append]; rfl
        have hoL : out2.length ≤ L.length := by rw [hLo, hout2]; simp
        refine ⟨1, out.length, out2.length, strs out, strs [mkS s], strs out2, rfl, fun β w' hs => row_rd (hs.get 0 rfl), strs_one _, hol2, by rw [hout2]; simp [strs], by rw [hml]; omega, by show out2.length * 16 ≤ _; omega, ?_⟩
        intro B2 d2 r1 r2 r3
        refine ⟨(((i + 1) : Nat) : Int), by rw [wrap_i64 (by omega) (by omega)]; rfl, ?_⟩
        exact ⟨(i + 1, [], B2, d2, out2), ⟨by show i + 1 ≤ _; omega, by rw [hout2]; exact hLo, Nat.zero_le _⟩, by show t.length - (i + 1) < t.length - i; omega, Ent.mk' ⟨rfl, rfl, rfl, rfl, rfl, trivial⟩ rfl (fun β w' hs => hs.perm [1, 2])⟩
  · have hge0 : ¬ (i : Int) < (t.length : Int) := hge
    rw [List.drop_of_length_le (by omega), runsF] at hLo
    refine BIf.not (BIf.dec (fun he => ?_) (fun hne => ?_))
    · have hs0 : s = [] := (mkS_nil_iff s).1 he
      rw [if_pos hs0, List.map_nil, List.append_nil] at hLo
      rw [hLo]
      intro β w' hs
      exact hs.fin [0] ⟨B, d, rfl, row_cap (hs.get 0 rfl), rfl⟩
    · have hs0 : ¬ s = [] := fun q => hne ((mkS_nil_iff s).2 q)
      rw [if_neg hs0] at hLo
      intro b1
      obtain ⟨out2, hout2⟩ : ∃ out2, out2 = out ++ [mkS s] := ⟨_, rfl⟩
      have hol2 : out.length + 1 = out2.length := by rw [hout2, List.length_append]; rfl
      have hoL : out2.length ≤ L.length := by rw [hLo, hout2]; simp
      refine ⟨1, out.length, out2.length, strs out, strs [mkS s], strs out2, rfl, fun β w' hs => row_rd (hs.get 0 rfl), strs_one _, hol2, by rw [hout2]; simp [strs], by rw [hml]; omega, by show out2.length * 16 ≤ _; omega, ?_⟩
      intro B2 d2 r1 r2 r3
      rw [show L = out2 by rw [hLo, hout2]; rfl]
      intro β w' hs
      exact hs.fin [1] ⟨B2, d2, rfl, row_cap (hs.get 1 rfl), rfl⟩
theorem eqs_snoc (m : Nat) : eqs m ++ [61] = eqs (m + 1) := by
  unfold eqs
  rw [List.replicate_succ']
theorem eqs_len (m : Nat) : (eqs m).length = m := by simp [eqs]
theorem Con.weak {P : Program} {k : FuncId} {args : Array Value} {w : World} {Gs Gs' : List Fact} {R : Value → List Fact → Prop} (h : Con P k args w Gs R) (hs : ∀ i, Un Gs i → Un Gs' i) : Con P k args w Gs' R :=
  Calls.mono h fun _ _ ⟨v, he, Fs, h1, h2, h3, h4, h5⟩ => ⟨v, he, Fs, h1, h2.mono fun i _ q => hs i q, h3, h4, fun f hf k hk => (h5 f hf k hk).imp (hs k) id⟩
theorem rfinds0_c (w : World) (P : Option Addr) (p : List UInt8) (cp : Nat) (hl : p.length ≤ 1000000) (hc : p.length ≤ cp) (hp : Bs w P p) :
    Con Tryz.prog n_ostiaryref28_finds #[.slice none 0 0, .slice P p.length cp] w [] fun v Fs => ∃ A' c', v = .slice A' ((numsL p).foldl putL []).length c' ∧ Fs = [irowF A' ((numsL p).foldl putL []) c'] := by
  have h := rfinds28_c w none P [] p 0 cp hl hc (by decide) (((Sat.start (cx := cx_ostiaryref28_finds w (Un [])) (β := Va.z) (n := 0) rfl).rd (fun _ h => by cases h) hp).nilRow ty_int 1).mem
  exact Con.weak h (fun k hk => by
    obtain ⟨f, hf, hk⟩ := hk
    obtain rfl := List.mem_singleton.1 hf
    cases hk)
theorem rFound_c (w : World) (A : Option Addr) (t : List UInt8) (c : Nat) (hl : t.length ≤ 70000) (hc : t.length ≤ c) (hm : Mem w [bsF A t]) :
    Con Tryz.prog n_ostiaryref28_Found #[.slice A t.length c] w [] fun v Fs => ∃ A' c', v = .slice A' ((foundL t).foldl putL []).length c' ∧ Fs = [irowF A' ((foundL t).foldl putL []) c'] := by
  have g := good_ostiaryref28_Found w (Un [])
  have hml := maxLen_eq
  have hs0 : Sat (cx_ostiaryref28_Found w (Un [])) Va.z 0 [] [bsF A t] w := hm.sat0 rfl (fun f hf ho k hk => by obtain rfl := List.mem_singleton.1 hf; cases ho)
  refine con_of_sx (cx := cx_ostiaryref28_Found w (Un [])) g b_ostiaryref28_Found rfl rfl (β := Va.z) [.c (.v (.slice A t.length c))] 0 [] _ rfl rfl hs0 ?_
  refine call_con [] (fun β w' hs => rfinds0_c w' A t c (by omega) hc (hs.get 0 rfl)) ?_
  rintro v Fs ⟨B, d, rfl, rfl⟩
  refine call_con [] (fun β w' hs => rRuns_c w' A t c (by omega) (hs.mem.take (js := [1]) rfl)) ?_
  rintro v Fs ⟨S, sc, rfl, _, rfl⟩
  obtain ⟨R, hR⟩ : ∃ R, runsA t = R := ⟨_, rfl⟩
  have hFL : foundL t = numsL t ++ R.flatMap fun s => (readL s).flatMap numsL := by unfold foundL; rw [hR]
  have hFl := foundL_len t
  have hRl : ∀ s ∈ R, s.length ≤ t.length := fun s h => runsA_len (by rw [hR]; exact h)
  have hRn : R.length ≤ t.length + 1 := by rw [← hR]; exact runsF_num t []
  rw [hR]
  refine tri_know (p := 0 < R.length → ∃ ad, S = some ad) (fun β w' hs h => by
    obtain ⟨ad, q, _⟩ := (row_rd (show (srowF S (R.map mkS) sc).p w' from hs.get 0 rfl)).2 (by rw [List.length_map]; omega)
    exact ⟨ad, q⟩) ?_
  intro hSad
  have hRm : (R.map mkS).length = R.length := List.length_map ..
  refine loop_rule (ι := Nat × Option Addr × Nat × List Nat) 0 (fun j => [(3, .c (.v (.slice j.2.1 j.2.2.2.length j.2.2.1))), (16, .c (.v (.slice S (R.map mkS).length sc))), (17, .c (.v (.int .i64 ((R.map mkS).length : Int)))), (18, .c (.v (.int .i64 (j.1 : Int))))]) (fun _ => []) (fun j => [irowF j.2.1 j.2.2.2 j.2.2.1, srowF S (R.map mkS) sc])
    (fun j => j.1 ≤ R.length ∧ j.2.2.2 = (numsL t ++ (R.take j.1).flatMap fun s => (readL s).flatMap numsL).foldl putL []) (fun j => R.length - j.1) (0, B, d, (numsL t).foldl putL []) ⟨Nat.zero_le _, by simp⟩ (Ent.mk' ⟨rfl, rfl, rfl, rfl, trivial⟩ rfl (fun β w' hs => hs.perm [1, 0])) g ?_
  rintro ⟨i, B, d, l⟩ ⟨hi, hle⟩
  simp only at hi hle
  have hll : l.length ≤ 13 * t.length + 9 := by
    have h1 := putsL_len (numsL t ++ (R.take i).flatMap fun s => (readL s).flatMap numsL) []
    rw [← hle] at h1
    have h2 : (numsL t ++ (R.take i).flatMap fun s => (readL s).flatMap numsL).length ≤ (foundL t).length := by
      rw [hFL]
      conv => rhs; rw [← List.take_append_drop i R, List.flatMap_append, ← List.append_assoc, List.length_append]
      omega
    simp only [List.length_nil] at h1
    omega
  refine BIf.dec (fun hlt => ?_) (fun hge => ?_)
  · have hlt0 : (i : Int) < ((R.map mkS).length : Int) := hlt
    rw [hRm] at hlt0
    obtain ⟨s, hs, hsm⟩ := at_lt (show i < R.length by omega)
    obtain ⟨ad, hSA⟩ := hSad (by omega)
    have hsl := hRl s hsm
    have hnext : ∀ l' : List Nat, l' = ((readL s).flatMap numsL).foldl putL l → l' = (numsL t ++ (R.take (i + 1)).flatMap fun s => (readL s).flatMap numsL).foldl putL [] := fun l' h => by
      rw [h, hle, List.take_add_one, hs, List.flatMap_append, ← List.append_assoc, List.foldl_append]
      simp
    refine ⟨ad, i, hSA, rfl, by omega, ?_⟩
    refine ⟨.string (mkS s), fun β w' hs2 => Rd.cell1 (show Rd 1 (some ad) (R.map mkS).length (strs (R.map mkS)) w' from hSA ▸ row_rd (hs2.get 1 rfl)) (by unfold strs; rw [List.getElem?_map, List.getElem?_map, hs]; rfl), ?_⟩
    refine loop_rule (ι := Nat) 0 (fun j => [(3, .c (.v (.slice B l.length d))), (5, .c (.v (.string (mkS s)))), (6, .c (.v (.string (mkS (s ++ eqs j))))), (16, .c (.v (.slice S (R.map mkS).length sc))), (17, .c (.v (.int .i64 ((R.map mkS).length : Int)))), (18, .c (.v (.int .i64 (i : Int))))]) (fun _ => []) (fun _ => [irowF B l d, srowF S (R.map mkS) sc])
      (fun j => j ≤ (4 - s.length % 4) % 4) (fun j => 4 - j) (0 : Nat) (Nat.zero_le _) (Ent.mk' ⟨rfl, rfl, by simp only [eqs, List.replicate_zero, List.append_nil]; rfl, rfl, rfl, rfl, trivial⟩ rfl (fun β w' hs => hs)) g ?_
    intro m hm4
    have hfz : (mkS (s ++ eqs m)).size = s.length + m := by rw [mkS_sz, List.length_append, eqs_len]
    refine ⟨by first | decide | omega, ?_⟩
    refine ⟨(((mkS (s ++ eqs m)).size % 4 : Nat) : Int), Int.ofNat_tmod _ _, ?_⟩
    refine BIf.not (BIf.dec (fun h4 => ?_) (fun h4 => ?_))
    · have h40 : (((mkS (s ++ eqs m)).size % 4 : Nat) : Int) = 0 := h4
      have hme : m = (4 - s.length % 4) % 4 := by omega
      have hrd : readL s = (decP (s ++ eqs m)).toList ++ ((decU s).toList ++ (unhexA s).toList) := by unfold readL; rw [hme]
      have hmemL : ∀ q, q ∈ readL s → q.length ≤ s.length + 3 := fun q h => readL_len h
      refine call_con [] (R := decOutP (decP (s ++ eqs m))) (fun β w' hs => rDecode_c w' (s ++ eqs m) false (by rw [List.length_append, eqs_len]; omega)) ?_
      rintro v Fs ⟨Q0, q0, cq0, e0, rfl, hle0, hcq0, rfl⟩
      rcases hle0 with ⟨rfl, ho0⟩ | ⟨hne0, ho0⟩
      · have hq0 : q0.length ≤ s.length + 3 := hmemL q0 (by rw [hrd]; simp [ho0])
        have hn0 := numsL_len q0
        refine call_con [1] (fun β w' hs => rfinds28_c w' B Q0 l q0 d cq0 (by omega) hcq0 (by omega) ((hs.rdRow 0 rfl).mem.take (js := [1, 0]) rfl)) ?_
        rintro v Fs ⟨B0, d0, rfl, rfl⟩
        have hb0 := putsL_len (numsL q0) l
        obtain ⟨l0, hl0⟩ : ∃ l0, (numsL q0).foldl putL l = l0 := ⟨_, rfl⟩
        rw [hl0] at hb0 ⊢
        refine call_con [] (R := decOutP (decU s)) (fun β w' hs => rDecode_c w' s true (by omega)) ?_
        rintro v Fs ⟨Q1, q1, cq1, e1, rfl, hle1, hcq1, rfl⟩
        rcases hle1 with ⟨rfl, ho1⟩ | ⟨hne1, ho1⟩
        · have hq1 : q1.length ≤ s.length + 3 := hmemL q1 (by rw [hrd]; simp [ho1])
          have hn1 := numsL_len q1
          refine call_con [1] (fun β w' hs => rfinds28_c w' B0 Q1 l0 q1 d0 cq1 (by omega) hcq1 (by omega) ((hs.rdRow 0 rfl).mem.take (js := [1, 0]) rfl)) ?_
          rintro v Fs ⟨B1, d1, rfl, rfl⟩
          have hb1 := putsL_len (numsL q1) l0
          obtain ⟨l1, hl1⟩ : ∃ l1, (numsL q1).foldl putL l0 = l1 := ⟨_, rfl⟩
          rw [hl1] at hb1 ⊢
          refine call_con [] (R := decOutP (unhexA s)) (fun β w' hs => rUnhex_c w' s (by omega)) ?_
          rintro v Fs ⟨Q2, q2, cq2, e2, rfl, hle2, hcq2, rfl⟩
          rcases hle2 with ⟨rfl, ho2⟩ | ⟨hne2, ho2⟩
          · have hq2 : q2.length ≤ s.length + 3 := hmemL q2 (by rw [hrd]; simp [ho2])
            have hn2 := numsL_len q2
            refine call_con [1] (fun β w' hs => rfinds28_c w' B1 Q2 l1 q2 d1 cq2 (by omega) hcq2 (by omega) ((hs.rdRow 0 rfl).mem.take (js := [1, 0]) rfl)) ?_
            rintro v Fs ⟨B2, d2, rfl, rfl⟩
            have hb2 := putsL_len (numsL q2) l1
            obtain ⟨l2, hl2⟩ : ∃ l2, (numsL q2).foldl putL l1 = l2 := ⟨_, rfl⟩
            rw [hl2] at hb2 ⊢
            refine ⟨(((i + 1) : Nat) : Int), by rw [wrap_i64 (by omega) (by omega)]; rfl, ?_⟩
            have hfin : (readL s).flatMap numsL = numsL q0 ++ numsL q1 ++ numsL q2 := by rw [hrd]; simp [ho0, ho1, ho2]
            exact ⟨(i + 1, B2, d2, l2), ⟨by show i + 1 ≤ R.length; omega, hnext _ (by rw [hfin]; simp [List.foldl_append, ← hl0, ← hl1, ← hl2])⟩, by show R.length - (i + 1) < R.length - i; omega, Ent.mk' ⟨rfl, rfl, rfl, rfl, trivial⟩ rfl (fun β w' hs => hs.perm [0, 4])⟩
          · refine BIf.dec (fun h => absurd h (show ¬ (e2 = 0) by omega)) (fun _ => ?_)
            refine ⟨(((i + 1) : Nat) : Int), by rw [wrap_i64 (by omega) (by omega)]; rfl, ?_⟩
            have hfin : (readL s).flatMap numsL = numsL q0 ++ numsL q1 := by rw [hrd]; simp [ho0, ho1, ho2]
            exact ⟨(i + 1, B1, d1, l1), ⟨by show i + 1 ≤ R.length; omega, hnext _ (by rw [hfin]; simp [List.foldl_append, ← hl0, ← hl1])⟩, by show R.length - (i + 1) < R.length - i; omega, Ent.mk' ⟨rfl, rfl, rfl, rfl, trivial⟩ rfl (fun β w' hs => hs.perm [1, 4])⟩
        · refine BIf.dec (fun h => absurd h (show ¬ (e1 = 0) by omega)) (fun _ => ?_)
          refine call_con [] (R := decOutP (unhexA s)) (fun β w' hs => rUnhex_c w' s (by omega)) ?_
          rintro v Fs ⟨Q2, q2, cq2, e2, rfl, hle2, hcq2, rfl⟩
          rcases hle2 with ⟨rfl, ho2⟩ | ⟨hne2, ho2⟩
          · have hq2 : q2.length ≤ s.length + 3 := hmemL q2 (by rw [hrd]; simp [ho2])
            have hn2 := numsL_len q2
            refine call_con [2] (fun β w' hs => rfinds28_c w' B0 Q2 l0 q2 d0 cq2 (by omega) hcq2 (by omega) ((hs.rdRow 0 rfl).mem.take (js := [2, 0]) rfl)) ?_
            rintro v Fs ⟨B2, d2, rfl, rfl⟩
            have hb2 := putsL_len (numsL q2) l0
            obtain ⟨l2, hl2⟩ : ∃ l2, (numsL q2).foldl putL l0 = l2 := ⟨_, rfl⟩
            rw [hl2] at hb2 ⊢
            refine ⟨(((i + 1) : Nat) : Int), by rw [wrap_i64 (by omega) (by omega)]; rfl, ?_⟩
            have hfin : (readL s).flatMap numsL = numsL q0 ++ numsL q2 := by rw [hrd]; simp [ho0, ho1, ho2]
            exact ⟨(i + 1, B2, d2, l2), ⟨by show i + 1 ≤ R.length; omega, hnext _ (by rw [hfin]; simp [List.foldl_append, ← hl0, ← hl2])⟩, by show R.length - (i + 1) < R.length - i; omega, Ent.mk' ⟨rfl, rfl, rfl, rfl, trivial⟩ rfl (fun β w' hs => hs.perm [0, 4])⟩
          · refine BIf.dec (fun h => absurd h (show ¬ (e2 = 0) by omega)) (fun _ => ?_)
            refine ⟨(((i + 1) : Nat) : Int), by rw [wrap_i64 (by omega) (by omega)]; rfl, ?_⟩
            have hfin : (readL s).flatMap numsL = numsL q0 := by rw [hrd]; simp [ho0, ho1, ho2]
            exact ⟨(i + 1, B0, d0, l0), ⟨by show i + 1 ≤ R.length; omega, hnext _ (by rw [hfin]; simp [List.foldl_append, ← hl0])⟩, by show R.length - (i + 1) < R.length - i; omega, Ent.mk' ⟨rfl, rfl, rfl, rfl, trivial⟩ rfl (fun β w' hs => hs.perm [2, 4])⟩
      · refine BIf.dec (fun h => absurd h (show ¬ (e0 = 0) by omega)) (fun _ => ?_)
        refine call_con [] (R := decOutP (decU s)) (fun β w' hs => rDecode_c w' s true (by omega)) ?_
        rintro v Fs ⟨Q1, q1, cq1, e1, rfl, hle1, hcq1, rfl⟩
        rcases hle1 with ⟨rfl, ho1⟩ | ⟨hne1, ho1⟩
        · have hq1 : q1.length ≤ s.length + 3 := hmemL q1 (by rw [hrd]; simp [ho1])
          have hn1 := numsL_len q1
          refine call_con [2] (fun β w' hs => rfinds28_c w' B Q1 l q1 d cq1 (by omega) hcq1 (by omega) ((hs.rdRow 0 rfl).mem.take (js := [2, 0]) rfl)) ?_
          rintro v Fs ⟨B1, d1, rfl, rfl⟩
          have hb1 := putsL_len (numsL q1) l
          obtain ⟨l1, hl1⟩ : ∃ l1, (numsL q1).foldl putL l = l1 := ⟨_, rfl⟩
          rw [hl1] at hb1 ⊢
          refine call_con [] (R := decOutP (unhexA s)) (fun β w' hs => rUnhex_c w' s (by omega)) ?_
          rintro v Fs ⟨Q2, q2, cq2, e2, rfl, hle2, hcq2, rfl⟩
          rcases hle2 with ⟨rfl, ho2⟩ | ⟨hne2, ho2⟩
          · have hq2 : q2.length ≤ s.length + 3 := hmemL q2 (by rw [hrd]; simp [ho2])
            have hn2 := numsL_len q2
            refine call_con [1] (fun β w' hs => rfinds28_c w' B1 Q2 l1 q2 d1 cq2 (by omega) hcq2 (by omega) ((hs.rdRow 0 rfl).mem.take (js := [1, 0]) rfl)) ?_
            rintro v Fs ⟨B2, d2, rfl, rfl⟩
            have hb2 := putsL_len (numsL q2) l1
            obtain ⟨l2, hl2⟩ : ∃ l2, (numsL q2).foldl putL l1 = l2 := ⟨_, rfl⟩
            rw [hl2] at hb2 ⊢
            refine ⟨(((i + 1) : Nat) : Int), by rw [wrap_i64 (by omega) (by omega)]; rfl, ?_⟩
            have hfin : (readL s).flatMap numsL = numsL q1 ++ numsL q2 := by rw [hrd]; simp [ho0, ho1, ho2]
            exact ⟨(i + 1, B2, d2, l2), ⟨by show i + 1 ≤ R.length; omega, hnext _ (by rw [hfin]; simp [List.foldl_append, ← hl1, ← hl2])⟩, by show R.length - (i + 1) < R.length - i; omega, Ent.mk' ⟨rfl, rfl, rfl, rfl, trivial⟩ rfl (fun β w' hs => hs.perm [0, 4])⟩
          · refine BIf.dec (fun h => absurd h (show ¬ (e2 = 0) by omega)) (fun _ => ?_)
            refine ⟨(((i + 1) : Nat) : Int), by rw [wrap_i64 (by omega) (by omega)]; rfl, ?_⟩
            have hfin : (readL s).flatMap numsL = numsL q1 := by rw [hrd]; simp [ho0, ho1, ho2]
            exact ⟨(i + 1, B1, d1, l1), ⟨by show i + 1 ≤ R.length; omega, hnext _ (by rw [hfin]; simp [List.foldl_append, ← hl1])⟩, by show R.length - (i + 1) < R.length - i; omega, Ent.mk' ⟨rfl, rfl, rfl, rfl, trivial⟩ rfl (fun β w' hs => hs.perm [1, 4])⟩
        · refine BIf.dec (fun h => absurd h (show ¬ (e1 = 0) by omega)) (fun _ => ?_)
          refine call_con [] (R := decOutP (unhexA s)) (fun β w' hs => rUnhex_c w' s (by omega)) ?_
          rintro v Fs ⟨Q2, q2, cq2, e2, rfl, hle2, hcq2, rfl⟩
          rcases hle2 with ⟨rfl, ho2⟩ | ⟨hne2, ho2⟩
          · have hq2 : q2.length ≤ s.length + 3 := hmemL q2 (by rw [hrd]; simp [ho2])
            have hn2 := numsL_len q2
            refine call_con [3] (fun β w' hs => rfinds28_c w' B Q2 l q2 d cq2 (by omega) hcq2 (by omega) ((hs.rdRow 0 rfl).mem.take (js := [3, 0]) rfl)) ?_
            rintro v Fs ⟨B2, d2, rfl, rfl⟩
            have hb2 := putsL_len (numsL q2) l
            obtain ⟨l2, hl2⟩ : ∃ l2, (numsL q2).foldl putL l = l2 := ⟨_, rfl⟩
            rw [hl2] at hb2 ⊢
            refine ⟨(((i + 1) : Nat) : Int), by rw [wrap_i64 (by omega) (by omega)]; rfl, ?_⟩
            have hfin : (readL s).flatMap numsL = numsL q2 := by rw [hrd]; simp [ho0, ho1, ho2]
            exact ⟨(i + 1, B2, d2, l2), ⟨by show i + 1 ≤ R.length; omega, hnext _ (by rw [hfin]; simp [List.foldl_append, ← hl2])⟩, by show R.length - (i + 1) < R.length - i; omega, Ent.mk' ⟨rfl, rfl, rfl, rfl, trivial⟩ rfl (fun β w' hs => hs.perm [0, 4])⟩
          · refine BIf.dec (fun h => absurd h (show ¬ (e2 = 0) by omega)) (fun _ => ?_)
            refine ⟨(((i + 1) : Nat) : Int), by rw [wrap_i64 (by omega) (by omega)]; rfl, ?_⟩
            have hfin : (readL s).flatMap numsL = [] := by rw [hrd]; simp [ho0, ho1, ho2]
            exact ⟨(i + 1, B, d, l), ⟨by show i + 1 ≤ R.length; omega, hnext _ (by rw [hfin]; simp [List.foldl_append])⟩, by show R.length - (i + 1) < R.length - i; omega, Ent.mk' ⟨rfl, rfl, rfl, rfl, trivial⟩ rfl (fun β w' hs => hs.perm [3, 4])⟩
    · have h40 : ¬ (((mkS (s ++ eqs m)).size % 4 : Nat) : Int) = 0 := h4
      refine ⟨by rw [hfz, hml]; show s.length + m + 1 ≤ _; omega, ?_⟩
      have e1 : mkS (s ++ eqs m) ++ (⟨#[61]⟩ : ByteArray) = mkS (s ++ eqs (m + 1)) := by
        rw [← eqs_snoc, ← List.append_assoc]
        exact mkS_cat (s ++ eqs m) [61]
      exact ⟨m + 1, by omega, by omega, Ent.mk' ⟨rfl, rfl, by rw [← e1]; rfl, rfl, rfl, rfl, trivial⟩ rfl (fun β w' hs => hs)⟩
  · have hge0 : ¬ (i : Int) < ((R.map mkS).length : Int) := hge
    rw [List.take_of_length_le (by omega), ← hFL] at hle
    rw [← hle]
    intro β w' hs
    exact hs.fin [0] ⟨B, d, rfl, rfl⟩
def holdsB (p s : List UInt8) : Bool := (List.range (p.length + 1)).any fun i => decide ((p.drop i).take s.length = s)
def mlF : Fact where
  own := false
  D := fun k => k = 1
  p := fun w => ∃ m : Int, w.cell? ⟨1, 0, none⟩ = some (.int .i64 m)
  st := fun w w' hs ⟨m, h⟩ => ⟨m, by rw [← h]; exact World.cell?_of_block (hs _ rfl)⟩
theorem addr_add0 (a : Addr) : a.add 0 = a := by cases a; simp [Addr.add]
theorem bytesOf_nums (p : List UInt8) : _root_.Go.Lib.bytesOf (p.map fun x => (x.toNat : Int)) = p := by
  unfold _root_.Go.Lib.bytesOf
  rw [List.map_map]
  refine (List.map_congr_left fun x _ => ?_).trans (List.map_id p)
  show UInt8.ofNat (x.toNat : Int).toNat = x
  rw [Int.toNat_natCast]
  exact UInt8.ofNat_toNat
theorem occ_iff (p s : List UInt8) (i : Nat) : _root_.Go.Lib.occAt p s i = decide ((p.drop i).take s.length = s) := by
  unfold _root_.Go.Lib.occAt
  rw [Bool.eq_iff_iff, List.isPrefixOf_iff_prefix, decide_eq_true_iff, List.prefix_iff_eq_take]
  exact eq_comm
theorem contains_holds (p s : List UInt8) : _root_.Go.Lib.contains p s = holdsB p s := by
  rw [Bool.eq_iff_iff]
  unfold _root_.Go.Lib.contains holdsB
  rw [decide_eq_true_iff, List.any_eq_true]
  rcases _root_.Go.Lib.index_spec p s with ⟨h, hn⟩ | ⟨i, h, hi, ho, _⟩
  · constructor
    · intro q
      omega
    · rintro ⟨i, hi, hd⟩
      have := hn i (by have := List.mem_range.1 hi; omega)
      rw [occ_iff] at this
      rw [this] at hd
      cases hd
  · constructor
    · intro _
      exact ⟨i, List.mem_range.2 (by omega), by rw [← occ_iff]; exact ho⟩
    · intro _
      omega
theorem bs_nums {w : World} {ad : Addr} {p : List UInt8} (hp : Bs w (some ad) p) : ∀ i, i < p.length → w.cell? (ad.add i) = some (.int .u8 ((p.map fun x => (x.toNat : Int)).getD i 0)) := fun i hi => by
  obtain ⟨ad', q, h⟩ := hp.2 (Nat.lt_of_le_of_lt (Nat.zero_le _) hi)
  cases q
  refine h i _ ?_
  rw [List.getElem?_map, List.getElem?_eq_getElem hi, List.getD_eq_getElem?_getD, List.getElem?_map, List.getElem?_eq_getElem hi]
  rfl
theorem nums_rng (p : List UInt8) : ∀ x ∈ p.map (fun x => (x.toNat : Int)), 0 ≤ x ∧ x < 256 := fun x hx => by
  obtain ⟨y, _, rfl⟩ := List.mem_map.1 hx
  have := y.toNat_lt
  omega
theorem contains_c (w : World) (A B : Option Addr) (p s : List UInt8) (c d : Nat) (hp : Bs w A p) (hs : Bs w B s) (h0 : s ≠ []) (hpc : p.length ≤ c) (hpl : p.length ≤ 1000000) (hl : s.length ≤ 1000000) (hA : A = none → c = 0) (hm : mlF.p w) : Pu Tryz.prog n_bytes_Contains #[.slice A p.length c, .slice B s.length d] w (.bool (holdsB p s)) := by
  obtain ⟨m, hm⟩ := hm
  have hsp : 0 < s.length := List.length_pos_iff.2 h0
  obtain ⟨a2, rfl⟩ := Bs.addr hs hsp
  have hc2 := bs_nums hs
  cases A with
  | none =>
    obtain rfl : p = [] := by
      cases p with
      | nil => rfl
      | cons x r =>
        obtain ⟨ad, q, _⟩ := hp.2 (Nat.succ_pos _)
        cases q
    obtain rfl := hA rfl
    have hpl2 := _root_.Go.Lib.plain_of_cell (hc2 0 hsp)
    rw [addr_add0] at hpl2
    refine pu_of (Calls.mono (Tryz.bytes_Contains_nil (some a2) s.length d w (by omega) (fun _ => ⟨a2.block, a2.off, _, congrArg some hpl2, by have h := hc2 0 hsp; rw [addr_add0, hpl2] at h; exact h⟩)) ?_)
    rintro e w' ⟨rfl, rfl⟩
    refine ⟨_, rfl, ?_, Chg.refl _ _⟩
    rw [decide_eq_false (show ¬ s.length = 0 by omega)]
    have : holdsB [] s = false := by
      unfold holdsB
      rw [List.any_eq_false]
      intro i _ q
      have := of_decide_eq_true q
      simp at this
      exact h0 this
    rw [this]
  | some a1 =>
    refine pu_of (Calls.mono (Tryz.bytes_Contains_at a1 a2 p.length c s.length d (p.map fun x => (x.toNat : Int)) (s.map fun x => (x.toNat : Int)) m w (by simp) (by simp) (nums_rng p) (nums_rng s) (bs_nums hp) hc2 hpc (by omega) (by omega) hm) ?_)
    rintro e w' ⟨rfl, q, rfl⟩
    refine ⟨_, rfl, ?_, ⟨rfl, rfl, rfl, Nat.le_refl _, fun _ _ _ => rfl⟩⟩
    rw [bytesOf_nums, bytesOf_nums, contains_holds]
def secsF (P : Option Addr) (ps : List Part) : Fact where
  own := true
  D := (partF P ps).D
  p := fun w => (partF P ps).p w
  st := fun w w' hs h => (partF P ps).st w w' hs h
structure Md where
  b : Nat
  bx : Nat
  P : Option Addr
  ps : List Part
  c : Nat
  m : Nat
  seen : List Nat
def Md.vs (x : Md) : List Value := [.pointer (some ⟨x.bx, 0, none⟩), .slice x.P x.ps.length x.c, .map (some x.m)]
def mdFs (x : Md) : List Fact := [bkF x.b ty_knows_Mind x.vs, secsF x.P x.ps, mapIF .i64 x.m (setM x.seen)]
def plainB (ss : List (List UInt8)) (p : List UInt8) : Bool := !ss.any fun s => decide (s ≠ []) && holdsB p s
def Md.ss (x : Md) : List (List UInt8) := x.ps.map (·.2.1)
theorem cellM_bk {b ty : Nat} {cs : List Value} {w : World} (h : (bkF b ty cs).p w) {o : Nat} {v : Value} (ho : cs[o]? = some v) : w.cell? ⟨b, o, none⟩ = some v := by
  have hb : w.heap[b]? = some (.cells cs.toArray ty (0, 0)) := h
  rw [cell_of_row w b o _ _ _ hb]
  simpa using ho
theorem mdPlain_c (w : World) (x : Md) (A : Option Addr) (p : List UInt8) (c : Nat) (hA : A = none → c = 0) (hpc : p.length ≤ c) (hplen : p.length ≤ 1000000) (hsl : ∀ s ∈ x.ss, s.length ≤ 1000000) (hps : x.ps.length ≤ 1000000) (hm : Mem w (mdFs x ++ [bsF A p, mlF])) :
    Con Tryz.prog n_knows_Mind_plain #[.pointer (some ⟨x.b, 0, none⟩), .slice A p.length c] w (mdFs x) fun v Fs => v = .bool (plainB x.ss p) ∧ Fs = mdFs x := by
  have g := good_knows_Mind_plain w (Un (mdFs x))
  have hs0 : Sat (cx_knows_Mind_plain w (Un (mdFs x))) Va.z 0 [] (mdFs x ++ [bsF A p, mlF]) w := hm.sat0 rfl (fun f hf ho k hk => by
    rcases List.mem_append.1 hf with hf | hf
    · exact ⟨f, hf, hk⟩
    · simp only [List.mem_cons, List.not_mem_nil, or_false] at hf
      rcases hf with rfl | rfl <;> cases ho)
  refine con_of_sx (cx := cx_knows_Mind_plain w (Un (mdFs x))) g b_knows_Mind_plain rfl rfl (β := Va.z) [.c (.v (.pointer (some ⟨x.b, 0, none⟩))), .c (.v (.slice A p.length c))] 0 [] _ rfl rfl hs0 ?_
  have hml := maxLen_eq
  refine ⟨_, fun β w' hs => cellM_bk (hs.get 0 rfl) (o := 1) rfl, ?_⟩
  refine loop_rule (ι := Nat) 0 (fun j => [(1, .c (.v (.slice A p.length c))), (10, .c (.v (.slice x.P x.ps.length x.c))), (11, .c (.v (.int .i64 (x.ps.length : Int)))), (12, .c (.v (.int .i64 (j : Int))))]) (fun _ => []) (fun _ => mdFs x ++ [bsF A p, mlF])
    (fun j => j ≤ x.ps.length ∧ plainB (x.ss.take j) p = true) (fun j => x.ps.length - j) (0 : Nat) ⟨Nat.zero_le _, rfl⟩ (Ent.mk' ⟨rfl, rfl, rfl, rfl, trivial⟩ rfl (fun β w' hs => hs)) g ?_
  rintro j ⟨hj, hpl⟩
  refine BIf.dec (fun hlt => ?_) (fun hge => ?_)
  · have hlt0 : (j : Int) < (x.ps.length : Int) := hlt
    obtain ⟨q, hq, hqm⟩ := at_lt (show j < x.ps.length by omega)
    obtain ⟨ad, hP⟩ : ∃ ad, x.P = some ad := by
      obtain ⟨ad, h, _⟩ := ((show (partF x.P x.ps).p w from hm.fact (secsF x.P x.ps) (by simp [mdFs])).1).2 (by omega)
      exact ⟨ad, h⟩
    have hqs : x.ss[j]? = some q.2.1 := by unfold Md.ss; rw [List.getElem?_map, hq]; rfl
    have hqx : q.2.1 ∈ x.ss := List.mem_of_getElem? hqs
    have hpn : plainB (x.ss.take (j + 1)) p = !(decide (q.2.1 ≠ []) && holdsB p q.2.1) := by
      unfold plainB at hpl ⊢
      rw [Bool.not_eq_true'] at hpl
      rw [List.take_add_one, hqs, List.any_append, hpl, Bool.false_or]
      simp
    refine ⟨ad, j, hP, rfl, by omega, ?_⟩
    refine ⟨partV q, fun β w' hs => Rd.cell1 (show Rd 1 (some ad) x.ps.length (x.ps.map partV) w' from hP ▸ (show (secsF x.P x.ps).p w' from hs.get 1 rfl).1) (by rw [List.getElem?_map, hq]; rfl), ?_⟩
    obtain ⟨Q, s, sc⟩ := q
    simp only at hpn hqs hqx
    conv => whnf
    generalize hb : decide ((0 : Int) < (s.length : Int)) = bq
    cases bq
    · have hs0 : ¬ (0 : Int) < (s.length : Int) := of_decide_eq_false hb
      have hsn : s = [] := List.length_eq_zero_iff.1 (by omega)
      have hpt : plainB (x.ss.take (j + 1)) p = true := by rw [hpn, hsn]; rfl
      refine ⟨(((j + 1) : Nat) : Int), by rw [wrap_i64 (by omega) (by omega)]; rfl, ?_⟩
      exact ⟨j + 1, ⟨by omega, hpt⟩, by show x.ps.length - (j + 1) < x.ps.length - j; omega, Ent.mk' ⟨rfl, rfl, rfl, rfl, trivial⟩ rfl (fun β w' hs => hs)⟩
    · have hs0 : (0 : Int) < (s.length : Int) := of_decide_eq_true hb
      have hsn : s ≠ [] := fun e => by rw [e] at hs0; exact absurd hs0 (by decide)
      rw [decide_eq_true hsn, Bool.true_and] at hpn
      refine call_pu (fun β w' hs => contains_c w' A Q p s c sc (hs.get 3 rfl) ((show (secsF x.P x.ps).p w' from hs.get 1 rfl).2 _ hqm) hsn hpc hplen (hsl s hqx) hA (hs.get 4 rfl)) ?_
      cases hh : holdsB p s with
      | false =>
        rw [hh] at hpn
        refine ⟨(((j + 1) : Nat) : Int), by rw [wrap_i64 (by omega) (by omega)]; rfl, ?_⟩
        exact ⟨j + 1, ⟨by omega, hpn⟩, by show x.ps.length - (j + 1) < x.ps.length - j; omega, Ent.mk' ⟨rfl, rfl, rfl, rfl, trivial⟩ rfl (fun β w' hs => hs)⟩
      | true =>
        have hpf : plainB x.ss p = false := by
          unfold plainB
          rw [Bool.not_eq_false', List.any_eq_true]
          exact ⟨s, hqx, by rw [decide_eq_true hsn, hh]; rfl⟩
        intro β w' hs
        exact hs.fin [0, 1, 2] ⟨by rw [hpf]; rfl, rfl⟩ rfl rfl rfl ⟨rfl, rfl, rfl, trivial⟩
  · have hge0 : ¬ (j : Int) < (x.ps.length : Int) := hge
    have hall : x.ss.take j = x.ss := List.take_of_length_le (by unfold Md.ss; rw [List.length_map]; omega)
    rw [hall] at hpl
    intro β w' hs
    exact hs.fin [0, 1, 2] ⟨by rw [hpl]; rfl, rfl⟩ rfl rfl rfl ⟨rfl, rfl, rfl, trivial⟩
def insHs (t : List UInt8) (pre : List Hp) (x : Hp) (args : Array Value) (X : Fact) : Prop := insH x args X ∧ ∃ r, scan t 0 = pre ++ x :: r
theorem handlesP_it (l : Nat) (w : World) (bx : Nat) (A : Option Addr) (t : List UInt8) (c : Nat) (f0 R : Fact) (J Jx : List Hp → Fact → Prop) (hJ0 : J [] f0) (hJo : ∀ pre f, J pre f → f.own = true) (hRo : R.own = false) (hY : Yc Tryz.prog l J Jx R (insHs t))
    (hl : t.length ≤ 1000000) (hc : t.length ≤ c) (hm : Mem w (f0 :: R :: [bkF bx ty_sl_uint8 [.slice A t.length c], bsF A t])) :
    Con Tryz.prog n_box_Handles_1 #[.func (.yield l) #[] #[], .pointer (some ⟨bx, 0, none⟩)] w [f0, bkF bx ty_sl_uint8 [.slice A t.length c]] (fun _ Fs => handlesEnd t J Jx Fs) := by
  have g := good_box_Handles_1 w (Un [f0, bkF bx ty_sl_uint8 [.slice A t.length c]]) [bx]
  have hs0 : Sat (cx_box_Handles_1 w (Un [f0, bkF bx ty_sl_uint8 [.slice A t.length c]]) [bx]) (Va.of fun _ => bx) 1 [] (f0 :: R :: [bkF bx ty_sl_uint8 [.slice A t.length c], bsF A t]) w := by
    refine hm.sat rfl (fun f hf ho k hk => ?_) ⟨Nat.le_refl 1, fun i hi => by obtain rfl : i = 0 := Nat.lt_one_iff.1 hi; rfl⟩
    simp only [List.mem_cons, List.not_mem_nil, or_false] at hf
    rcases hf with rfl | rfl | rfl | rfl
    · exact ⟨_, by simp, hk⟩
    · rw [hRo] at ho; cases ho
    · exact ⟨_, by simp, hk⟩
    · cases ho
  have hs1 := hs0.toBk 2 rfl 0 Nat.zero_lt_one rfl
  refine con_of_sx (cx := cx_box_Handles_1 w (Un [f0, bkF bx ty_sl_uint8 [.slice A t.length c]]) [bx]) g b_box_Handles_1 rfl rfl (β := Va.of fun _ => bx) [.c (.v (.func (.yield l) #[] #[])), .c (.p 0 0)] 1 _ _ rfl rfl hs1 ?_
  refine loop_rule (ι := List Hp × Nat × Fact) 1 (fun i => [(0, .c (.v (.func (.yield l) #[] #[]))), (1, .c (.p 0 0)), (3, .c (.v (.int .i64 (i.2.1 : Int))))]) (fun _ => [⟨0, ty_sl_uint8, [.v (.slice A t.length c)]⟩]) (fun i => [i.2.2, R, bsF A t])
    (fun i => J i.1 i.2.2 ∧ scan t 0 = i.1 ++ scan t i.2.1 ∧ i.2.1 ≤ t.length + 32) (fun i => t.length + 32 - i.2.1) ([], 0, f0) ⟨hJ0, rfl, Nat.zero_le _⟩ (Ent.same ⟨rfl, rfl, rfl, trivial⟩ rfl) g ?_
  rintro ⟨pre, i, f⟩ ⟨hJ, hsc, hi⟩
  simp only at hJ hsc hi
  have hfo := hJo _ _ hJ
  simp only
  refine ⟨((i + 32 : Nat) : Int), by rw [wrap_i64 (by omega) (by omega)]; rfl, ?_⟩
  refine BIf.dec (fun hlt => ?_) (fun hge => ?_)
  · have hlt0 : ((i + 32 : Nat) : Int) ≤ t.length := hlt
    have hlt : i + 32 ≤ t.length := by omega
    refine ⟨((i + 32 : Nat) : Int), by rw [wrap_i64 (by omega) (by omega)]; rfl, ?_⟩
    refine ⟨c, i + 32, i, 32, c - i, _, rfl, rfl, rfl, Nat.le_refl _, by omega, by omega, by omega, rfl, rfl, ?_⟩
    obtain ⟨v, ok, hv, hhit⟩ := number_hit t i
    have e32 : ((t.drop i).take 32).length = 32 := by simp; omega
    refine call_pu (v := .tuple #[.int .i64 (v : Int), .bool ok]) (fun β w' hs => by
      have h := number_c w' (cutA A c i 1) ((t.drop i).take 32) (c - i) (Bs.cutB (hs.get 2 rfl) hc (by omega : i ≤ i + 32) hlt (by simp)) (by omega) (by omega)
      rw [hv, e32] at h
      exact h) ?_
    rcases hhit with ⟨rfl, hh⟩ | ⟨rfl, hh⟩
    · rw [scan_hit hlt hh] at hsc
      refine yield_ro (X := noF) (x := (i, v)) hY 0 1 rfl hJ hfo rfl hRo (by decide) (fun β => ⟨⟨rfl, rfl⟩, _, hsc⟩) rfl (fun β w _ => ⟨trivial, fun k hk => hk.elim, fun k _ h => h.elim⟩) ?_ ?_
      · intro f2 hfo2 hJ2
        refine ⟨((i + 31 : Nat) : Int), by rw [wrap_i64 (by omega) (by omega)]; rfl, ?_⟩
        refine ⟨((i + 32 : Nat) : Int), by rw [wrap_i64 (by omega) (by omega)]; omega, ?_⟩
        refine ⟨(pre ++ [(i, v)], i + 32, f2), ⟨hJ2, by show scan t 0 = pre ++ [(i, v)] ++ scan t (i + 32); rw [hsc]; simp, by show i + 32 ≤ _; omega⟩, by show t.length + 32 - (i + 32) < t.length + 32 - i; omega, Ent.same ⟨rfl, rfl, rfl, trivial⟩ rfl⟩
      · intro f2 hfo2 hJ2 β w' hs
        exact (hs.keepB (List.nil_sublist _)).fin [0] ⟨f2, [], rfl, .inr ⟨_, hJ2, ⟨scan t (i + 32), by rw [hsc]; simp⟩, rfl⟩⟩ rfl rfl rfl ⟨hfo2, trivial⟩
    · rw [scan_no hlt hh] at hsc
      refine ⟨((i + 1 : Nat) : Int), by rw [wrap_i64 (by omega) (by omega)]; rfl, ?_⟩
      refine ⟨(pre, i + 1, f), ⟨hJ, hsc, by show i + 1 ≤ _; omega⟩, by show t.length + 32 - (i + 1) < t.length + 32 - i; omega, Ent.same ⟨rfl, rfl, rfl, trivial⟩ rfl⟩
  · have hge0 : ¬ ((i + 32 : Nat) : Int) ≤ t.length := hge
    rw [scan_end (t := t) (i := i) (by omega), List.append_nil] at hsc
    intro β w' hs
    exact (hs.keepB (List.nil_sublist _)).fin [0] ⟨f, [], rfl, .inl ⟨pre, hJ, hsc.symm, rfl⟩⟩ rfl rfl rfl ⟨hfo, trivial⟩
def gaps (p : List UInt8) : Nat → List Hp → List (List UInt8)
  | a, [] => [p.drop a]
  | a, h :: r => (p.drop a).take (h.1 - a) :: gaps p (h.1 + 32) r
def betweenB (ss : List (List UInt8)) (p : List UInt8) : Bool := (gaps p 0 (scan p 0)).all (plainB ss)
def gapE : Nat → List Hp → Nat
  | a, [] => a
  | _, h :: r => gapE (h.1 + 32) r
def gapsP (p : List UInt8) : Nat → List Hp → List (List UInt8)
  | _, [] => []
  | a, h :: r => (p.drop a).take (h.1 - a) :: gapsP p (h.1 + 32) r
theorem gaps_app (p : List UInt8) : ∀ (pre rest : List Hp) (a : Nat), gaps p a (pre ++ rest) = gapsP p a pre ++ gaps p (gapE a pre) rest
  | [], _, _ => rfl
  | h :: r, rest, a => by
    show _ :: gaps p (h.1 + 32) (r ++ rest) = _ :: (gapsP p (h.1 + 32) r ++ _)
    rw [gaps_app p r rest (h.1 + 32)]
    rfl
theorem gapE_snoc : ∀ (pre : List Hp) (x : Hp) (a : Nat), gapE a (pre ++ [x]) = x.1 + 32
  | [], _, _ => rfl
  | h :: r, x, a => gapE_snoc r x (h.1 + 32)
theorem gapsP_snoc (p : List UInt8) : ∀ (pre : List Hp) (x : Hp) (a : Nat), gapsP p a (pre ++ [x]) = gapsP p a pre ++ [(p.drop (gapE a pre)).take (x.1 - gapE a pre)]
  | [], _, _ => rfl
  | h :: r, x, a => by
    show _ :: gapsP p (h.1 + 32) (r ++ [x]) = _ :: (gapsP p (h.1 + 32) r ++ _)
    rw [gapsP_snoc p r x (h.1 + 32)]
    rfl
theorem scan_pos (t : List UInt8) : ∀ (k i : Nat), t.length + 32 - i ≤ k → ∀ (a : Nat) (pre : List Hp) (x : Hp) (r : List Hp), a ≤ i → scan t i = pre ++ x :: r → gapE a pre ≤ x.1 ∧ x.1 + 32 ≤ t.length := by
  intro k
  induction k with
  | zero =>
    intro i h a pre x r ha he
    rw [scan_end (by omega)] at he
    cases pre <;> cases he
  | succ k ih =>
    intro i h a pre x r ha he
    by_cases hi : i + 32 ≤ t.length
    · cases hh : hit t i with
      | none =>
        rw [scan_no hi hh] at he
        exact ih (i + 1) (by omega) a pre x r (by omega) he
      | some n =>
        rw [scan_hit hi hh] at he
        cases pre with
        | nil =>
          obtain ⟨rfl, _⟩ := List.cons.inj he
          exact ⟨ha, hi⟩
        | cons y s =>
          obtain ⟨rfl, he2⟩ := List.cons.inj he
          exact ih (i + 32) (by omega) (i + 32) s x r (Nat.le_refl _) he2
    · rw [scan_end hi] at he
      cases pre <;> cases he
theorem gapE_le (p : List UInt8) : gapE 0 (scan p 0) ≤ p.length := by
  rcases List.eq_nil_or_concat (scan p 0) with h | ⟨ys, y, h⟩
  · rw [h]; exact Nat.zero_le _
  · rw [List.concat_eq_append] at h
    rw [h, gapE_snoc]
    exact (scan_pos p _ 0 (Nat.le_refl _) 0 ys y [] (Nat.le_refl _) h).2
theorem cut_nil {A : Option Addr} {c i s : Nat} (hA : A = none → c = 0) : cutA A c i s = none → c - i = 0 := by
  intro h
  unfold cutA at h
  split at h
  · omega
  · cases A with
    | none => have := hA rfl; omega
    | some ad => cases h
theorem between_c (w : World) (x : Md) (A : Option Addr) (p : List UInt8) (c : Nat) (hA : A = none → c = 0) (hpc : p.length ≤ c) (hl : p.length ≤ 70000) (hsl : ∀ s ∈ x.ss, s.length ≤ 1000000) (hps : x.ps.length ≤ 1000000) (hm : Mem w (mdFs x ++ [bsF A p, mlF])) :
    Con Tryz.prog n_knows_Mind_between #[.pointer (some ⟨x.b, 0, none⟩), .slice A p.length c] w (mdFs x) fun v Fs => v = .bool (betweenB x.ss p) ∧ Fs = mdFs x := by
  have g := good_knows_Mind_between w (Un (mdFs x))
  have hs0 : Sat (cx_knows_Mind_between w (Un (mdFs x))) Va.z 0 [] (mdFs x ++ [bsF A p, mlF]) w := hm.sat0 rfl (fun f hf ho k hk => by
    rcases List.mem_append.1 hf with hf | hf
    · exact ⟨f, hf, hk⟩
    · simp only [List.mem_cons, List.not_mem_nil, or_false] at hf
      rcases hf with rfl | rfl <;> cases ho)
  refine con_of_sx (cx := cx_knows_Mind_between w (Un (mdFs x))) g b_knows_Mind_between rfl rfl (β := Va.z) [.c (.v (.pointer (some ⟨x.b, 0, none⟩))), .c (.v (.slice A p.length c))] 0 [] _ rfl rfl hs0 ?_
  have hml := maxLen_eq
  refine call_con [] (fun β w hs => handles_c w A p.length c) ?_
  rintro v Fs ⟨bx, rfl, rfl⟩
  refine range_rule (α := Hp) (ι := Nat) (κ := Unit) g rfl (cv := [.pointer (some ⟨bx, 0, none⟩)]) rfl (by kernel_rfl) 4 (Nat.le_refl 4)
    (fun pre i => i = gapE 0 pre ∧ (gapsP p 0 pre).all (plainB x.ss) = true) (fun i => [⟨3, ty_int, [.v (.int .i64 (i : Int))]⟩, ⟨2, ty_bool, [.v (.bool false)]⟩, ⟨1, ty_sl_uint8, [.v (.slice A p.length c)]⟩, ⟨0, ty_ptr_knows_Mind, [.v (.pointer (some ⟨x.b, 0, none⟩))]⟩]) (fun _ => mdFs x) (fun i => ⟨rfl, rfl, rfl, trivial⟩)
    (fun e pre _ => e = .ret ∧ betweenB x.ss p = false) (fun _ => [⟨2, ty_bool, [.v (.bool false)]⟩]) (fun _ => mdFs x) (fun i => ⟨rfl, rfl, rfl, trivial⟩)
    [bkF bx ty_sl_uint8 [.slice A p.length c]] [bsF A p] [bsF A p, mlF] ⟨rfl, trivial⟩ (fun g h => by
      simp only [List.mem_cons, List.not_mem_nil, or_false] at h
      rcases h with rfl | rfl <;> rfl) (0 : Nat) ⟨rfl, rfl⟩ (fun β w hs => ⟨β, Agr.refl _ _, (hs.dupRo 4 rfl).perm [1, 0, 2, 3, 4, 5, 6]⟩) (insHs p)
    (fun xs Fs' => xs = scan p 0 ∧ Fs' = []) (fun pre Fs' => (∃ r, scan p 0 = pre ++ r) ∧ Fs' = [])
    (fun l w f0 R J Jx hJ0 hJo hRo hY hm => (handlesP_it l w bx A p c f0 R J Jx hJ0 hJo hRo hY (by omega) hpc hm).mono fun _ Fs h => h) ?_ ?_ ?_
  · rintro i pre h args X W S l bs pn pn' hbs ⟨hi, hall⟩ ⟨⟨rfl, rfl⟩, r, hsc⟩
    obtain ⟨hp1, hp2⟩ := scan_pos p _ 0 (Nat.le_refl _) 0 pre h r (Nat.le_refl _) hsc
    rw [← hi] at hp1
    refine ⟨_, rfl, ?_⟩
    refine draw_rule (rcx_good g) p_knows_Mind_between_4 (by kernel_rfl) [⟨3, ty_int, [.v (.int .i64 (i : Int))]⟩, ⟨2, ty_bool, [.v (.bool false)]⟩, ⟨1, ty_sl_uint8, [.v (.slice A p.length c)]⟩, ⟨0, ty_ptr_knows_Mind, [.v (.pointer (some ⟨x.b, 0, none⟩))]⟩] [] (Sub.of (List.Sublist.refl _) (List.nil_sublist _)) ?_
    refine ⟨c, h.1, i, h.1 - i, c - i, _, rfl, rfl, rfl, by omega, by omega, hp1, rfl, rfl, rfl, ?_⟩
    have hgm : (p.drop i).take (h.1 - i) ∈ gaps p 0 (scan p 0) := by
      rw [hsc, gaps_app, ← hi]
      exact List.mem_append_right _ (List.mem_cons_self ..)
    have hgl : ((p.drop i).take (h.1 - i)).length = h.1 - i := by rw [List.length_take, List.length_drop]; omega
    have hpn : betweenB x.ss p = true → plainB x.ss ((p.drop i).take (h.1 - i)) = true := fun q => List.all_eq_true.1 q _ hgm
    refine call_con [1, 2, 3] (R := fun v Fs => v = .bool (plainB x.ss ((p.drop i).take (h.1 - i))) ∧ Fs = mdFs x) (hown := ⟨rfl, rfl, rfl, trivial⟩) (fun β w' hs => by
      have h3 := hs.sub 4 rfl rfl (bsF (cutA A c i 1) ((p.drop i).take (h.1 - i))) rfl (Bs.cutB (hs.get 4 rfl) hpc hp1 (by omega) rfl) (fun k hk => cut_D (by rw [hgl]; omega) hk)
      have h4 := mdPlain_c w' x (cutA A c i 1) ((p.drop i).take (h.1 - i)) (c - i) (cut_nil hA) (by rw [hgl]; omega) (by rw [hgl]; omega) hsl hps (h3.mem.take (js := [2, 3, 4, 0, 6]) rfl)
      rw [hgl] at h4
      exact h4) ?_
    rintro v Fs ⟨rfl, rfl⟩
    refine ⟨subPerm [], ?_⟩
    cases hpl : plainB x.ss ((p.drop i).take (h.1 - i)) with
    | true =>
      refine ⟨(((h.1 + 32) : Nat) : Int), by rw [wrap_i64 (by omega) (by omega)]; rfl, ?_⟩
      refine ⟨h.1 + 32, ⟨(gapE_snoc pre h 0).symm, ?_⟩, Ent.mk' trivial rfl (fun β w hs => hs.perm [0, 1, 2])⟩
      rw [gapsP_snoc, List.all_append, show (gapsP p 0 pre).all (plainB x.ss) = true from hall, ← hi]
      simp [hpl]
    | false =>
      refine ⟨(), ⟨rfl, ?_⟩, Ent.mk' trivial rfl (fun β w hs => ((hs.keepB (List.Sublist.cons _ (List.Sublist.cons_cons _ (List.nil_sublist _)))).perm [0, 1, 2]).lower)⟩
      rcases hb : betweenB x.ss p with _ | _
      · rfl
      · rw [hpn hb] at hpl
        cases hpl
  · rintro xs i Fs ⟨hi, hall⟩ ⟨hxs, rfl⟩
    refine draw_rule g p_knows_Mind_between_7 (by kernel_rfl) [⟨3, ty_int, [.v (.int .i64 (i : Int))]⟩, ⟨1, ty_sl_uint8, [.v (.slice A p.length c)]⟩, ⟨0, ty_ptr_knows_Mind, [.v (.pointer (some ⟨x.b, 0, none⟩))]⟩] [] (Sub.of (List.Sublist.cons_cons _ (List.Sublist.cons _ (List.Sublist.refl _))) (List.nil_sublist _)) ?_
    have hil : i ≤ p.length := by
      rw [hi, hxs]
      exact gapE_le p
    refine ⟨c, p.length, i, p.length - i, c - i, _, rfl, rfl, rfl, by omega, by omega, hil, rfl, rfl, rfl, ?_⟩
    have hge : gaps p 0 (scan p 0) = gapsP p 0 xs ++ [p.drop i] := by
      have h := gaps_app p xs [] 0
      rw [List.append_nil, ← hi] at h
      rw [← hxs]
      exact h
    have hgl : (p.drop i).length = p.length - i := List.length_drop ..
    refine call_con [0, 1, 2] (R := fun v Fs => v = .bool (plainB x.ss (p.drop i)) ∧ Fs = mdFs x) (hown := ⟨rfl, rfl, rfl, trivial⟩) (fun β w' hs => by
      have h3 := hs.sub 3 rfl rfl (bsF (cutA A c i 1) (p.drop i)) rfl (Bs.cutB (hs.get 3 rfl) hpc hil (Nat.le_refl _) (List.take_of_length_le (by rw [hgl]; exact Nat.le_refl _))) (fun k hk => cut_D (by rw [hgl]; omega) hk)
      have h4 := mdPlain_c w' x (cutA A c i 1) (p.drop i) (c - i) (cut_nil hA) (by rw [hgl]; omega) (by rw [hgl]; omega) hsl hps (h3.mem.take (js := [1, 2, 3, 0, 5]) rfl)
      rw [hgl] at h4
      exact h4) ?_
    rintro v Fs ⟨rfl, rfl⟩
    have hbe : betweenB x.ss p = plainB x.ss (p.drop i) := by
      unfold betweenB
      rw [hge, List.all_append, show (gapsP p 0 xs).all (plainB x.ss) = true from hall]
      simp
    have hsb : ∀ {cx : Cx} {n : Nat} {F : List Fact} {a b2 c' d : Bk}, Sub cx n [a, b2, c', d] F [a, c', d] [] := fun {_ _ _ _ _ _ _} => Sub.of (List.Sublist.cons_cons _ (List.Sublist.cons _ (List.Sublist.refl _))) (List.nil_sublist _)
    refine ⟨hsb, ?_⟩
    refine ⟨hsb, ?_⟩
    intro β w' hs
    exact (hs.keepB (List.nil_sublist _)).fin [0, 1, 2] ⟨by rw [hbe]; rfl, rfl⟩ rfl rfl rfl ⟨rfl, rfl, rfl, trivial⟩
  · rintro e pre ⟨⟩ Fs ⟨rfl, hno⟩ ⟨_, rfl⟩
    intro β w' hs
    exact (hs.keepB (List.nil_sublist _)).fin [0, 1, 2] ⟨by rw [hno]; rfl, rfl⟩ rfl rfl rfl ⟨rfl, rfl, rfl, trivial⟩
theorem See_c (w : World) (x : Md) (A : Option Addr) (t : List UInt8) (c : Nat) (hl : t.length ≤ 70000) (hc : t.length ≤ c) (hm : Mem w (mdFs x ++ [bsF A t])) :
    Con Tryz.prog n_knows_Mind_See #[.pointer (some ⟨x.b, 0, none⟩), .slice A t.length c] w (mdFs x) fun v Fs => v = .tuple #[] ∧ Fs = mdFs { x with seen := (foundS t).foldl setPut x.seen } := by
  have g := good_knows_Mind_See w (Un (mdFs x))
  have hs0 : Sat (cx_knows_Mind_See w (Un (mdFs x))) Va.z 0 [] (mdFs x ++ [bsF A t]) w := hm.sat0 rfl (fun f hf ho k hk => by
    rcases List.mem_append.1 hf with hf | hf
    · exact ⟨f, hf, hk⟩
    · obtain rfl := List.mem_singleton.1 hf; cases ho)
  refine con_of_sx (cx := cx_knows_Mind_See w (Un (mdFs x))) g b_knows_Mind_See rfl rfl (β := Va.z) [.c (.v (.pointer (some ⟨x.b, 0, none⟩))), .c (.v (.slice A t.length c))] 0 [] _ rfl rfl hs0 ?_
  have hml := maxLen_eq
  refine call_con [] (R := fun v Fs => ∃ A' c', v = .slice A' (foundS t).length c' ∧ (0 < (foundS t).length → ∃ ad, A' = some ad) ∧ Fs = [irowF A' (foundS t) c']) (fun β w' hs => Found_c w' A t c hl hc (hs.mem.take (js := [3]) rfl)) ?_
  rintro v Fs ⟨A', c', rfl, hA', rfl⟩
  obtain ⟨fs, hfs⟩ : ∃ fs, foundS t = fs := ⟨_, rfl⟩
  rw [hfs] at hA' ⊢
  have hfl : fs.length ≤ 1000000 := by
    rw [← hfs]
    unfold foundS
    rw [sortN_len]
    have h1 := setPuts_len (foundL t) []
    have h2 := foundL_len t
    simp only [List.length_nil] at h1
    omega
  refine loop_rule (ι := Nat × List Nat) 0 (fun j => [(0, .c (.v (.pointer (some ⟨x.b, 0, none⟩)))), (9, .c (.v (.slice A' fs.length c'))), (10, .c (.v (.int .i64 (fs.length : Int)))), (11, .c (.v (.int .i64 (j.1 : Int))))]) (fun _ => []) (fun j => irowF A' fs c' :: mdFs { x with seen := j.2 })
    (fun j => j.1 ≤ fs.length ∧ j.2 = (fs.take j.1).foldl setPut x.seen) (fun j => fs.length - j.1) (0, x.seen) ⟨Nat.zero_le _, rfl⟩ (Ent.mk' ⟨rfl, rfl, rfl, rfl, trivial⟩ rfl (fun β w' hs => hs.perm [0, 1, 2, 3])) g ?_
  rintro ⟨j, sn⟩ ⟨hj, hsn⟩
  simp only at hj hsn
  refine BIf.dec (fun hlt => ?_) (fun hge => ?_)
  · have hlt0 : (j : Int) < (fs.length : Int) := hlt
    obtain ⟨n, hn, -⟩ := at_lt (show j < fs.length by omega)
    obtain ⟨ad, rfl⟩ := hA' (by omega)
    refine ⟨ad, j, rfl, rfl, by omega, ?_⟩
    refine ⟨.int .i64 (n : Int), fun β w' hs => Rd.cell1 (row_rd (hs.get 0 rfl)) (by simp [ints, hn]), ?_⟩
    refine ⟨.map (some x.m), fun β w' hs => cellM_bk (hs.get 1 rfl) (o := 2) rfl, ?_⟩
    refine ⟨_, fun _ => _, fun β w' hs => hs.mapPutJY g 3 rfl (t := ty_map_int_struct) (n : Int) (.agg #[]), fun _ => ?_⟩
    refine ⟨((j + 1 : Nat) : Int), by rw [wrap_i64 (by omega) (by omega)]; rfl, ?_⟩
    refine ⟨(j + 1, setPut sn n), ⟨by show j + 1 ≤ _; omega, ?_⟩, by show fs.length - (j + 1) < fs.length - j; omega, ?_⟩
    · show setPut sn n = (fs.take (j + 1)).foldl setPut x.seen
      rw [List.take_add_one, hn, List.foldl_append, ← hsn]
      rfl
    · simp only [mdFs, ← setM_put]
      exact Ent.mk' ⟨rfl, rfl, rfl, rfl, trivial⟩ rfl (fun β w hs => hs.perm [0, 1, 2, 3])
  · have hge0 : ¬ (j : Int) < (fs.length : Int) := hge
    have ht : fs.take j = fs := List.take_of_length_le (by omega)
    rw [ht] at hsn
    intro β w' hs
    exact hs.fin [1, 2, 3] ⟨rfl, by rw [← hsn]; rfl⟩ rfl rfl rfl ⟨rfl, rfl, rfl, trivial⟩
theorem bsD_brow {e : Nat} {A : Option Addr} {l : List UInt8} {c k : Nat} (h : (bsF A l).D k) : (browF e A l c).D k := by
  obtain ⟨_, ad, rfl, rfl⟩ := h
  rfl
def ownF (qs : List Part) : Fact where
  own := true
  D := fun k => ∃ q ∈ qs, (browF ty_uint8 q.1 q.2.1 q.2.2).D k
  p := fun w => ∀ q ∈ qs, Bs w q.1 q.2.1
  st := fun w w' hs h q hq => (bsF q.1 q.2.1).st w w' (fun k hk => hs k ⟨q, hq, bsD_brow hk⟩) (h q hq)
structure NwS where
  A : Option Addr
  c : Nat
  qs : List Part
theorem knowsNew_c (w : World) (bx : Nat) (B : Bx.Box) (y : Lay) (P : Option Addr) (ps : List Part) (cP : Nat) (hB : B.sym = true) (hp : ps.length ≤ 1000) (hps : ∀ q ∈ ps, q.2.1.length ≤ 1000 ∧ q.2.1.length ≤ q.2.2) (hm : Mem w [bxF bx B y, partF P ps]) :
    Con Tryz.prog n_knows_New #[ptrB bx, .slice P ps.length cP] w [bxF bx B y] fun v Fs => ∃ x : Md, v = .tuple #[.pointer (some ⟨x.b, 0, none⟩), .int .i64 0] ∧ x.bx = bx ∧ x.ss = ps.map (·.2.1) ∧ x.seen = [] ∧ Fs = mdFs x ++ [bxF bx B y] := by
  have g := good_knows_New w (Un [bxF bx B y])
  have hs0 : Sat (cx_knows_New w (Un [bxF bx B y])) Va.z 0 [] [bxF bx B y, partF P ps] w := hm.sat0 rfl (fun f hf ho k hk => by
    rcases List.mem_cons.1 hf with rfl | hf
    · exact ⟨_, List.mem_singleton.2 rfl, hk⟩
    · obtain rfl := List.mem_singleton.1 hf; cases ho)
  refine con_of_sx (cx := cx_knows_New w (Un [bxF bx B y])) g b_knows_New rfl rfl (β := Va.z) [.c (.v (ptrB bx)), .c (.v (.slice P ps.length cP))] 0 [] _ rfl rfl hs0 ?_
  have hml := maxLen_eq
  refine call_pu (fun β w' hs => symX_c w' bx B y (hs.get 0 rfl) (fun k hk => hs.flt _ (List.mem_of_getElem? (i := 0) rfl) k hk)) ?_
  rw [hB]
  intro b1
  refine loop_rule (ι := Nat × NwS) 1 (fun j => [(6, .c (.p 0 0)), (16, .c (.v (.slice P ps.length cP))), (17, .c (.v (.int .i64 (ps.length : Int)))), (18, .c (.v (.int .i64 (j.1 : Int))))]) (fun j => [⟨0, ty_knows_Mind, [.v (ptrB bx), .v (.slice j.2.A j.2.qs.length j.2.c), .v (.map (some b1))]⟩])
    (fun j => [mapIF .i64 b1 [], bxF bx B y, partF P ps, rowF ty_sl_uint8 1 (.slice j.2.A j.2.qs.length j.2.c) j.2.qs.length (j.2.qs.map partV), ownF j.2.qs])
    (fun j => j.1 ≤ ps.length ∧ j.2.qs.map (·.2.1) = (ps.take j.1).map (·.2.1)) (fun j => ps.length - j.1) (0, ⟨none, 0, []⟩) ⟨Nat.zero_le _, rfl⟩ (Ent.mk' ⟨rfl, rfl, rfl, rfl, trivial⟩ rfl (fun β w' hs => ?_)) g ?_
  · exact (((hs.nilRow ty_sl_uint8 1).emptyJ 1 rfl).fuse [] (ownF []) (fun w _ q h => by cases h) (fun k ⟨q, h, _⟩ => by cases h)).perm [2, 3, 4, 1, 0]
  rintro ⟨j, SA, sc, qs⟩ ⟨hj, hqs⟩
  simp only at hj hqs
  have hql : qs.length = j := by
    have := congrArg List.length hqs
    rw [List.length_map, List.length_map, List.length_take] at this
    omega
  refine BIf.dec (fun hlt => ?_) (fun hge => ?_)
  · have hlt0 : (j : Int) < (ps.length : Int) := hlt
    obtain ⟨q, hq, hqm⟩ := at_lt (show j < ps.length by omega)
    obtain ⟨ad, hP⟩ : ∃ ad, P = some ad := by
      obtain ⟨ad, h, _⟩ := ((show (partF P ps).p w from hm.fact (partF P ps) (by simp)).1).2 (by omega)
      exact ⟨ad, h⟩
    refine ⟨ad, j, hP, rfl, by omega, ?_⟩
    refine ⟨partV q, fun β w' hs => Rd.cell1 (show Rd 1 (some ad) ps.length (ps.map partV) w' from hP ▸ (show (partF P ps).p w' from hs.get 2 rfl).1) (by rw [List.getElem?_map, hq]; rfl), ?_⟩
    obtain ⟨Q, l, c⟩ := q
    have hq1 := hps _ hqm
    simp only at hq1
    refine draw_rule g p_knows_New_7 (by kernel_rfl) [⟨0, ty_knows_Mind, [.v (ptrB bx), .v (.slice SA qs.length sc), .v (.map (some b1))]⟩] [] (Sub.of (List.Sublist.refl _) (List.nil_sublist _)) ?_
    refine call_con [] (fun β w' hs => clone_c w' Q l c ((show (partF P ps).p w' from hs.get 2 rfl).2 _ hqm) (by omega)) ?_
    rintro v Fs ⟨A', c', rfl, hc1, hc2, rfl⟩
    refine ⟨subPerm [], ?_⟩
    intro b2
    refine ⟨subPerm [], ?_⟩
    obtain ⟨qs', hq'⟩ : ∃ qs', qs' = qs ++ [((A', l, c') : Part)] := ⟨_, rfl⟩
    have hql' : qs.length + 1 = qs'.length := by rw [hq', List.length_append]; rfl
    refine ⟨5, qs.length, qs'.length, qs.map partV, [partV (A', l, c')], qs'.map partV, rfl, fun β w' hs => row_rd (hs.get 0 rfl), fun u hu => by obtain rfl := List.mem_singleton.1 hu; rfl, hql', by rw [hq', List.map_append]; rfl, by rw [hml]; omega, by show qs'.length * 24 ≤ _; omega, ?_⟩
    intro A2 c2 r1 r2 r3
    refine ⟨subPerm [], ?_⟩
    refine ⟨subPerm [], ?_⟩
    refine ⟨(((j + 1) : Nat) : Int), by rw [wrap_i64 (by omega) (by omega)]; rfl, ?_⟩
    refine ⟨(j + 1, ⟨A2, c2, qs'⟩), ⟨by show j + 1 ≤ _; omega, ?_⟩, by show ps.length - (j + 1) < ps.length - j; omega, Ent.mk' ⟨rfl, rfl, rfl, rfl, trivial⟩ rfl (fun β w hs => ?_)⟩
    · show qs'.map (·.2.1) = (ps.take (j + 1)).map (·.2.1)
      rw [hq', List.take_add_one, hq, List.map_append, List.map_append, hqs]
      rfl
    · refine (hs.fuse [6, 1] (ownF qs') (fun w hm => ?_) (fun k hk => ?_)).perm [2, 3, 4, 5, 0]
      · intro q0 h0
        rw [hq'] at h0
        rcases List.mem_append.1 h0 with h0 | h0
        · exact (show (ownF qs).p w from hm.fact (ownF qs) (show ownF qs ∈ [ownF qs, browF ty_uint8 A' l c'] from List.mem_cons_self)) q0 h0
        · obtain rfl := List.mem_singleton.1 h0
          exact row_rd (hm.fact (browF ty_uint8 A' l c') (show browF ty_uint8 A' l c' ∈ [ownF qs, browF ty_uint8 A' l c'] from List.mem_cons_of_mem _ (List.mem_singleton.2 rfl)))
      · obtain ⟨q0, h0, hk⟩ := hk
        rw [hq'] at h0
        rcases List.mem_append.1 h0 with h0 | h0
        · exact ⟨ownF qs, List.mem_cons_self, q0, h0, hk⟩
        · obtain rfl := List.mem_singleton.1 h0
          exact ⟨browF ty_uint8 A' l c', List.mem_cons_of_mem _ (List.mem_singleton.2 rfl), hk⟩
  · have hge0 : ¬ (j : Int) < (ps.length : Int) := hge
    have ht : ps.take j = ps := List.take_of_length_le (by omega)
    rw [ht] at hqs
    intro β w' hs
    have h2 := (hs.fuse [3, 4] (secsF SA qs) (fun w hm => ⟨row_rd (hm.fact (rowF ty_sl_uint8 1 (.slice SA qs.length sc) qs.length (qs.map partV)) (by simp [takeIx, nth])), hm.fact (ownF qs) (by simp [takeIx, nth])⟩) (fun k hk => by
      rcases hk with ⟨_, ad, rfl, rfl⟩ | ⟨q, hq, hk⟩
      · exact ⟨_, List.mem_cons_self, rfl⟩
      · exact ⟨ownF qs, List.mem_cons_of_mem _ (List.mem_singleton.2 rfl), q, hq, bsD_brow hk⟩)).ofBk
    exact h2.fin [0, 1, 2, 3] ⟨⟨β 0, bx, SA, qs, sc, b1, []⟩, rfl, rfl, hqs, rfl, rfl⟩ rfl rfl rfl ⟨rfl, rfl, rfl, rfl, trivial⟩
end Go.Proofs.YtoifclfanabalaaGreatDoor.Sx

namespace Go.Proofs.YtoifclfanabalaaGreatDoor.Sx
open Go
theorem reify_tri {cx : Cx} {c : Code} {Q : Exit → KT} {n : Nat} {env : Env} {H : List Bk} {F : List Fact} (id : Nat) {ty : TypeId} {cs : List SL} (vs : Nat → List Value) (h1 : tyAt H id = some ty) (h2 : cellsAt H id = some cs) (h3 : ∀ b, allV (cs.map (SL.re id b)) = some (vs b))
    (h : ∀ b, Tri cx c Q n (envRe id b env) (bksRe id b H) (bkF b ty (vs b) :: F)) : Tri cx c Q n env H F :=
  tri_join (ι := Nat) (fun _ => True) n (fun b => envRe id b env) (fun b => bksRe id b H) (fun b => bkF b ty (vs b) :: F) (fun b _ => h b) (EntX.reify id vs h1 h2 h3 (fun b => EntX.of b trivial ⟨fun β a w hi => ⟨β, rfl, rfl, hi⟩⟩))
end Go.Proofs.YtoifclfanabalaaGreatDoor.Sx

namespace Go.Proofs.YtoifclfanabalaaGreatDoor.Sx
open Go
attribute [local irreducible] Calls
abbrev mkF (A : Option Addr) (l : List Bool) : Fact := rdF 1 A l.length (l.map Value.bool)
def markB (l : List Bool) (n : Int) : Bool := decide (0 ≤ n) && l.getD n.toNat false
theorem marked_c (w : World) (A : Option Addr) (l : List Bool) (c : Nat) (n : Int) (hr : Rd 1 A l.length (l.map Value.bool) w) : Pu Tryz.prog n_knows_marked #[.slice A l.length c, .int .i64 n] w (.bool (markB l n)) := by
  have g := good_knows_marked w (Un [])
  refine con_of_sx (cx := cx_knows_marked w (Un [])) g b_knows_marked rfl rfl (β := Va.z) [.c (.v (.slice A l.length c)), .c (.v (.int .i64 n))] 0 [] [mkF A l] rfl rfl ((Sat.start rfl).rd (fun _ h => by cases h) hr) ?_
  conv => whnf
  generalize hq : decide ((0 : Int) ≤ n) = bq
  cases bq
  · have h0 : ¬ (0 : Int) ≤ n := of_decide_eq_false hq
    intro β w' hs
    exact hs.fin [] ⟨by unfold markB; rw [hq]; rfl, rfl⟩
  · have h0 : (0 : Int) ≤ n := of_decide_eq_true hq
    obtain ⟨m, rfl⟩ : ∃ m : Nat, n = (m : Int) := ⟨n.toNat, (Int.toNat_of_nonneg h0).symm⟩
    conv => whnf
    generalize hq2 : decide ((m : Int) < (l.length : Int)) = b2
    cases b2
    · have h1 : ¬ (m : Int) < (l.length : Int) := of_decide_eq_false hq2
      intro β w' hs
      refine hs.fin [] ⟨?_, rfl⟩
      unfold markB
      rw [Int.toNat_natCast, List.getD_eq_getElem?_getD, List.getElem?_eq_none (by omega), Option.getD_none, Bool.and_false]
      rfl
    · have h1 : (m : Int) < (l.length : Int) := of_decide_eq_true hq2
      obtain ⟨ad, hA, -⟩ := hr.2 (by omega)
      obtain ⟨y, hy, -⟩ := at_lt (show m < l.length by omega)
      refine ⟨ad, m, hA, rfl, by omega, ?_⟩
      refine ⟨.bool y, fun β w' hs => Rd.cell1 (show Rd 1 (some ad) l.length (l.map Value.bool) w' from hA ▸ hs.get 0 rfl) (by rw [List.getElem?_map, hy]; rfl), ?_⟩
      intro β w' hs
      refine hs.fin [] ⟨?_, rfl⟩
      unfold markB
      rw [Int.toNat_natCast, hq, Bool.true_and, List.getD_eq_getElem?_getD, hy]
      rfl
def haveB (l : List Nat) (made : List Bool) : Bool := l.all fun n => markB made (n : Int)
def keepH (b : Nat) (D : Option Addr) (made : List Bool) (d : Nat) : List Fact := [bkF b ty_sl_bool [.slice D made.length d]]
theorem have1_c (w : World) (D : Option Addr) (made : List Bool) (d b : Nat) (n : Int) (hm : Mem w (keepH b D made d ++ [mkF D made])) :
    Con Tryz.prog n_knows_have_1 #[.int .i64 n, .pointer (some ⟨b, 0, none⟩)] w (keepH b D made d) fun v Fs => v = .bool (!markB made n) ∧ Fs = keepH b D made d := by
  have g := good_knows_have_1 w (Un (keepH b D made d))
  have hs0 : Sat (cx_knows_have_1 w (Un (keepH b D made d))) Va.z 0 [] (keepH b D made d ++ [mkF D made]) w := hm.sat0 rfl (fun f hf ho k hk => by
    rcases List.mem_append.1 hf with hf | hf
    · exact ⟨f, hf, hk⟩
    · obtain rfl := List.mem_singleton.1 hf; cases ho)
  refine con_of_sx (cx := cx_knows_have_1 w (Un (keepH b D made d))) g b_knows_have_1 rfl rfl (β := Va.z) [.c (.v (.int .i64 n)), .c (.v (.pointer (some ⟨b, 0, none⟩)))] 0 [] _ rfl rfl hs0 ?_
  refine ⟨_, fun β w' hs => cellM_bk (hs.get 0 rfl) (o := 0) rfl, ?_⟩
  refine call_pu (fun β w' hs => marked_c w' D made d n (hs.get 1 rfl)) ?_
  intro β w' hs
  exact hs.fin [0] ⟨rfl, rfl⟩
theorem idxH_c (w : World) (A D : Option Addr) (l : List Nat) (made : List Bool) (c d b : Nat) (hr : Rd 1 A l.length (ints l) w) (hn : l.length ≤ 2000000) (hm : Mem w (keepH b D made d ++ [mkF D made, rdF 1 A l.length (ints l)])) :
    Con Tryz.prog n_slices_IndexFunc_int_int #[.slice A l.length c, .func (.func n_knows_have_1) #[] #[.pointer (some ⟨b, 0, none⟩)]] w (keepH b D made d) fun v Fs => ∃ i : Int, v = .int .i64 i ∧ (0 ≤ i ↔ haveB l made = false) ∧ Fs = keepH b D made d := by
  have g := good_slices_IndexFunc_int_int w (Un (keepH b D made d))
  have hs0 : Sat (cx_slices_IndexFunc_int_int w (Un (keepH b D made d))) Va.z 0 [] (keepH b D made d ++ [mkF D made, rdF 1 A l.length (ints l)]) w := hm.sat0 rfl (fun f hf ho k hk => by
    rcases List.mem_append.1 hf with hf | hf
    · exact ⟨f, hf, hk⟩
    · simp only [List.mem_cons, List.not_mem_nil, or_false] at hf
      rcases hf with rfl | rfl <;> cases ho)
  refine con_of_sx (cx := cx_slices_IndexFunc_int_int w (Un (keepH b D made d))) g b_slices_IndexFunc_int_int rfl rfl (β := Va.z) [.c (.v (.slice A l.length c)), .c (.v (.func (.func n_knows_have_1) #[] #[.pointer (some ⟨b, 0, none⟩)]))] 0 [] _ rfl rfl hs0 ?_
  have hml := maxLen_eq
  refine loop_rule 0 (fun i : Nat => [(0, .c (.v (.slice A l.length c))), (1, .c (.v (.func (.func n_knows_have_1) #[] #[.pointer (some ⟨b, 0, none⟩)]))), (7, .c (.v (.int .i64 l.length))), (8, .c (.v (.int .i64 (i : Int))))]) (fun _ => []) (fun _ => keepH b D made d ++ [mkF D made, rdF 1 A l.length (ints l)])
    (fun i => i ≤ l.length ∧ haveB (l.take i) made = true) (fun i => l.length - i) 0 ⟨Nat.zero_le _, rfl⟩ (Ent.same ⟨rfl, rfl, rfl, rfl, trivial⟩ rfl) g ?_
  rintro i ⟨hi, hpre⟩
  refine BIf.dec (fun hlt => ?_) (fun hge => ?_)
  · have hlt0 : (i : Int) < l.length := hlt
    obtain ⟨y, hy, hym⟩ := at_lt (show i < l.length by omega)
    obtain ⟨ad, hA, _⟩ := hr.2 (by omega)
    refine ⟨ad, i, hA, rfl, by omega, .int .i64 (y : Int), fun β w' hs => Rd.cell1 (show Rd 1 (some ad) l.length (ints l) w' from hA ▸ hs.get 2 rfl) (by simp [ints, hy]), ?_⟩
    refine Or.inl ⟨by kernel_rfl, ?_⟩
    refine call_con [0] (fun β w' hs => have1_c w' D made d b (y : Int) (hs.mem.take (js := [0, 1]) rfl)) ?_
    rintro v Fs ⟨rfl, rfl⟩
    cases hb : markB made (y : Int) with
    | true =>
      refine ⟨((i + 1 : Nat) : Int), by rw [wrap_i64 (by omega) (by omega)]; rfl, ?_⟩
      refine ⟨i + 1, ⟨by omega, ?_⟩, by omega, Ent.mk' ⟨rfl, rfl, rfl, rfl, trivial⟩ rfl (fun β w' hs => hs)⟩
      unfold haveB at hpre ⊢
      rw [List.take_add_one, hy, List.all_append, hpre]
      simp [hb]
    | false =>
      intro β w' hs
      refine hs.fin [0] ⟨(i : Int), rfl, ⟨fun _ => ?_, fun _ => by omega⟩, rfl⟩ rfl rfl rfl ⟨rfl, trivial⟩
      cases q : haveB l made with
      | false => rfl
      | true => rw [List.all_eq_true.1 q y hym] at hb; cases hb
  · have hge0 : ¬ (i : Int) < l.length := hge
    rw [List.take_of_length_le (by omega)] at hpre
    intro β w' hs
    exact hs.fin [0] ⟨-1, rfl, ⟨fun h => absurd h (by decide), fun h => by rw [hpre] at h; cases h⟩, rfl⟩ rfl rfl rfl ⟨rfl, trivial⟩
theorem conH_c (w : World) (A D : Option Addr) (l : List Nat) (made : List Bool) (c d b : Nat) (hr : Rd 1 A l.length (ints l) w) (hn : l.length ≤ 2000000) (hm : Mem w (keepH b D made d ++ [mkF D made, rdF 1 A l.length (ints l)])) :
    Con Tryz.prog n_slices_ContainsFunc_int_int #[.slice A l.length c, .func (.func n_knows_have_1) #[] #[.pointer (some ⟨b, 0, none⟩)]] w (keepH b D made d) fun v Fs => v = .bool (!haveB l made) ∧ Fs = keepH b D made d := by
  have g := good_slices_ContainsFunc_int_int w (Un (keepH b D made d))
  have hs0 : Sat (cx_slices_ContainsFunc_int_int w (Un (keepH b D made d))) Va.z 0 [] (keepH b D made d ++ [mkF D made, rdF 1 A l.length (ints l)]) w := hm.sat0 rfl (fun f hf ho k hk => by
    rcases List.mem_append.1 hf with hf | hf
    · exact ⟨f, hf, hk⟩
    · simp only [List.mem_cons, List.not_mem_nil, or_false] at hf
      rcases hf with rfl | rfl <;> cases ho)
  refine con_of_sx (cx := cx_slices_ContainsFunc_int_int w (Un (keepH b D made d))) g b_slices_ContainsFunc_int_int rfl rfl (β := Va.z) [.c (.v (.slice A l.length c)), .c (.v (.func (.func n_knows_have_1) #[] #[.pointer (some ⟨b, 0, none⟩)]))] 0 [] _ rfl rfl hs0 ?_
  refine call_con [0] (fun β w' hs => idxH_c w' A D l made c d b (hs.get 2 rfl) hn (hs.mem.take (js := [0, 1, 2]) rfl)) ?_
  rintro v Fs ⟨i, rfl, hi, rfl⟩
  intro β w' hs
  refine hs.fin [0] ⟨?_, rfl⟩ rfl rfl rfl ⟨rfl, trivial⟩
  show Value.bool (decide (0 ≤ i)) = _
  cases q : haveB l made with
  | false => rw [decide_eq_true (hi.2 q)]; rfl
  | true => rw [decide_eq_false (fun h => by rw [hi.1 h] at q; cases q)]; rfl
theorem have_c (w : World) (A D : Option Addr) (l : List Nat) (made : List Bool) (c d : Nat) (hr : Rd 1 A l.length (ints l) w) (hn : l.length ≤ 2000000) (hm : Mem w [rdF 1 A l.length (ints l), mkF D made]) :
    Con Tryz.prog n_knows_have #[.slice A l.length c, .slice D made.length d] w [] fun v Fs => v = .bool (haveB l made) ∧ Fs = [] := by
  have g := good_knows_have w (Un [])
  have hs0 : Sat (cx_knows_have w (Un [])) Va.z 0 [] [rdF 1 A l.length (ints l), mkF D made] w := hm.sat0 rfl (fun f hf ho k hk => by
    simp only [List.mem_cons, List.not_mem_nil, or_false] at hf
    rcases hf with rfl | rfl <;> cases ho)
  refine con_of_tri (cx := cx_knows_have w (Un [])) g b_knows_have rfl rfl (β := Va.z) [.c (.v (.slice A l.length c)), .c (.v (.slice D made.length d))] 0 [] _ rfl rfl hs0 ?_
  refine tri_seq g ?_
  refine reify_tri 0 (fun _ => [.slice D made.length d]) rfl rfl (fun _ => rfl) (fun rb => ?_)
  refine tri_seq g ?_
  refine call_con [0] (fun β w' hs => conH_c w' A D l made c d rb (hs.get 1 rfl) hn (hs.mem.take (js := [0, 2, 1]) rfl)) ?_
  rintro v Fs ⟨rfl, rfl⟩
  refine tri_of g ?_
  intro β w' hs
  refine hs.fin [] ⟨?_, rfl⟩
  show Value.bool (!!haveB l made) = _
  rw [Bool.not_not]
structure Nd where
  of : List Nat
  ok : Bool
  turn : Bool
def ndT (ss : List (List UInt8)) (t : Bx.Term) : Nd := if t.kind = 4 then ⟨t.list, true, true⟩ else ⟨foundS t.key ++ foundS t.text, betweenB ss t.key && betweenB ss t.text, false⟩
def ndL (ss : List (List UInt8)) (L : List Bx.Term) : List Nd := ⟨[], false, false⟩ :: L.map (ndT ss)
def IsM (l : List Bool) (n : Nat) : Prop := markB l (n : Int) = true
theorem markB_nat (l : List Bool) (n : Nat) : markB l (n : Int) = l.getD n false := by
  unfold markB
  rw [decide_eq_true (Int.natCast_nonneg n), Bool.true_and, Int.toNat_natCast]
theorem isM_lt {l : List Bool} {n : Nat} (h : IsM l n) : n < l.length := by
  unfold IsM at h
  rw [markB_nat, List.getD_eq_getElem?_getD] at h
  rcases Nat.lt_or_ge n l.length with q | q
  · exact q
  · rw [List.getElem?_eq_none q] at h; cases h
theorem isM_iff {l : List Bool} {n : Nat} : IsM l n ↔ l[n]? = some true := by
  unfold IsM
  rw [markB_nat, List.getD_eq_getElem?_getD]
  cases l[n]? with
  | none => simp
  | some b => simp
theorem isM_set {l : List Bool} {n m : Nat} (hn : n < l.length) : IsM (l.set n true) m ↔ IsM l m ∨ m = n := by
  rw [isM_iff, isM_iff, List.getElem?_set]
  by_cases h : n = m
  · subst h
    rw [if_pos rfl, if_pos hn]
    simp
  · rw [if_neg h]
    exact ⟨.inl, fun q => q.elim id (fun e => absurd e.symm h)⟩
theorem have_iff {of : List Nat} {C : List Bool} : haveB of C = true ↔ ∀ n ∈ of, IsM C n := by
  unfold haveB IsM
  exact List.all_eq_true
def leftL (C : List Bool) (of : List Nat) : List Nat := of.filter fun n => !markB C (n : Int)
def OkAt (C : List Bool) (n : Nat) (d : Nd) : Prop := (d.ok = true → haveB d.of C = true → IsM C n) ∧ (d.turn = true → IsM C n → ∀ k, leftL C d.of = [k] → k < C.length → IsM C k)
def Closed (nds : List Nd) (C : List Bool) : Prop := C.length = nds.length ∧ ∀ n d, nds[n]? = some d → 0 < n → OkAt C n d
def Le (A C : List Bool) : Prop := A.length = C.length ∧ ∀ n, IsM A n → IsM C n
def Least (nds : List Nd) (I R : List Bool) : Prop := Closed nds R ∧ Le I R ∧ ∀ C, Closed nds C → Le I C → Le R C
theorem Le.refl (A : List Bool) : Le A A := ⟨rfl, fun _ h => h⟩
theorem Le.trans {A B C : List Bool} (h : Le A B) (h2 : Le B C) : Le A C := ⟨h.1.trans h2.1, fun n q => h2.2 n (h.2 n q)⟩
theorem Le.set {A C : List Bool} {n : Nat} (h : Le A C) (hn : n < A.length) (hc : IsM C n) : Le (A.set n true) C := by
  refine ⟨by rw [List.length_set]; exact h.1, fun m q => ?_⟩
  rcases (isM_set hn).1 q with q | rfl
  · exact h.2 m q
  · exact hc
theorem Le.have {A C : List Bool} (h : Le A C) {of : List Nat} (q : haveB of A = true) : haveB of C = true := have_iff.2 fun n hn => h.2 n (have_iff.1 q n hn)
theorem left_le {A C : List Bool} (h : Le A C) (of : List Nat) : leftL C of = leftL C (leftL A of) := by
  unfold leftL
  rw [List.filter_filter]
  refine (List.filter_congr fun n _ => ?_)
  cases hc : markB C (n : Int) with
  | true => rfl
  | false =>
    cases ha : markB A (n : Int) with
    | false => rfl
    | true => exact absurd ((show markB C (n : Int) = true from h.2 n ha)) (by rw [hc]; decide)
theorem left_mem {C : List Bool} {of : List Nat} {k : Nat} (h : k ∈ leftL C of) : k ∈ of ∧ ¬ IsM C k := by
  unfold leftL at h
  obtain ⟨h1, h2⟩ := List.mem_filter.1 h
  refine ⟨h1, fun q => ?_⟩
  rw [show markB C (k : Int) = true from q] at h2
  cases h2
theorem lone_in {nds : List Nd} {A C : List Bool} {n k : Nat} {d : Nd} (hC : Closed nds C) (h : Le A C) (hd : nds[n]? = some d) (h0 : 0 < n) (ht : d.turn = true) (hn : IsM A n) (hk : leftL A d.of = [k]) (hl : k < A.length) : IsM C k := by
  have h2 := (hC.2 n d hd h0).2 ht (h.2 n hn) k
  have e := left_le h d.of
  rw [hk] at e
  by_cases q : IsM C k
  · exact q
  · refine h2 ?_ (by rw [← h.1]; exact hl)
    rw [e]
    unfold leftL
    have : markB C (k : Int) = false := by
      cases hm : markB C (k : Int) with
      | false => rfl
      | true => exact absurd hm q
    simp [this]
def cntF (l : List Bool) : Nat := l.count false
theorem cntF_set : ∀ {l : List Bool} {n : Nat}, n < l.length → ¬ IsM l n → cntF (l.set n true) + 1 = cntF l
  | [], n, h, _ => absurd h (Nat.not_lt_zero _)
  | b :: r, 0, _, hm => by
    cases b with
    | true => exact absurd rfl hm
    | false => simp [cntF]
  | b :: r, n + 1, h, hm => by
    have ih := cntF_set (l := r) (n := n) (by simpa using h) (fun q => hm (isM_iff.2 (by rw [List.getElem?_cons_succ]; exact isM_iff.1 q)))
    unfold cntF at ih ⊢
    rw [List.set_cons_succ, List.count_cons, List.count_cons]
    omega
structure Inn (nds : List Nd) (I m0 made : List Bool) (n : Nat) (more : Bool) : Prop where
  len : made.length = nds.length
  le0 : Le I made
  least : ∀ C, Closed nds C → Le I C → Le made C
  lt : more = true → cntF made < cntF m0
  same : more = false → made = m0 ∧ ∀ i d, nds[i]? = some d → 0 < i → i < n → OkAt made i d
structure Mid (nds : List Nd) (I m0 made : List Bool) (n : Nat) (more : Bool) (d : Nd) : Prop where
  inn : Inn nds I m0 made n more
  half : 0 < n → d.ok = true → haveB d.of made = true → more = false → IsM made n
theorem Inn.cnt {nds : List Nd} {I m0 made : List Bool} {n : Nat} {more : Bool} (h : Inn nds I m0 made n more) : cntF made ≤ cntF m0 := by
  cases more with
  | true => exact Nat.le_of_lt (h.lt rfl)
  | false => rw [(h.same rfl).1]; exact Nat.le_refl _
theorem Inn.put {nds : List Nd} {I m0 made : List Bool} {n k : Nat} {more : Bool} (h : Inn nds I m0 made n more) (hk : k < made.length) (hm : ¬ IsM made k) (hC : ∀ C, Closed nds C → Le I C → Le made C → IsM C k) : Inn nds I m0 (made.set k true) n true where
  len := by rw [List.length_set]; exact h.len
  le0 := ⟨by rw [List.length_set]; exact h.le0.1, fun m q => (isM_set hk).2 (.inl (h.le0.2 m q))⟩
  least := fun C h1 h2 => (h.least C h1 h2).set hk (hC C h1 h2 (h.least C h1 h2))
  lt := fun _ => by have := cntF_set hk hm; have := h.cnt; omega
  same := fun q => by cases q
theorem Inn.mid_put {nds : List Nd} {I m0 made : List Bool} {n : Nat} {more : Bool} {d : Nd} (h : Inn nds I m0 made n more) (hd : nds[n]? = some d) (h0 : 0 < n) (hm : ¬ IsM made n) (hok : d.ok = true) (hv : haveB d.of made = true) : Mid nds I m0 (made.set n true) n true d where
  inn := h.put (by rw [h.len]; exact (List.getElem?_eq_some_iff.1 hd).1) hm (fun C h1 _ h3 => (h1.2 n d hd h0).1 hok (h3.have hv))
  half := fun _ _ _ q => by cases q
theorem Inn.mid_no {nds : List Nd} {I m0 made : List Bool} {n : Nat} {more : Bool} {d : Nd} (h : Inn nds I m0 made n more) (hno : 0 < n → d.ok = true → haveB d.of made = true → IsM made n) : Mid nds I m0 made n more d := ⟨h, fun h0 h1 h2 _ => hno h0 h1 h2⟩
theorem Inn.next {nds : List Nd} {I m0 made : List Bool} {n : Nat} {d : Nd} {more : Bool} (h : Inn nds I m0 made n more) (hd : nds[n]? = some d) (hn : 0 < n → more = false → OkAt made n d) : Inn nds I m0 made (n + 1) more where
  len := h.len
  le0 := h.le0
  least := h.least
  lt := h.lt
  same := fun q => ⟨(h.same q).1, fun i d' hi h0 hlt => by
    rcases Nat.lt_or_ge i n with q2 | q2
    · exact (h.same q).2 i d' hi h0 q2
    · obtain rfl : i = n := by omega
      rw [hd] at hi
      obtain rfl := Option.some.inj hi
      exact hn h0 q⟩
theorem Mid.next_no {nds : List Nd} {I m0 made : List Bool} {n : Nat} {d : Nd} {more : Bool} (h : Mid nds I m0 made n more d) (hd : nds[n]? = some d) (hno : 0 < n → d.turn = true → IsM made n → ∀ k, leftL made d.of = [k] → k < made.length → IsM made k) : Inn nds I m0 made (n + 1) more :=
  h.inn.next hd fun h0 q => ⟨fun h1 h2 => h.half h0 h1 h2 q, hno h0⟩
theorem Mid.next_put {nds : List Nd} {I m0 made : List Bool} {n k : Nat} {d : Nd} {more : Bool} (h : Mid nds I m0 made n more d) (hd : nds[n]? = some d) (h0 : 0 < n) (ht : d.turn = true) (hm : IsM made n) (hk : leftL made d.of = [k]) (hl : k < made.length) : Inn nds I m0 (made.set k true) (n + 1) true := by
  have hno := (left_mem (C := made) (of := d.of) (k := k) (by rw [hk]; exact List.mem_singleton.2 rfl)).2
  have h2 := h.inn.put hl hno (fun C h1 _ h3 => lone_in h1 h3 hd h0 ht hm hk hl)
  exact h2.next hd (fun _ q => by cases q)
theorem Inn.start {nds : List Nd} {I made : List Bool} (hl : made.length = nds.length) (h0 : Le I made) (h1 : ∀ C, Closed nds C → Le I C → Le made C) : Inn nds I made made 0 false := ⟨hl, h0, h1, fun q => (by cases q), fun _ => ⟨rfl, fun i d _ _ q => absurd q (Nat.not_lt_zero _)⟩⟩
theorem Inn.done {nds : List Nd} {I m0 made : List Bool} (h : Inn nds I m0 made nds.length false) : Least nds I made := by
  refine ⟨⟨h.len, fun n d hd h0 => (h.same rfl).2 n d hd h0 (List.getElem?_eq_some_iff.1 hd).1⟩, h.le0, h.least⟩
def marksOf (N : Nat) (ns : List Nat) : List Bool := (List.range N).map fun i => decide (i ∈ ns)
theorem marksOf_len (N : Nat) (ns : List Nat) : (marksOf N ns).length = N := by simp [marksOf]
theorem marksOf_iff {N : Nat} {ns : List Nat} {n : Nat} : IsM (marksOf N ns) n ↔ n < N ∧ n ∈ ns := by
  rw [isM_iff]
  unfold marksOf
  rw [List.getElem?_map]
  by_cases h : n < N
  · rw [List.getElem?_range h]
    simp [h]
  · rw [List.getElem?_eq_none (by simp; omega)]
    simp [h]
abbrev Tm := Bx.Term × TA
def insT (L : List Bx.Term) (pre : List Tm) (x : Tm) (args : Array Value) (X : Fact) : Prop := args = #[.int .i64 ((pre.length + 1 : Nat) : Int), .agg (termV x.1 x.2).toArray] ∧ X = sepF (copyFs x.1 x.2) ∧ L[pre.length]? = some x.1
def termsEnd (b : Nat) (B : Bx.Box) (y : Lay) (J Jx : List Tm → Fact → Prop) (Fs : List Fact) : Prop :=
  ∃ f Fs', Fs = f :: Fs' ∧ ((∃ xs, J xs f ∧ xs.length = B.L.length ∧ Fs' = [bxF b B y]) ∨ (∃ pre, Jx pre f ∧ pre.length ≤ B.L.length ∧ Fs' = [bxF b B y]))
theorem terms_it (l : Nat) (w : World) (bx b : Nat) (B : Bx.Box) (y : Lay) (f0 R : Fact) (J Jx : List Tm → Fact → Prop) (hts : y.ts.map (·.1) = B.L) (hL : B.L.length ≤ 4096) (hsz : ∀ t ∈ B.L, TSz t) (hJ0 : J [] f0) (hJo : ∀ pre f, J pre f → f.own = true) (hRo : R.own = false) (hY : Yc Tryz.prog l J Jx R (insT B.L))
    (hm : Mem w (f0 :: R :: [bkF bx ty_ptr_box_Box [ptrB b], bxF b B y])) :
    Con Tryz.prog n_box_Box_Terms_1 #[.func (.yield l) #[] #[], .pointer (some ⟨bx, 0, none⟩)] w [f0, bkF bx ty_ptr_box_Box [ptrB b], bxF b B y] (fun _ Fs => termsEnd b B y J Jx Fs) := by
  have g := good_box_Box_Terms_1 w (Un [f0, bkF bx ty_ptr_box_Box [ptrB b], bxF b B y]) [bx]
  have hs0 : Sat (cx_box_Box_Terms_1 w (Un [f0, bkF bx ty_ptr_box_Box [ptrB b], bxF b B y]) [bx]) (Va.of fun _ => bx) 1 [] (f0 :: R :: [bkF bx ty_ptr_box_Box [ptrB b], bxF b B y]) w := by
    refine hm.sat rfl (fun f hf ho k hk => ?_) ⟨Nat.le_refl 1, fun i hi => by obtain rfl : i = 0 := Nat.lt_one_iff.1 hi; rfl⟩
    simp only [List.mem_cons, List.not_mem_nil, or_false] at hf
    rcases hf with rfl | rfl | rfl | rfl
    · exact ⟨_, by simp, hk⟩
    · rw [hRo] at ho; cases ho
    · exact ⟨bkF bx ty_ptr_box_Box [ptrB b], by simp, hk⟩
    · exact ⟨bxF b B y, by simp, hk⟩
  have hs1 := hs0.toBk 2 rfl 0 Nat.zero_lt_one rfl
  refine con_of_sx (cx := cx_box_Box_Terms_1 w (Un [f0, bkF bx ty_ptr_box_Box [ptrB b], bxF b B y]) [bx]) g b_box_Box_Terms_1 rfl rfl (β := Va.of fun _ => bx) [.c (.v (.func (.yield l) #[] #[])), .c (.p 0 0)] 1 _ _ rfl rfl hs1 ?_
  have hlen : y.ts.length = B.L.length := by rw [← hts, List.length_map]
  have hyA : 0 < B.L.length → ∃ ad, y.A = some ad := fun hp => by
    obtain ⟨ad, q, _⟩ := (bx_rd (hs1.get 2 rfl)).2 (by omega)
    exact ⟨ad, q⟩
  refine call_pu (fun β w' hs => lenX_c w' b B y (hs.get 2 rfl) (fun k hk => hs.flt _ (List.mem_of_getElem? (i := 2) rfl) k hk)) ?_
  refine loop_rule (ι := List Tm × Fact) 1 (fun i => [(0, .c (.v (.func (.yield l) #[] #[]))), (1, .c (.p 0 0)), (5, .c (.v (.int .i64 (B.L.length : Int)))), (6, .c (.v (.int .i64 (i.1.length : Int))))]) (fun _ => [⟨0, ty_ptr_box_Box, [.v (ptrB b)]⟩]) (fun i => [i.2, R, bxF b B y])
    (fun i => J i.1 i.2 ∧ i.1.length ≤ B.L.length) (fun i => B.L.length - i.1.length) ([], f0) ⟨hJ0, Nat.zero_le _⟩ (Ent.same ⟨rfl, rfl, rfl, rfl, trivial⟩ rfl) g ?_
  rintro ⟨pre, f⟩ ⟨hJ, hi⟩
  simp only at hJ hi
  have hfo := hJo _ _ hJ
  simp only
  refine BIf.dec (fun hlt => ?_) (fun hge => ?_)
  · have hlt0 : (pre.length : Int) < B.L.length := hlt
    have hkl : pre.length < B.L.length := by omega
    obtain ⟨q, hq, hqm⟩ := at_lt (l := y.ts) (k := pre.length) (by omega)
    have hqL : B.L[pre.length]? = some q.1 := by rw [← hts, List.getElem?_map, hq]; rfl
    have hqs := hsz _ (List.mem_of_getElem? hqL)
    refine ⟨((pre.length + 1 : Nat) : Int), by rw [wrap_i64 (by omega) (by omega)]; rfl, ?_⟩
    refine ⟨.slice y.A B.L.length y.c, fun β w' hs => box_cell (bx_bk (hs.get 2 rfl)) (o := 2) rfl, ?_⟩
    obtain ⟨ad, hAd⟩ := hyA (by omega)
    refine ⟨ad, pre.length, hAd, rfl, hkl, termV q.1 q.2, rfl, fun β w' hs => elem6 (bx_rd (hs.get 2 rfl)) hlen hAd hq, ?_⟩
    refine call_conS [] (fun β w' hs => copyOf_c w' q.1 q.2 (bx_parts (hs.get 2 rfl) q hqm) hqs) ?_
    rintro v Fs ⟨a', rfl, rfl⟩
    refine ⟨_, _, fun β w' hs => hs.sep [0, 1, 2, 3] rfl ⟨rfl, rfl, rfl, rfl, trivial⟩, ?_⟩
    refine yield_own (X := sepF (copyFs q.1 a')) (x := (q.1, a')) hY 1 2 0 rfl hJ hfo rfl rfl rfl (by decide) (by decide) (by decide) (fun β => ⟨rfl, rfl, hqL⟩) ?_ ?_
    · intro f2 hfo2 hJ2
      have e : (pre ++ [(q.1, a')]).length = pre.length + 1 := by rw [List.length_append]; rfl
      refine ⟨((pre.length + 1 : Nat) : Int), by rw [wrap_i64 (by omega) (by omega)]; rfl, ?_⟩
      refine ⟨(pre ++ [(q.1, a')], f2), ⟨hJ2, by show (pre ++ [(q.1, a')]).length ≤ _; omega⟩, by show B.L.length - (pre ++ [(q.1, a')]).length < B.L.length - pre.length; omega, ?_⟩
      simp only [e]
      exact Ent.same ⟨rfl, rfl, rfl, rfl, trivial⟩ rfl
    · intro f2 hfo2 hJ2 β w' hs
      have e : (pre ++ [(q.1, a')]).length = pre.length + 1 := by rw [List.length_append]; rfl
      exact (hs.keepB (List.nil_sublist _)).fin [0, 2] ⟨f2, _, rfl, .inr ⟨_, hJ2, by omega, rfl⟩⟩ rfl rfl rfl ⟨hfo2, rfl, trivial⟩
  · have hge0 : ¬ (pre.length : Int) < B.L.length := hge
    intro β w' hs
    exact (hs.keepB (List.nil_sublist _)).fin [0, 2] ⟨f, _, rfl, .inl ⟨pre, hJ, by omega, rfl⟩⟩ rfl rfl rfl ⟨hfo, rfl, trivial⟩
theorem terms_c (w : World) (b : Nat) : Con Tryz.prog n_box_Box_Terms #[ptrB b] w [] (fun v Fs => ∃ bx, v = .func (.func n_box_Box_Terms_1) #[] #[.pointer (some ⟨bx, 0, none⟩)] ∧ Fs = [bkF bx ty_ptr_box_Box [ptrB b]]) := by
  refine con_of_sx (cx := cx_box_Box_Terms w (Un [])) (good_box_Box_Terms w (Un [])) b_box_Box_Terms rfl rfl (β := Va.z) [.c (.v (ptrB b))] 0 [] [] rfl rfl (Sat.start rfl) ?_
  intro β w' hs
  exact hs.ofBk.fin [0] ⟨β 0, rfl, rfl⟩
theorem known_c (w : World) (x : Md) (hn : x.seen.length ≤ 1000000) (hm : Mem w (mdFs x)) :
    Con Tryz.prog n_knows_Mind_Known #[.pointer (some ⟨x.b, 0, none⟩)] w (mdFs x) fun v Fs => ∃ A c, v = .slice A (sortN x.seen).length c ∧ Fs = irowF A (sortN x.seen) c :: mdFs x := by
  have g := good_knows_Mind_Known w (Un (mdFs x))
  have hs0 : Sat (cx_knows_Mind_Known w (Un (mdFs x))) Va.z 0 [] (mdFs x) w := hm.sat0 rfl (fun f hf ho k hk => ⟨f, hf, hk⟩)
  refine con_of_sx (cx := cx_knows_Mind_Known w (Un (mdFs x))) g b_knows_Mind_Known rfl rfl (β := Va.z) [.c (.v (.pointer (some ⟨x.b, 0, none⟩)))] 0 [] _ rfl rfl hs0 ?_
  refine ⟨.map (some x.m), fun β w' hs => cellM_bk (hs.get 0 rfl) (o := 2) rfl, ?_⟩
  refine call_con [] (fun β w' hs => keysJ_c w' (some x.m)) ?_
  rintro v Fs ⟨bk, rfl, rfl⟩
  refine call_con [0, 3] (fun β w' hs => sortedJ_c w' bk x.m x.seen hn (hs.mem.take (js := [0, 3]) rfl)) ?_
  rintro v Fs ⟨A, c, rfl, rfl⟩
  intro β w' hs
  exact hs.fin [0, 2, 3, 1] ⟨A, c, rfl, rfl⟩ rfl rfl rfl ⟨rfl, rfl, rfl, rfl, trivial⟩
theorem lone1_c (w : World) (D : Option Addr) (made : List Bool) (d b : Nat) (n : Int) (hm : Mem w (keepH b D made d ++ [mkF D made])) :
    Con Tryz.prog n_knows_lone_1 #[.int .i64 n, .pointer (some ⟨b, 0, none⟩)] w (keepH b D made d) fun v Fs => v = .bool (markB made n) ∧ Fs = keepH b D made d := by
  have g := good_knows_lone_1 w (Un (keepH b D made d))
  have hs0 : Sat (cx_knows_lone_1 w (Un (keepH b D made d))) Va.z 0 [] (keepH b D made d ++ [mkF D made]) w := hm.sat0 rfl (fun f hf ho k hk => by
    rcases List.mem_append.1 hf with hf | hf
    · exact ⟨f, hf, hk⟩
    · obtain rfl := List.mem_singleton.1 hf; cases ho)
  refine con_of_sx (cx := cx_knows_lone_1 w (Un (keepH b D made d))) g b_knows_lone_1 rfl rfl (β := Va.z) [.c (.v (.int .i64 n)), .c (.v (.pointer (some ⟨b, 0, none⟩)))] 0 [] _ rfl rfl hs0 ?_
  refine ⟨_, fun β w' hs => cellM_bk (hs.get 0 rfl) (o := 0) rfl, ?_⟩
  refine call_pu (fun β w' hs => marked_c w' D made d n (hs.get 1 rfl)) ?_
  intro β w' hs
  exact hs.fin [0] ⟨rfl, rfl⟩
def ixF (f : Nat → Bool) (l : List Nat) : Int := if l.any f = true then (l.findIdx f : Int) else -1
theorem idxL_c (w : World) (A D : Option Addr) (l : List Nat) (made : List Bool) (c d b : Nat) (hr : Rd 1 A l.length (ints l) w) (hn : l.length ≤ 2000000) (hm : Mem w (keepH b D made d ++ [mkF D made, rdF 1 A l.length (ints l)])) :
    Con Tryz.prog n_slices_IndexFunc_int_int #[.slice A l.length c, .func (.func n_knows_lone_1) #[] #[.pointer (some ⟨b, 0, none⟩)]] w (keepH b D made d) fun v Fs => v = .int .i64 (ixF (fun n : Nat => markB made (n : Int)) l) ∧ Fs = keepH b D made d := by
  have g := good_slices_IndexFunc_int_int w (Un (keepH b D made d))
  have hs0 : Sat (cx_slices_IndexFunc_int_int w (Un (keepH b D made d))) Va.z 0 [] (keepH b D made d ++ [mkF D made, rdF 1 A l.length (ints l)]) w := hm.sat0 rfl (fun f hf ho k hk => by
    rcases List.mem_append.1 hf with hf | hf
    · exact ⟨f, hf, hk⟩
    · simp only [List.mem_cons, List.not_mem_nil, or_false] at hf
      rcases hf with rfl | rfl <;> cases ho)
  refine con_of_sx (cx := cx_slices_IndexFunc_int_int w (Un (keepH b D made d))) g b_slices_IndexFunc_int_int rfl rfl (β := Va.z) [.c (.v (.slice A l.length c)), .c (.v (.func (.func n_knows_lone_1) #[] #[.pointer (some ⟨b, 0, none⟩)]))] 0 [] _ rfl rfl hs0 ?_
  have hml := maxLen_eq
  obtain ⟨f, hf⟩ : ∃ f : Nat → Bool, f = fun n : Nat => markB made (n : Int) := ⟨_, rfl⟩
  rw [← hf]
  refine loop_rule 0 (fun i : Nat => [(0, .c (.v (.slice A l.length c))), (1, .c (.v (.func (.func n_knows_lone_1) #[] #[.pointer (some ⟨b, 0, none⟩)]))), (7, .c (.v (.int .i64 l.length))), (8, .c (.v (.int .i64 (i : Int))))]) (fun _ => []) (fun _ => keepH b D made d ++ [mkF D made, rdF 1 A l.length (ints l)])
    (fun i => i ≤ l.length ∧ (l.take i).any f = false) (fun i => l.length - i) 0 ⟨Nat.zero_le _, rfl⟩ (Ent.same ⟨rfl, rfl, rfl, rfl, trivial⟩ rfl) g ?_
  rintro i ⟨hi, hpre⟩
  refine BIf.dec (fun hlt => ?_) (fun hge => ?_)
  · have hlt0 : (i : Int) < l.length := hlt
    obtain ⟨y, hy, hym⟩ := at_lt (show i < l.length by omega)
    obtain ⟨ad, hA, _⟩ := hr.2 (by omega)
    refine ⟨ad, i, hA, rfl, by omega, .int .i64 (y : Int), fun β w' hs => Rd.cell1 (show Rd 1 (some ad) l.length (ints l) w' from hA ▸ hs.get 2 rfl) (by simp [ints, hy]), ?_⟩
    refine Or.inl ⟨by kernel_rfl, ?_⟩
    refine call_con [0] (fun β w' hs => lone1_c w' D made d b (y : Int) (hs.mem.take (js := [0, 1]) rfl)) ?_
    rintro v Fs ⟨rfl, rfl⟩
    have hfy : f y = markB made (y : Int) := by rw [hf]
    rw [← hfy]
    cases hb : f y with
    | false =>
      refine ⟨((i + 1 : Nat) : Int), by rw [wrap_i64 (by omega) (by omega)]; rfl, ?_⟩
      refine ⟨i + 1, ⟨by omega, ?_⟩, by omega, Ent.mk' ⟨rfl, rfl, rfl, rfl, trivial⟩ rfl (fun β w' hs => hs)⟩
      rw [List.take_add_one, hy, List.any_append, hpre]
      simp [hb]
    | true =>
      have hix : l.findIdx f = i := by
        refine (List.findIdx_eq (by omega)).2 ⟨?_, fun j hj => ?_⟩
        · rw [(List.getElem?_eq_some_iff.1 hy).2]; exact hb
        · have := List.any_eq_false.1 hpre (l[j]'(by omega)) (List.mem_take_iff_getElem.2 ⟨j, by omega, rfl⟩)
          simpa using this
      have hany : l.any f = true := List.any_eq_true.2 ⟨y, hym, hb⟩
      intro β w' hs
      exact hs.fin [0] ⟨by unfold ixF; rw [if_pos hany, hix]; rfl, rfl⟩ rfl rfl rfl ⟨rfl, trivial⟩
  · have hge0 : ¬ (i : Int) < l.length := hge
    rw [List.take_of_length_le (by omega)] at hpre
    intro β w' hs
    exact hs.fin [0] ⟨by unfold ixF; rw [hpre]; rfl, rfl⟩ rfl rfl rfl ⟨rfl, trivial⟩
end Go.Proofs.YtoifclfanabalaaGreatDoor.Sx

namespace Go.Proofs.YtoifclfanabalaaGreatDoor.Sx
open Go
theorem zeroCells_one (z0 : Value) (n : Nat) : (Builtin.zeroCells #[z0] n).toList = List.replicate n z0 := by
  simp [Builtin.zeroCells]
  apply List.ext_getElem
  · simp
  · intro i h1 h2
    simp [Nat.mod_one]
section
variable {cx : Cx} {β : Va} {n : Nat} {env : Env} {H : List Bk} {F : List Fact} {w : World}
theorem Sat.clearRow (h : Sat cx β n H F w) (g : Good cx) (j : Nat) {b k c e i m q : Nat} {xs : List Value} {z0 : Value} (hj : nth F j = some (rowF e 1 (.slice (some ⟨b, 0, none⟩) k c) k xs)) (him : i + m = k) (hm : 0 < m)
    {t : TypeId} {it ie : TI} (ty : TypeId) (cst : Array Bool) (h1 : z0.oneCell' = true) (hi : lk cx.tt t = some it := by rfl) (hd : it.desc = .slice e := by rfl) (hie : lk cx.tt e = some ie := by rfl) (hz : ie.zero = [z0] := by rfl) :
    ∃ w', (builtin .clear #[t] ty cst #[.slice (some ((⟨b, 0, none⟩ : Addr).add i)) m q]).run cx.P w = .ok (.value (.tuple #[])) w' ∧
      Sat cx β n H (putAt F j (rowF e 1 (.slice (some ⟨b, 0, none⟩) k c) k (putAll xs i (List.replicate m z0)))) w' := by
  have ht := (g.ti hi).real (d := .slice _) hd rfl
  obtain ⟨z, hzv, hzc⟩ := (g.ti hie).run_zero w
  have hza : z.cells = #[z0] := by apply Array.ext'; rw [hzc, hz]
  obtain ⟨w', e1, e2⟩ := h.rowSet (us := List.replicate m z0) (o := i) hj (by rw [List.length_replicate]; omega) (fun u hu => by rw [List.eq_of_mem_replicate hu]; exact h1)
  refine ⟨w', ?_, e2⟩
  obtain ⟨m', rfl⟩ : ∃ m', m = m' + 1 := ⟨m - 1, by omega⟩
  simp [builtin, Builtin.clear_, run_underlying ht, hzv, hza, zeroCells_one, e1]
theorem dropIx_all : ∀ (F : List Fact) (i : Nat), dropIx [0] (i + 1) F = F
  | [], _ => rfl
  | f :: r, i => by
    show f :: dropIx [0] (i + 2) r = f :: r
    rw [dropIx_all r (i + 1)]
theorem Sat.lessRow (h : Sat cx β n H F w) {e s i k c : Nat} {A : Option Addr} {xs : List Value} {F' : List Fact} (hF : F = rowF e s (.slice A k c) k xs :: F') (hik : i ≤ k) (hA : ∃ b, A = some ⟨b, 0, none⟩) :
    Sat cx β n H (rowF e s (.slice A i c) i (xs.take (i * s)) :: F') w := by
  subst hF
  obtain ⟨b, rfl⟩ := hA
  have hd : dropIx [0] 0 (rowF e s (.slice (some ⟨b, 0, none⟩) k c) k xs :: F') = F' := dropIx_all F' 0
  have h2 := h.fuse [0] (rowF e s (.slice (some ⟨b, 0, none⟩) i c) i (xs.take (i * s))) (fun w hm => ?_) (fun k hk => ?_)
  · rw [hd] at h2
    exact h2
  · have hp : w.ownsRow 0 e s (.slice (some ⟨b, 0, none⟩) k c) k xs := hm.fact (rowF e s (.slice (some ⟨b, 0, none⟩) k c) k xs) (by simp [takeIx, nth])
    have hks : i * s ≤ k * s := Nat.mul_le_mul_right _ hik
    refine ⟨by rw [List.length_take, hp.1]; omega, .inr ?_⟩
    rcases hp.2 with ⟨q, _⟩ | ⟨g, cap, cur, hv, hb, hg, hnc, hcm, hcs, htake⟩
    · cases q
    · injection hv with h1 h2 h3
      subst h3
      exact ⟨g, c, cur, by rw [h1], hb, hg, by omega, hcm, hcs, by rw [← htake, List.take_take, Nat.min_eq_left hks]⟩
  · exact ⟨_, List.mem_cons_self, hk⟩
end
end Go.Proofs.YtoifclfanabalaaGreatDoor.Sx

namespace Go.Proofs.YtoifclfanabalaaGreatDoor.Sx
open Go
attribute [local irreducible] Calls
structure DelI (f : Nat → Bool) (l : List Nat) (i j : Nat) (dk : List Nat) : Prop where
  len : dk.length = l.length
  lt : i < j
  le : j ≤ l.length
  low : dk.take i = (l.take j).filter fun n => !f n
  high : ∀ q, j ≤ q → dk[q]? = l[q]?
theorem DelI.start {f : Nat → Bool} {l : List Nat} (h : l.any f = true) : DelI f l (l.findIdx f) (l.findIdx f + 1) l := by
  obtain ⟨x, hx, hf⟩ := List.any_eq_true.1 h
  have hlt : l.findIdx f < l.length := List.findIdx_lt_length_of_exists ⟨x, hx, hf⟩
  refine ⟨rfl, Nat.lt_succ_self _, hlt, ?_, fun _ _ => rfl⟩
  rw [List.take_add_one, List.getElem?_eq_getElem hlt, List.filter_append]
  have e1 : (l.take (l.findIdx f)).filter (fun n => !f n) = l.take (l.findIdx f) := by
    rw [List.filter_eq_self]
    intro a ha
    obtain ⟨q, hq, rfl⟩ := List.mem_take_iff_getElem.1 ha
    have := List.not_of_lt_findIdx (p := f) (xs := l) (i := q) (by omega)
    simpa using this
  have e2 : f l[l.findIdx f] = true := List.findIdx_getElem (w := hlt)
  rw [e1]
  simp [e2]
theorem DelI.keep {f : Nat → Bool} {l dk : List Nat} {i j x : Nat} (h : DelI f l i j dk) (hx : l[j]? = some x) (hf : f x = false) : DelI f l (i + 1) (j + 1) (dk.set i x) := by
  have hj := (List.getElem?_eq_some_iff.1 hx).1
  have h1 := h.lt
  have h2 := h.len
  refine ⟨by rw [List.length_set]; exact h.len, by omega, hj, ?_, fun q hq => ?_⟩
  · rw [List.take_add_one, List.take_add_one, hx, List.filter_append, List.take_set_of_le (Nat.le_refl _), h.low, List.getElem?_set, if_pos rfl, if_pos (by omega)]
    simp [hf]
  · rw [List.getElem?_set, if_neg (by omega), h.high q (by omega)]
theorem DelI.skip {f : Nat → Bool} {l dk : List Nat} {i j x : Nat} (h : DelI f l i j dk) (hx : l[j]? = some x) (hf : f x = true) : DelI f l i (j + 1) dk := by
  have hj := (List.getElem?_eq_some_iff.1 hx).1
  have h1 := h.lt
  refine ⟨h.len, by omega, hj, ?_, fun q hq => h.high q (by omega)⟩
  rw [List.take_add_one, hx, List.filter_append, h.low]
  simp [hf]
theorem asRd {cx : Cx} {β : Va} {n : Nat} {H : List Bk} {F : List Fact} {w : World} {e s k c : Nat} {A : Option Addr} {xs : List Value} (h : Sat cx β n H F w) (j : Nat) (hj : nth F j = some (rowF e s (.slice A k c) k xs)) : Sat cx β n H (rdF s A k xs :: dropIx [j] 0 F) w := by
  have q : takeIx F [j] = [rowF e s (.slice A k c) k xs] := by simp only [takeIx, hj]
  refine h.fuse [j] (rdF s A k xs) (fun w hm => ?_) (fun k hk => ?_) rfl (by rw [q]; exact ⟨rfl, trivial⟩)
  · rw [q] at hm
    exact row_rd (hm.fact _ List.mem_cons_self)
  · rw [q]
    obtain ⟨_, ad, h, rfl⟩ := hk
    cases h
    exact ⟨_, List.mem_cons_self, rfl⟩
theorem ints_set (l : List Nat) (j x : Nat) : putAll (ints l) (j * 1) [.int .i64 (x : Int)] = ints (l.set j x) := by
  show putAt (ints l) (j * 1) _ = _
  rw [putAt_eq, Nat.mul_one]
  unfold ints
  rw [List.map_set]
theorem delL_c (w : World) (A D : Option Addr) (l : List Nat) (made : List Bool) (c d b : Nat) (hn : l.length ≤ 2000000) (hm : Mem w (keepH b D made d ++ [irowF A l c, mkF D made])) :
    Con Tryz.prog n_slices_DeleteFunc_int_int #[.slice A l.length c, .func (.func n_knows_lone_1) #[] #[.pointer (some ⟨b, 0, none⟩)]] w (keepH b D made d ++ [irowF A l c]) fun v Fs => v = .slice A (leftL made l).length c ∧ Fs = keepH b D made d ++ [irowF A (leftL made l) c] := by
  have g := good_slices_DeleteFunc_int_int w (Un (keepH b D made d ++ [irowF A l c]))
  have hs0 : Sat (cx_slices_DeleteFunc_int_int w (Un (keepH b D made d ++ [irowF A l c]))) Va.z 0 [] (keepH b D made d ++ [irowF A l c, mkF D made]) w := hm.sat0 rfl (fun f hf ho k hk => by
    simp only [keepH, List.cons_append, List.nil_append, List.mem_cons, List.not_mem_nil, or_false] at hf
    rcases hf with rfl | rfl | rfl
    · exact ⟨_, by simp [keepH], hk⟩
    · exact ⟨_, by simp [keepH], hk⟩
    · cases ho)
  refine con_of_sx (cx := cx_slices_DeleteFunc_int_int w (Un (keepH b D made d ++ [irowF A l c]))) g b_slices_DeleteFunc_int_int rfl rfl (β := Va.z) [.c (.v (.slice A l.length c)), .c (.v (.func (.func n_knows_lone_1) #[] #[.pointer (some ⟨b, 0, none⟩)]))] 0 [] _ rfl rfl hs0 ?_
  have hml := maxLen_eq
  refine call_con [0] (fun β w' hs => idxL_c w' A D l made c d b (row_rd (hs.get 1 rfl)) hn ((asRd hs 1 rfl).mem.take (js := [1, 2, 0]) rfl)) ?_
  rintro v Fs ⟨rfl, rfl⟩
  obtain ⟨f, hf⟩ : ∃ f : Nat → Bool, f = fun n : Nat => markB made (n : Int) := ⟨_, rfl⟩
  obtain ⟨r, hr⟩ : ∃ r : Int, ixF (fun n : Nat => markB made (n : Int)) l = r := ⟨_, rfl⟩
  rw [hr]
  rw [← hf] at hr
  have hK : leftL made l = l.filter (fun n => !f n) := by rw [hf]; rfl
  rw [hK]
  have hfy : ∀ y : Nat, markB made (y : Int) = f y := fun y => by rw [hf]
  refine BIf.dec (fun he => ?_) (fun hne => ?_)
  · have he0 : r = -1 := he
    have hall : l.filter (fun n => !f n) = l := by
      rw [List.filter_eq_self]
      intro n hn'
      cases hfn : f n with
      | false => rfl
      | true =>
        have hany : l.any f = true := List.any_eq_true.2 ⟨n, hn', hfn⟩
        unfold ixF at hr
        rw [if_pos hany] at hr
        omega
    rw [hall]
    intro β w' hs
    exact hs.fin [0, 1] ⟨rfl, rfl⟩ rfl rfl rfl ⟨rfl, rfl, trivial⟩
  · have hne0 : ¬ r = -1 := hne
    have hany : l.any f = true := by
      cases q : l.any f with
      | true => rfl
      | false => unfold ixF at hr; rw [q, if_neg (by decide)] at hr; exact absurd hr.symm hne0
    have hst := DelI.start hany
    obtain ⟨i0, hi0⟩ : ∃ i0, l.findIdx f = i0 := ⟨_, rfl⟩
    rw [hi0] at hst
    obtain rfl : r = (i0 : Int) := by unfold ixF at hr; rw [if_pos hany, hi0] at hr; exact hr.symm
    have hi0l : i0 < l.length := hst.le
    obtain ⟨bA, rfl, hcl⟩ : ∃ bA, A = some ⟨bA, 0, none⟩ ∧ l.length ≤ c := by
      have ho : w.ownsRow 0 ty_int 1 (.slice A l.length c) l.length (ints l) := hm.fact (irowF A l c) (by simp [keepH])
      rcases ho.2 with ⟨q, hz⟩ | ⟨b', cap, cur, hv, _, _, hcc, _⟩
      · omega
      · injection hv with e1 e2 e3
        exact ⟨b', e1, by omega⟩
    refine ⟨((i0 + 1 : Nat) : Int), by rw [wrap_i64 (by omega) (by omega)]; rfl, ?_⟩
    refine loop_rule (ι := Nat × Nat × List Nat) 0 (fun j => [(0, .c (.v (.slice (some ⟨bA, 0, none⟩) l.length c))), (1, .c (.v (.func (.func n_knows_lone_1) #[] #[.pointer (some ⟨b, 0, none⟩)]))), (5, .c (.v (.int .i64 (j.1 : Int)))), (6, .c (.v (.int .i64 (j.2.1 : Int))))]) (fun _ => []) (fun j => keepH b D made d ++ [rowF ty_int 1 (.slice (some ⟨bA, 0, none⟩) l.length c) l.length (ints j.2.2), mkF D made])
      (fun j => DelI f l j.1 j.2.1 j.2.2) (fun j => l.length - j.2.1) (i0, i0 + 1, l) hst (Ent.mk' ⟨rfl, rfl, rfl, rfl, trivial⟩ rfl (fun β w' hs => hs)) g ?_
    rintro ⟨i, j, dk⟩ hI
    simp only at hI
    have hI1 := hI.lt
    have hI2 := hI.le
    have hI3 := hI.len
    refine BIf.dec (fun hlt => ?_) (fun hge => ?_)
    · have hlt0 : (j : Int) < (l.length : Int) := hlt
      obtain ⟨y, hy, -⟩ := at_lt (show j < l.length by omega)
      have hdy : dk[j]? = some y := (hI.high j (Nat.le_refl _)).trans hy
      refine ⟨_, j, rfl, rfl, by omega, .int .i64 (y : Int), fun β w' hs => Rd.cell1 (row_rd (hs.get 1 rfl)) (by simp [ints, hdy]), ?_⟩
      refine Or.inl ⟨by kernel_rfl, ?_⟩
      refine call_con [0] (fun β w' hs => lone1_c w' D made d b (y : Int) (hs.mem.take (js := [0, 2]) rfl)) ?_
      rintro v Fs ⟨rfl, rfl⟩
      rw [hfy]
      cases hb : f y with
      | false =>
        refine ⟨_, i, rfl, rfl, by omega, ?_⟩
        refine ⟨_, fun β w' hs => Sat.rowSet hs (j := 1) (us := [.int .i64 (y : Int)]) rfl (by show i * 1 + 1 ≤ l.length * 1; omega) (fun u hu => by obtain rfl := List.mem_singleton.1 hu; rfl), ?_⟩
        refine ⟨((i + 1 : Nat) : Int), by rw [wrap_i64 (by omega) (by omega)]; rfl, ?_⟩
        refine ⟨((j + 1 : Nat) : Int), by rw [wrap_i64 (by omega) (by omega)]; rfl, ?_⟩
        exact ⟨(i + 1, j + 1, dk.set i y), hI.keep hy hb, by show l.length - (j + 1) < l.length - j; omega, Ent.mk' ⟨rfl, rfl, rfl, rfl, trivial⟩ rfl (fun β w' hs => by
          show Sat _ _ _ _ (keepH b D made d ++ [rowF ty_int 1 (.slice (some ⟨bA, 0, none⟩) l.length c) l.length (ints (dk.set i y)), mkF D made]) _
          rw [← ints_set]
          exact hs)⟩
      | true =>
        refine ⟨((j + 1 : Nat) : Int), by rw [wrap_i64 (by omega) (by omega)]; rfl, ?_⟩
        exact ⟨(i, j + 1, dk), hI.skip hy hb, by show l.length - (j + 1) < l.length - j; omega, Ent.mk' ⟨rfl, rfl, rfl, rfl, trivial⟩ rfl (fun β w' hs => hs)⟩
    · have hge0 : ¬ (j : Int) < (l.length : Int) := hge
      obtain rfl : j = l.length := by omega
      have hlow := hI.low
      rw [List.take_length] at hlow
      rw [← hlow]
      have hdl : (dk.take i).length = i := by rw [List.length_take]; omega
      rw [hdl]
      refine ⟨c, l.length, i, l.length - i, c - i, some ((⟨bA, 0, none⟩ : Addr).add i), rfl, rfl, rfl, Nat.le_refl _, hcl, by omega, rfl, rfl, by unfold cutA; rw [if_neg (by omega)]; show some _ = some _; rw [show ti3.size = 1 from rfl, Nat.mul_one], ?_⟩
      refine ⟨_, _, .c (.v (.tuple #[])), fun β w' ty hs => hs.clearRow g 1 (z0 := .int .i64 0) (m := l.length - i) (q := c - i) rfl (by omega) (by omega) ty _ rfl, trivial, ?_⟩
      refine ⟨c, i, 0, i, c, _, rfl, rfl, rfl, by omega, by omega, by omega, rfl, rfl, rfl, ?_⟩
      intro β w' hs
      have h2 := (hs.perm [1, 0, 2]).lessRow (i := i) rfl (by omega) ⟨bA, rfl⟩
      have e1 : (putAll (ints dk) i (List.replicate (l.length - i) (Value.int .i64 0))).take (i * 1) = ints (dk.take i) := by
        rw [putAll_all _ _ _ (by rw [List.length_replicate]; simp [ints]; omega), Nat.mul_one, List.append_assoc, List.take_append_of_le_length (by rw [List.length_take]; simp [ints]; omega), List.take_take, Nat.min_self]
        unfold ints
        rw [List.map_take]
      rw [e1] at h2
      refine h2.fin [1, 0] ⟨?_, ?_⟩ rfl rfl rfl ⟨rfl, rfl, trivial⟩
      · show Value.slice (cutA (some ⟨bA, 0, none⟩) c 0 1) i c = _
        unfold cutA
        split
        · rfl
        · rfl
      · show [_, rowF ty_int 1 (.slice (some ⟨bA, 0, none⟩) i c) i (ints (dk.take i))] = _
        simp only [irowF, hdl]
        rfl
def loneV : List Nat → Value
  | [k] => .tuple #[.int .i64 (k : Int), .bool true]
  | _ => .tuple #[.int .i64 0, .bool false]
theorem lone_c (w : World) (A D : Option Addr) (l : List Nat) (made : List Bool) (c d : Nat) (hr : Rd 1 A l.length (ints l) w) (hn : l.length ≤ 2000000) (hm : Mem w [rdF 1 A l.length (ints l), mkF D made]) :
    Con Tryz.prog n_knows_lone #[.slice A l.length c, .slice D made.length d] w [] fun v Fs => v = loneV (leftL made l) ∧ Fs = [] := by
  have g := good_knows_lone w (Un [])
  have hs0 : Sat (cx_knows_lone w (Un [])) Va.z 0 [] [rdF 1 A l.length (ints l), mkF D made] w := hm.sat0 rfl (fun f hf ho k hk => by
    simp only [List.mem_cons, List.not_mem_nil, or_false] at hf
    rcases hf with rfl | rfl <;> cases ho)
  refine con_of_tri (cx := cx_knows_lone w (Un [])) g b_knows_lone rfl rfl (β := Va.z) [.c (.v (.slice A l.length c)), .c (.v (.slice D made.length d))] 0 [] _ rfl rfl hs0 ?_
  refine tri_seq g ?_
  refine reify_tri 0 (fun _ => [.slice D made.length d]) rfl rfl (fun _ => rfl) (fun rb => ?_)
  refine tri_seq g ?_
  refine call_con [] (fun β w' hs => cloneI_c w' A l c (hs.get 1 rfl) (by omega)) ?_
  rintro v Fs ⟨A', c', rfl, hlc, hcm, rfl⟩
  refine call_con [1, 0] (fun β w' hs => delL_c w' A' D l made c' d rb hn (hs.mem.take (js := [1, 0, 3]) rfl)) ?_
  rintro v Fs ⟨rfl, rfl⟩
  obtain ⟨L, hL⟩ : ∃ L, leftL made l = L := ⟨_, rfl⟩
  rw [hL]
  refine tri_know (p := 0 < L.length → ∃ ad, A' = some ad) (fun β w' hs h => by
    obtain ⟨ad, q, _⟩ := (row_rd (show (irowF A' L c').p w' from hs.get 1 rfl)).2 h
    exact ⟨ad, q⟩) ?_
  intro hA'
  refine tri_of g ?_
  refine BIf.not (BIf.dec (fun h1 => ?_) (fun h1 => ?_))
  · have h10 : (L.length : Int) = 1 := h1
    obtain ⟨k, rfl⟩ : ∃ k, L = [k] := List.length_eq_one_iff.1 (by omega)
    obtain ⟨ad, rfl⟩ := hA' (Nat.succ_pos 0)
    refine ⟨_, 0, rfl, rfl, Nat.succ_pos 0, .int .i64 (k : Int), fun β w' hs => Rd.cell1 (row_rd (hs.get 1 rfl)) rfl, ?_⟩
    intro β w' hs
    exact hs.fin [] ⟨rfl, rfl⟩
  · have h10 : ¬ (L.length : Int) = 1 := h1
    have hv : loneV L = .tuple #[.int .i64 0, .bool false] := by
      unfold loneV
      split
      · exact absurd rfl h10
      · rfl
    rw [hv]
    intro β w' hs
    exact hs.fin [] ⟨rfl, rfl⟩
end Go.Proofs.YtoifclfanabalaaGreatDoor.Sx
