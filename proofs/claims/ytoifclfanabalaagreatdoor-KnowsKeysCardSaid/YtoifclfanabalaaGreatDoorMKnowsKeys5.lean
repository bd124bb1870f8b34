/- Texts joined: Rk2, Rk3, Rf6, CutN, Rk4, Rk5, StrS, Rk6, Rk7, Rk8, SmP, Kk2, TabR, OpP, Hnd, SxArg, Laid, Laid2. -/
import Derived.Test.YtoifclfanabalaaGreatDoorMKnowsKeys4
import Derived.Test.YtoifclfanabalaaGreatDoorMKnowsKeys3
import Derived.Test.YtoifclfanabalaaGreatDoorMKnowsKeys2
import Derived.Handed
import Derived.Shelf.Vars
import Derived.Below
import Derived.OpenShut
import Derived.ChangeArms
import Derived.LaidMore
set_option linter.unusedVariables false
set_option linter.unusedSimpArgs false
/- The document's decoding: bit by bit. -/
namespace Go.Proofs.YtoifclfanabalaaGreatDoor.Sx
open Go
attribute [local irreducible] Calls

/-- Which letters are looked at. -/
def cutP (url : Bool) (s : List UInt8) : List UInt8 := match url with
  | true => s
  | false => unpad s
def decX (url : Bool) (s : List UInt8) : Option (List UInt8) := match url with
  | true => decU s
  | false => decP s
theorem shr5 {X m : Nat} (hm : m ≤ 5) : ((X : Int)).fdiv (2 ^ min (5 - (m : Int)).toNat IntKind.i64.bits) = ((X / 2 ^ (5 - m) : Nat) : Int) := by
  rw [show (5 - (m : Int)).toNat = 5 - m by omega, show min (5 - m) IntKind.i64.bits = 5 - m from Nat.min_eq_left (by show _ ≤ 64; omega), show ((2 : Int) ^ (5 - m)) = ((2 ^ (5 - m) : Nat) : Int) by simp]
  rw [Int.fdiv_eq_ediv_of_nonneg _ (Int.natCast_nonneg _)]
  rfl
theorem rbits_at {v m : Nat} (hm : m ≤ 5) : (rbits v)[m]? = some (u8n (v / 2 ^ (5 - m) % 2)) := by
  match m, hm with
  | 0, _ => rfl
  | 1, _ => rfl
  | 2, _ => rfl
  | 3, _ => rfl
  | 4, _ => rfl
  | 5, _ => show some (u8n (v % 2)) = some (u8n (v / 1 % 2)); rw [Nat.div_one]
theorem chop_short : ∀ {l : List UInt8}, l.length < 8 → chop l = ([], l)
  | [], _ => rfl
  | [_], _ => rfl
  | [_, _], _ => rfl
  | [_, _, _], _ => rfl
  | [_, _, _, _], _ => rfl
  | [_, _, _, _, _], _ => rfl
  | [_, _, _, _, _, _], _ => rfl
  | [_, _, _, _, _, _, _], _ => rfl
  | _ :: _ :: _ :: _ :: _ :: _ :: _ :: _ :: _, h => absurd h (by simp only [List.length_cons]; omega)
theorem chop_long {l : List UInt8} (h : 8 ≤ l.length) : chop l = (fold8 (l.take 8) :: (chop (l.drop 8)).1, (chop (l.drop 8)).2) := by
  have := chop8 (l.take 8) (by rw [List.length_take]; omega) (l.drop 8)
  rwa [List.take_append_drop] at this
theorem cutA_zero' {A : Option Addr} {c s : Nat} : cutA A c 0 s = A := by
  cases A <;> simp [cutA, Addr.add]
theorem fold8_snoc (l : List UInt8) (x : UInt8) : fold8 (l ++ [x]) = fold8 l * 2 + x := by simp [fold8]
theorem tri_share {ι : Type} {cx : Cx} {c : Code} {Q : Exit → KT} {G : Prop} (T : ι → Prop) (n' : Nat) (E : ι → Env) (HH : ι → List Bk) (FF : ι → List Fact) (body : (∀ i, T i → Tri cx c Q n' (E i) (HH i) (FF i)) → G) (hk : ∀ i, T i → Tri cx c Q n' (E i) (HH i) (FF i)) : G := body hk
def DecT (url : Bool) (s : List UInt8) (n : Nat) : Prop := n = (cutP url s).length ∧ n ≤ s.length ∧ s.take n = cutP url s ∧ (url = false → s.length % 4 = 0) ∧ (url = true → s.length % 4 ≠ 1)
def decE (url : Bool) (s : List UInt8) (n : Nat) : Env := [(0, .c (.v (.string (mkS s)))), (1, .c (.v (.bool url))), (6, .c (.v (.int .i64 (n : Int))))]
theorem decT_url (s : List UInt8) (h : s.length % 4 ≠ 1) : DecT true s s.length := ⟨rfl, Nat.le_refl _, List.take_length, (fun q => by cases q), fun _ => h⟩
theorem last_at {s : List UInt8} {k : Nat} {b : UInt8} (hk : k + 1 = s.length) (hb : s[k]? = some b) : s.getLast? = some b := by
  rw [List.getLast?_eq_getElem?, ← hk]
  exact hb
theorem decT_0 {s : List UInt8} (h : s.length % 4 = 0) (hno : s.getLast? ≠ some 61) : DecT false s s.length := by
  have e : unpad s = s := by unfold unpad; rw [if_neg hno]
  exact ⟨by show _ = (unpad s).length; rw [e], Nat.le_refl _, by show _ = unpad s; rw [e, List.take_length], fun _ => h, (fun q => by cases q)⟩
theorem decT_1 {s : List UInt8} (h : s.length % 4 = 0) (h1 : s.getLast? = some 61) (hno : s.dropLast.getLast? ≠ some 61) : DecT false s (s.length - 1) := by
  have e : unpad s = s.dropLast := by unfold unpad; rw [if_pos h1, if_neg hno]
  exact ⟨by show _ = (unpad s).length; rw [e, List.length_dropLast], Nat.sub_le _ _, by show _ = unpad s; rw [e, List.dropLast_eq_take], fun _ => h, (fun q => by cases q)⟩
theorem decT_2 {s : List UInt8} (h : s.length % 4 = 0) (h1 : s.getLast? = some 61) (h2 : s.dropLast.getLast? = some 61) : DecT false s (s.length - 1 - 1) := by
  have e : unpad s = s.dropLast.dropLast := by unfold unpad; rw [if_pos h1, if_pos h2]
  refine ⟨by show _ = (unpad s).length; rw [e, List.length_dropLast, List.length_dropLast], by omega, ?_, fun _ => h, (fun q => by cases q)⟩
  show _ = unpad s
  rw [e, List.dropLast_eq_take, List.dropLast_eq_take, List.take_take, List.length_take]
  congr 1
  omega
theorem rDecode_c (w : World) (s : List UInt8) (url : Bool) (hL : s.length ≤ 1000000) : Con Tryz.prog n_ostiaryref03_Decode #[.string (mkS s), .bool url] w [] (decOutP (decX url s)) := by
  have g := good_ostiaryref03_Decode w (Un [])
  refine con_of_tri (cx := cx_ostiaryref03_Decode w (Un [])) g b_ostiaryref03_Decode rfl rfl (β := Va.z) [.c (.v (.string (mkS s))), .c (.v (.bool url))] 0 [] [] rfl rfl (Sat.start rfl) ?_
  have hml := maxLen_eq
  have hsz := mkS_sz s
  apply tri_share (cx := cx_ostiaryref03_Decode w (Un [])) (DecT url s) 0 (decE url s) (fun _ => []) (fun _ => [])
  · intro hkey
    refine tri_seq g ?_
    refine tri_seq g ?_
    refine BIf.mk (fun hu : (!url) = true => ?_) (fun hu => ?_)
    · have hu0 : url = false := by simpa using hu
      refine ⟨by first | decide | omega, ?_⟩
      refine ⟨(((mkS s).size % 4 : Nat) : Int), Int.ofNat_tmod _ _, ?_⟩
      refine BIf.not (BIf.dec (fun h4 => ?_) (fun h4 => ?_))
      · have h40 : (((mkS s).size % 4 : Nat) : Int) = 0 := h4
        refine BIf.no hu0 ?_
        refine tri_seq g ?_
        refine tri_seq g ?_
        refine BIf.yes hu ?_
        refine BIf.dec (fun h0 => ?_) (fun h0 => ?_)
        · have h00 : (0 : Int) < ((mkS s).size : Int) := h0
          obtain ⟨b, hb, -⟩ := at_lt (show s.length - 1 < s.length by omega)
          have hla := last_at (k := s.length - 1) (by omega) hb
          refine ⟨((((mkS s).size - 1) : Nat) : Int), by rw [wrap_i64 (by omega) (by omega)]; omega, ?_⟩
          refine ⟨(mkS s).size - 1, b, rfl, by rw [hsz]; exact hb, ?_⟩
          have hs4 : s.length % 4 = 0 := by omega
          refine BIf.dec (fun hb1 => ?_) (fun hb1 => ?_)
          · obtain rfl : b = 61 := UInt8.toNat_inj.1 (Int.ofNat_inj.1 hb1)
            obtain ⟨b2, hb2, -⟩ := at_lt (show s.length - 2 < s.length by omega)
            have hla2 : s.dropLast.getLast? = some b2 := last_at (k := s.length - 2) (by rw [List.length_dropLast]; omega) (by rw [List.getElem?_dropLast, if_pos (by omega)]; exact hb2)
            refine ⟨((((mkS s).size - 1) : Nat) : Int), by rw [wrap_i64 (by omega) (by omega)]; omega, ?_⟩
            refine ⟨((((mkS s).size - 2) : Nat) : Int), by rw [wrap_i64 (by omega) (by omega)]; omega, ?_⟩
            refine ⟨(mkS s).size - 2, b2, rfl, by rw [hsz]; exact hb2, ?_⟩
            refine BIf.dec (fun hb3 => ?_) (fun hb3 => ?_)
            · obtain rfl : b2 = 61 := UInt8.toNat_inj.1 (Int.ofNat_inj.1 hb3)
              refine ⟨((((s.length - 1 - 1) : Nat)) : Int), by rw [wrap_i64 (by omega) (by omega)]; omega, ?_⟩
              refine tri_join (ι := Nat) (DecT url s) 0 (decE url s) (fun _ => []) (fun _ => []) hkey (EntX.of (s.length - 1 - 1) (by rw [hu0]; exact decT_2 hs4 hla hla2) (Ent.mk' ⟨rfl, rfl, rfl, trivial⟩ rfl (fun β w' hs => hs)))
            · have hb30 : b2 ≠ 61 := fun q => hb3 (by rw [q]; rfl)
              rw [hsz]
              refine tri_join (ι := Nat) (DecT url s) 0 (decE url s) (fun _ => []) (fun _ => []) hkey (EntX.of (s.length - 1) (by rw [hu0]; exact decT_1 hs4 hla (by rw [hla2]; intro q; cases q; exact hb30 rfl)) (Ent.mk' ⟨rfl, rfl, rfl, trivial⟩ rfl (fun β w' hs => hs)))
          · have hb10 : b ≠ 61 := fun q => hb1 (by rw [q]; rfl)
            refine tri_join (ι := Nat) (DecT url s) 0 (decE url s) (fun _ => []) (fun _ => []) hkey (EntX.of (s.length) (by rw [hu0]; exact decT_0 hs4 (by rw [hla]; intro q; cases q; exact hb10 rfl)) (Ent.mk' ⟨rfl, rfl, rfl, trivial⟩ rfl (fun β w' hs => hs)))
        · have h00 : ¬ (0 : Int) < ((mkS s).size : Int) := h0
          have hs0 : s = [] := List.length_eq_zero_iff.1 (by omega)
          refine tri_join (ι := Nat) (DecT url s) 0 (decE url s) (fun _ => []) (fun _ => []) hkey (EntX.of s.length (by rw [hu0]; exact decT_0 (by omega) (by rw [hs0]; decide)) (Ent.mk' ⟨rfl, rfl, rfl, trivial⟩ rfl (fun β w' hs => hs)))
      · have h40 : ¬ (((mkS s).size % 4 : Nat) : Int) = 0 := h4
        intro β w' hs
        refine (hs.nilRow ty_uint8 1).fin [0] ⟨none, [], 0, 2, rfl, .inr ⟨by decide, ?_⟩, Nat.le_refl _, rfl⟩
        rw [hu0]
        show decP s = none
        unfold decP
        rw [if_pos (by omega)]
    · have hu0 : url = true := by simpa using hu
      refine BIf.mk (fun hu2 => ?_) (fun hu2 => absurd (hu2.symm.trans hu0) (by decide))
      refine ⟨by first | decide | omega, ?_⟩
      refine ⟨(((mkS s).size % 4 : Nat) : Int), Int.ofNat_tmod _ _, ?_⟩
      refine BIf.dec (fun h1 => ?_) (fun h1 => ?_)
      · have h10 : (((mkS s).size % 4 : Nat) : Int) = 1 := h1
        intro β w' hs
        refine (hs.nilRow ty_uint8 1).fin [0] ⟨none, [], 0, 2, rfl, .inr ⟨by decide, ?_⟩, Nat.le_refl _, rfl⟩
        rw [hu0]
        show decU s = none
        unfold decU
        rw [if_pos (by omega)]
      · have h10 : ¬ (((mkS s).size % 4 : Nat) : Int) = 1 := h1
        refine tri_seq g ?_
        refine tri_seq g ?_
        refine BIf.no hu ?_
        refine tri_join (ι := Nat) (DecT url s) 0 (decE url s) (fun _ => []) (fun _ => []) hkey (EntX.of s.length (by rw [hu0]; exact decT_url s (by omega)) (Ent.mk' ⟨rfl, rfl, rfl, trivial⟩ rfl (fun β w' hs => hs)))
  · rintro n ⟨hn1, hn2, hn3, hn4, hn5⟩
    refine tri_of g ?_
    refine ⟨by first | decide | omega, ?_⟩
    refine ⟨((n % 4 : Nat) : Int), Int.ofNat_tmod _ _, ?_⟩
    refine BIf.dec (fun h1 => ?_) (fun h1 => ?_)
    · have h10 : ((n % 4 : Nat) : Int) = 1 := h1
      intro β w' hs
      refine (hs.nilRow ty_uint8 1).fin [0] ⟨none, [], 0, 5, rfl, .inr ⟨by decide, ?_⟩, Nat.le_refl _, rfl⟩
      cases url with
      | true =>
        have h2 := hn5 rfl
        have h3 : n = s.length := hn1
        omega
      | false =>
        have h3 : n = (unpad s).length := hn1
        show decP s = none
        unfold decP
        rw [if_neg (by have := hn4 rfl; omega), if_pos (by omega)]
    · have h10 : ¬ ((n % 4 : Nat) : Int) = 1 := h1
      have hdx : decX url s = decS url (cutP url s) := by
        cases url with
        | true =>
          show decU s = _
          unfold decU
          rw [if_neg (hn5 rfl)]
          rfl
        | false =>
          have h3 : n = (unpad s).length := hn1
          show decP s = _
          unfold decP
          rw [if_neg (by have := hn4 rfl; omega), if_neg (by omega)]
          rfl
      rw [hdx, ← hn3]
      obtain ⟨U, hU⟩ : ∃ U, s.take n = U := ⟨_, rfl⟩
      have hUl : U.length = n := by rw [← hU, List.length_take]; omega
      have hUat : ∀ i, i < n → s[i]? = U[i]? := fun i hi => by rw [← hU, List.getElem?_take, if_pos hi]
      rw [hU]
      refine loop_rule (ι := Nat × Option Addr × Nat × List Nat) 0 (fun j => [(0, .c (.v (.string (mkS s)))), (1, .c (.v (.bool url))), (6, .c (.v (.int .i64 (n : Int)))), (7, .c (.v (.slice j.2.1 (j.2.2.2.flatMap rbits).length j.2.2.1))), (8, .c (.v (.int .i64 (j.1 : Int))))]) (fun _ => []) (fun j => [browF ty_uint8 j.2.1 (j.2.2.2.flatMap rbits) j.2.2.1])
        (fun j => j.1 ≤ n ∧ valsA url (U.take j.1) = some j.2.2.2) (fun j => n - j.1) (0, none, 0, []) ⟨Nat.zero_le _, rfl⟩ (Ent.mk' ⟨rfl, rfl, rfl, rfl, rfl, trivial⟩ rfl (fun β w' hs => hs.nilRow ty_uint8 1)) g ?_
      rintro ⟨i, A, c, vs⟩ ⟨hi, hvs⟩
      simp only at hi hvs
      have hvl := valsA_len hvs
      have hvl1 : vs.length = i := by rw [hvl.1, List.length_take]; omega
      have hbl : (vs.flatMap rbits).length = 6 * i := by
        rw [← hvl1]
        clear hvl hvl1 hvs
        induction vs with
        | nil => rfl
        | cons a r ih => rw [List.flatMap_cons, List.length_append, ih, List.length_cons]; simp [rbits]; omega
      refine BIf.dec (fun hlt => ?_) (fun hge => ?_)
      · have hlt0 : (i : Int) < (n : Int) := hlt
        obtain ⟨y, hy, hyU⟩ := at_lt (show i < U.length by omega)
        refine ⟨i, y, rfl, by show s[i]? = _; rw [hUat i (by omega)]; exact hy, ?_⟩
        refine call_pu (fun β w' hs => number3_c w' y url) ?_
        cases hv : valA url y with
        | none =>
          have hvv : valV url y = -1 := by unfold valV; rw [hv]
          rw [hvv]
          intro β w' hs
          refine (hs.nilRow ty_uint8 1).fin [0] ⟨none, [], 0, 5, rfl, .inr ⟨by decide, ?_⟩, Nat.le_refl _, rfl⟩
          unfold decS
          rw [valsA_none hv hyU]
          rfl
        | some v =>
          have hvv : valV url y = (v : Int) := by unfold valV; rw [hv]
          have hv64 := valA_lt hv
          rw [hvv]
          have hrl : (rbits v).length = 6 := rfl
          refine loop_rule (ι := Option Addr × Nat × Nat) 0 (fun j => [(0, .c (.v (.string (mkS s)))), (1, .c (.v (.bool url))), (6, .c (.v (.int .i64 (n : Int)))), (7, .c (.v (.slice j.1 (vs.flatMap rbits ++ (rbits v).take j.2.2).length j.2.1))), (8, .c (.v (.int .i64 (i : Int)))), (9, .c (.v (.int .i64 (v : Int)))), (10, .c (.v (.int .i64 (5 - (j.2.2 : Int)))))]) (fun _ => []) (fun j => [browF ty_uint8 j.1 (vs.flatMap rbits ++ (rbits v).take j.2.2) j.2.1])
            (fun j => j.2.2 ≤ 6) (fun j => 6 - j.2.2) (A, c, 0) (Nat.zero_le _) (Ent.mk' ⟨rfl, rfl, rfl, by simp only [List.take_zero, List.append_nil]; rfl, rfl, rfl, rfl, trivial⟩ rfl (fun β w' hs => by simp only [List.take_zero, List.append_nil]; exact hs)) g ?_
          rintro ⟨A1, c1, m⟩ hm
          simp only at hm
          refine BIf.dec (fun hlt2 => ?_) (fun hge2 => ?_)
          · have hlt20 : (5 - (m : Int)) ≥ 0 := hlt2
            refine ⟨by first | decide | omega, ?_⟩
            refine ⟨((v / 2 ^ (5 - m) : Nat) : Int), shr5 (by omega), ?_⟩
            have hvd : v / 2 ^ (5 - m) < 64 := Nat.lt_of_le_of_lt (Nat.div_le_self _ _) hv64
            refine ⟨((v / 2 ^ (5 - m) % 2 : Nat) : Int), and_i64 (k := 1) (by omega) (by decide), ?_⟩
            refine ⟨((u8n (v / 2 ^ (5 - m) % 2)).toNat : Int), wrap_u8n _, ?_⟩
            intro b1
            obtain ⟨B, hB⟩ : ∃ B, B = vs.flatMap rbits ++ (rbits v).take m := ⟨_, rfl⟩
            have hBn : vs.flatMap rbits ++ (rbits v).take (m + 1) = B ++ [u8n (v / 2 ^ (5 - m) % 2)] := by
              rw [hB, List.take_add_one, rbits_at (by omega), List.append_assoc]
              rfl
            have hBl : B.length = 6 * i + m := by rw [hB, List.length_append, hbl, List.length_take, hrl]; omega
            rw [← hB]
            obtain ⟨B2, hB2⟩ : ∃ B2, B2 = B ++ [u8n (v / 2 ^ (5 - m) % 2)] := ⟨_, rfl⟩
            have hB2l : B.length + 1 = B2.length := by rw [hB2, List.length_append]; rfl
            rw [← hB2] at hBn
            refine ⟨1, B.length, B2.length, B.map byte, [u8n (v / 2 ^ (5 - m) % 2)].map byte, B2.map byte, rfl, fun β w' hs => row_rd (hs.get 0 rfl), bytes_one _, hB2l, by rw [hB2, List.map_append], by rw [hml]; omega, by show B2.length * 1 ≤ _; omega, ?_⟩
            intro A2 c2 r1 r2 r3
            refine ⟨_, wrap_i64 (by omega) (by omega), ?_⟩
            have e5 : (5 - (m : Int) - 1) = 5 - ((m + 1 : Nat) : Int) := by omega
            refine ⟨(A2, c2, m + 1), by show m + 1 ≤ 6; omega, by show 6 - (m + 1) < 6 - m; omega, ?_⟩
            simp only [hBn]
            exact Ent.mk' ⟨rfl, rfl, rfl, rfl, rfl, rfl, by rw [← e5]; rfl, trivial⟩ rfl (fun β w' hs => hs.perm [1])
          · have hge20 : ¬ (5 - (m : Int)) ≥ 0 := hge2
            obtain rfl : m = 6 := by omega
            refine ⟨(((i + 1) : Nat) : Int), by rw [wrap_i64 (by omega) (by omega)]; rfl, ?_⟩
            have hnx : (vs ++ [v]).flatMap rbits = vs.flatMap rbits ++ (rbits v).take 6 := by rw [List.flatMap_append, List.take_of_length_le (Nat.le_of_eq hrl)]; simp
            refine ⟨(i + 1, A1, c1, vs ++ [v]), ⟨by show i + 1 ≤ n; omega, ?_⟩, by show n - (i + 1) < n - i; omega, ?_⟩
            · show valsA url (U.take (i + 1)) = some (vs ++ [v])
              rw [List.take_add_one, hy, valsA_app, hvs]
              show (match (some vs), (valsA url [y]) with | some x, some y => some (x ++ y) | _, _ => none) = _
              have : valsA url [y] = some [v] := by unfold valsA; rw [hv]; rfl
              rw [this]
            · simp only [hnx]
              exact Ent.mk' ⟨rfl, rfl, rfl, rfl, rfl, trivial⟩ rfl (fun β w' hs => hs)
      · have hge0 : ¬ (i : Int) < (n : Int) := hge
        obtain rfl : i = n := by omega
        rw [List.take_of_length_le (by omega)] at hvs
        have hdS : decS url U = refG vs := by
          unfold decS
          rw [hvs]
          exact (ref_dec vs (fun v hv => hvl.2 v hv) (by omega)).symm
        rw [hdS]
        obtain ⟨bits, hbits⟩ : ∃ bits, vs.flatMap rbits = bits := ⟨_, rfl⟩
        have hrG : refG vs = if (chop bits).2.all (fun x => decide (x = 0)) then some (chop bits).1 else none := by unfold refG; rw [hbits]
        rw [hrG]
        rw [hbits] at hbl ⊢
        refine tri_know (p := bits.length ≤ c ∧ (0 < bits.length → ∃ ad, A = some ad)) (fun β w' hs => ⟨brow_cap (hs.get 0 rfl), fun h => Bs.addr (show Bs w' A bits from row_rd (hs.get 0 rfl)) h⟩) ?_
        rintro ⟨hcap, hadr⟩
        refine loop_rule (ι := (Option Addr × Nat × List UInt8) × (Option Addr × Nat × List UInt8)) 0 (fun j => [(7, .c (.v (.slice j.2.1 j.2.2.2.length j.2.2.1))), (11, .c (.v (.slice j.1.1 j.1.2.2.length j.1.2.1)))]) (fun _ => []) (fun j => [browF ty_uint8 j.1.1 j.1.2.2 j.1.2.1, bsF j.2.1 j.2.2.2])
          (fun j => chop bits = (j.1.2.2 ++ (chop j.2.2.2).1, (chop j.2.2.2).2) ∧ j.2.2.2.length ≤ j.2.2.1 ∧ 8 * j.1.2.2.length + j.2.2.2.length = bits.length ∧ (0 < j.2.2.2.length → ∃ ad, j.2.1 = some ad)) (fun j => j.2.2.2.length) ((none, 0, []), (A, c, bits)) ⟨rfl, hcap, by simp, hadr⟩ (Ent.mk' ⟨rfl, rfl, trivial⟩ rfl (fun β w' hs => ((hs.nilRow ty_uint8 1).rdRow 1 rfl).perm [1, 0])) g ?_
        rintro ⟨⟨O, oc, out⟩, ⟨A3, c3, rem⟩⟩ ⟨hch, hcap3, hlen3, hadr3⟩
        simp only at hch hcap3 hlen3 hadr3
        refine BIf.dec (fun hlt => ?_) (fun hge => ?_)
        · have hlt0 : (rem.length : Int) ≥ 8 := hlt
          obtain ⟨ad, hAd⟩ : ∃ ad, A3 = some ad := hadr3 (by omega)
          refine ⟨c3, 8, 0, 8, c3, A3, rfl, rfl, rfl, Nat.le_refl _, by omega, Nat.zero_le _, rfl, rfl, cutA_zero', ?_⟩
          refine loop_rule (ι := Nat × UInt8) 0 (fun j => [(7, .c (.v (.slice A3 rem.length c3))), (11, .c (.v (.slice O out.length oc))), (12, .c (.v (byte j.2))), (89, .c (.v (.slice A3 8 c3))), (90, .c (.v (.int .i64 8))), (91, .c (.v (.int .i64 (j.1 : Int))))]) (fun _ => []) (fun j => [browF ty_uint8 O out oc, bsF A3 rem])
            (fun j => j.1 ≤ 8 ∧ j.2 = fold8 (rem.take j.1)) (fun j => 8 - j.1) (0, 0) ⟨Nat.zero_le _, rfl⟩ (Ent.mk' ⟨rfl, rfl, rfl, rfl, rfl, rfl, trivial⟩ rfl (fun β w' hs => hs)) g ?_
          rintro ⟨i2, b⟩ ⟨hi2, hb⟩
          simp only at hi2 hb
          refine BIf.dec (fun hlt2 => ?_) (fun hge2 => ?_)
          · have hlt20 : (i2 : Int) < 8 := hlt2
            obtain ⟨z, hz, -⟩ := at_lt (show i2 < rem.length by omega)
            refine ⟨ad, i2, hAd, rfl, by omega, ?_⟩
            refine ⟨byte z, fun β w' hs => Rd.cell1 (show Rd 1 (some ad) rem.length (rem.map byte) w' from hAd ▸ hs.get 1 rfl) (by rw [List.getElem?_map, hz]; rfl), ?_⟩
            refine ⟨((b * 2 : UInt8).toNat : Int), by rw [IntKind.wrap_u8, UInt8.toNat_mul]; show ((b.toNat : Int) * 2) % 256 = ((b.toNat * 2 % 256 : Nat) : Int); omega, ?_⟩
            refine ⟨((b * 2 + z : UInt8).toNat : Int), by rw [IntKind.wrap_u8, UInt8.toNat_add]; show (((b * 2 : UInt8).toNat : Int) + (z.toNat : Int)) % 256 = (((b * 2 : UInt8).toNat + z.toNat) % 256 : Nat); omega, ?_⟩
            refine ⟨((i2 + 1 : Nat) : Int), by rw [wrap_i64 (by omega) (by omega)]; rfl, ?_⟩
            exact ⟨(i2 + 1, b * 2 + z), ⟨by show i2 + 1 ≤ 8; omega, by show b * 2 + z = fold8 (rem.take (i2 + 1)); rw [List.take_add_one, hz, hb]; exact (fold8_snoc _ _).symm⟩, by show 8 - (i2 + 1) < 8 - i2; omega, Ent.mk' ⟨rfl, rfl, rfl, rfl, rfl, rfl, trivial⟩ rfl (fun β w' hs => hs)⟩
          · have hge20 : ¬ (i2 : Int) < 8 := hge2
            obtain rfl : i2 = 8 := by omega
            refine draw_rule g p_ostiaryref03_Decode_29 (by kernel_rfl) [] [] (Sub.of (List.Sublist.refl _) (List.nil_sublist _)) ?_
            refine ⟨c3, rem.length, 8, rem.length - 8, c3 - 8, _, rfl, rfl, rfl, Nat.le_refl _, hcap3, by omega, rfl, rfl, rfl, ?_⟩
            intro b3
            refine ⟨subPerm [], ?_⟩
            obtain ⟨out2, hout2⟩ : ∃ out2, out2 = out ++ [b] := ⟨_, rfl⟩
            have hol : out.length + 1 = out2.length := by rw [hout2, List.length_append]; rfl
            refine ⟨1, out.length, out2.length, out.map byte, [b].map byte, out2.map byte, rfl, fun β w' hs => row_rd (hs.get 0 rfl), bytes_one _, hol, by rw [hout2, List.map_append], by rw [hml]; omega, by show out2.length * 1 ≤ _; omega, ?_⟩
            intro O2 oc2 r1 r2 r3
            refine ⟨subPerm [], ?_⟩
            have hrl8 : (rem.drop 8).length = rem.length - 8 := List.length_drop ..
            have hcl := chop_long (l := rem) (by omega)
            refine ⟨((O2, oc2, out2), (cutA A3 c3 8 1, c3 - 8, rem.drop 8)), ⟨?_, by show (rem.drop 8).length ≤ c3 - 8; omega, by show 8 * out2.length + (rem.drop 8).length = _; omega, fun _ => ?_⟩, by show (rem.drop 8).length < rem.length; omega, ?_⟩
            · show chop bits = (out2 ++ (chop (rem.drop 8)).1, (chop (rem.drop 8)).2)
              rw [hch, hcl, hout2, hb, List.append_assoc]
              rfl
            · show ∃ ad, cutA A3 c3 8 1 = some ad
              rw [hAd]
              unfold cutA
              split <;> exact ⟨_, rfl⟩
            · simp only [hrl8]
              exact Ent.mk' ⟨rfl, rfl, trivial⟩ rfl (fun β w' hs => (hs.sub 2 rfl rfl (bsF (cutA A3 c3 8 1) (rem.drop 8)) rfl (by
                have h := Bs.cutB (show Bs _ A3 rem from hs.get 2 rfl) (i := 8) (j := rem.length) hcap3 (by omega) (Nat.le_refl _) (List.take_of_length_le (Nat.le_of_eq hrl8))
                exact h) (fun k hk => cut_D (by omega) hk)).perm [2, 0])
        · have hge0 : ¬ (rem.length : Int) ≥ 8 := hge
          refine loop_rule (ι := Nat) 0 (fun j => [(11, .c (.v (.slice O out.length oc))), (106, .c (.v (.slice A3 rem.length c3))), (107, .c (.v (.int .i64 (rem.length : Int)))), (108, .c (.v (.int .i64 (j : Int))))]) (fun _ => []) (fun j => [browF ty_uint8 O out oc, bsF A3 rem])
            (fun j => j ≤ rem.length ∧ (rem.take j).all (fun x => decide (x = 0)) = true) (fun j => rem.length - j) (0 : Nat) ⟨Nat.zero_le _, rfl⟩ (Ent.mk' ⟨rfl, rfl, rfl, rfl, trivial⟩ rfl (fun β w' hs => hs)) g ?_
          rintro j ⟨hj, hz0⟩
          refine BIf.dec (fun hlt2 => ?_) (fun hge2 => ?_)
          · have hlt20 : (j : Int) < (rem.length : Int) := hlt2
            obtain ⟨ad, hAd⟩ := hadr3 (by omega)
            obtain ⟨z, hz, hzm⟩ := at_lt (show j < rem.length by omega)
            refine ⟨ad, j, hAd, rfl, by omega, ?_⟩
            refine ⟨byte z, fun β w' hs => Rd.cell1 (show Rd 1 (some ad) rem.length (rem.map byte) w' from hAd ▸ hs.get 1 rfl) (by rw [List.getElem?_map, hz]; rfl), ?_⟩
            refine BIf.not (BIf.dec (fun he => ?_) (fun hne => ?_))
            · obtain rfl : z = 0 := UInt8.toNat_inj.1 (Int.ofNat_inj.1 he)
              refine ⟨((j + 1 : Nat) : Int), by rw [wrap_i64 (by omega) (by omega)]; rfl, ?_⟩
              exact ⟨j + 1, ⟨by omega, by rw [List.take_add_one, hz, List.all_append, hz0]; rfl⟩, by omega, Ent.mk' ⟨rfl, rfl, rfl, rfl, trivial⟩ rfl (fun β w' hs => hs)⟩
            · have hz1 : z ≠ 0 := fun q => hne (by rw [q]; rfl)
              intro β w' hs
              refine (hs.nilRow ty_uint8 1).fin [0] ⟨none, [], 0, 4, rfl, .inr ⟨by decide, ?_⟩, Nat.le_refl _, rfl⟩
              rw [hch, chop_short (l := rem) (by omega), if_neg]
              intro q
              exact hz1 (of_decide_eq_true (List.all_eq_true.1 q z hzm))
          · have hge20 : ¬ (j : Int) < (rem.length : Int) := hge2
            rw [List.take_of_length_le (by omega)] at hz0
            intro β w' hs
            refine hs.fin [0] ⟨O, out, oc, 0, rfl, .inl ⟨rfl, ?_⟩, brow_cap (hs.get 0 rfl), rfl⟩
            rw [hch, chop_short (l := rem) (by omega), if_pos hz0, List.append_nil]
end Go.Proofs.YtoifclfanabalaaGreatDoor.Sx

/- The document's Unhex. -/
namespace Go.Proofs.YtoifclfanabalaaGreatDoor.Sx
open Go
attribute [local irreducible] Calls

def digB : List UInt8 := [48, 49, 50, 51, 52, 53, 54, 55, 56, 57, 97, 98, 99, 100, 101, 102]
theorem digB_iff {n : Nat} {c x : UInt8} (h : digB[n]? = some x) : x = c ↔ digA c = some n := by
  have key : ∀ n : _root_.Fin 16, ∀ m : _root_.Fin 256, (decide (digB[n.1]? = some (UInt8.ofNat m.1)) = decide (digA (UInt8.ofNat m.1) = some n.1)) := by decide +kernel
  have hn : n < 16 := (List.getElem?_eq_some_iff.1 h).1
  have h2 := key ⟨n, hn⟩ ⟨c.toNat, c.toNat_lt⟩
  simp only [UInt8.ofNat_toNat, decide_eq_decide] at h2
  rw [h] at h2
  exact ⟨fun q => h2.1 (by rw [q]), fun q => Option.some.inj (h2.2 q)⟩
def digTo (c : UInt8) (n : Nat) : Int := match digA c with
  | some d => if d < n then (d : Int) else -1
  | none => -1
theorem digTo_0 (c : UInt8) : digTo c 0 = -1 := by
  unfold digTo
  split
  · rw [if_neg (Nat.not_lt_zero _)]
  · rfl
theorem digTo_hit {c : UInt8} {n : Nat} (h : digA c = some n) : digTo c (n + 1) = (n : Int) := by
  unfold digTo
  rw [h]
  simp only
  rw [if_pos (Nat.lt_succ_self _)]
theorem digTo_no {c : UInt8} {n : Nat} (h : digA c ≠ some n) : digTo c (n + 1) = digTo c n := by
  unfold digTo
  cases hd : digA c with
  | none => rfl
  | some d =>
    simp only
    have hne : d ≠ n := fun q => h (by rw [hd, q])
    by_cases q : d < n
    · rw [if_pos (by omega), if_pos q]
    · rw [if_neg (by omega), if_neg q]
theorem digTo_16 (c : UInt8) : digTo c 16 = digV c := by
  unfold digTo digV
  cases hd : digA c with
  | none => rfl
  | some d => simp only; rw [if_pos (digA_lt hd)]
theorem unhex_none {s : List UInt8} {i : Nat} {x : UInt8} (h2 : s.length % 2 = 0) (hx : s[i]? = some x) (hd : digA x = none) : unhexA s = none := by
  have hi := (List.getElem?_eq_some_iff.1 hx).1
  by_cases he : i % 2 = 0
  · obtain ⟨y, hy, -⟩ := at_lt (show i + 1 < s.length by omega)
    have e : s = s.take i ++ x :: y :: s.drop (i + 2) := by
      have h1 := List.drop_eq_getElem_cons hi
      have h3 := List.drop_eq_getElem_cons (show i + 1 < s.length by omega)
      rw [(List.getElem?_eq_some_iff.1 hx).2] at h1
      rw [(List.getElem?_eq_some_iff.1 hy).2] at h3
      rw [← h3, ← h1, List.take_append_drop]
    rw [e]
    exact unhexA_bad x y _ _ (by rw [List.length_take]; omega) (.inl hd)
  · obtain ⟨y, hy, -⟩ := at_lt (show i - 1 < s.length by omega)
    have e : s = s.take (i - 1) ++ y :: x :: s.drop (i + 1) := by
      have h1 := List.drop_eq_getElem_cons hi
      have h3 := List.drop_eq_getElem_cons (show i - 1 < s.length by omega)
      rw [(List.getElem?_eq_some_iff.1 hx).2] at h1
      rw [(List.getElem?_eq_some_iff.1 hy).2, show i - 1 + 1 = i by omega] at h3
      rw [← h1, ← h3, List.take_append_drop]
    rw [e]
    exact unhexA_bad y x _ _ (by rw [List.length_take]; omega) (.inr hd)
theorem unhex_next {s o : List UInt8} {i v w : Nat} {x y : UInt8} (h : unhexA (s.take i) = some o) (he : i % 2 = 0) (hx : s[i]? = some x) (hy : s[i + 1]? = some y) (hv : digA x = some v) (hw : digA y = some w) : unhexA (s.take (i + 2)) = some (o ++ [u8n (v * 16 + w)]) := by
  have hi := (List.getElem?_eq_some_iff.1 hx).1
  rw [List.take_add_one, List.take_add_one, hx, hy, List.append_assoc, unhexA_app _ _ (by rw [List.length_take]; omega), h]
  show (match (some o), unhexA [x, y] with | some a, some b => some (a ++ b) | _, _ => none) = _
  have e : unhexA [x, y] = some [u8n (v * 16 + w)] := by simp [unhexA, hv, hw]
  rw [e]
theorem u8n_add (a b : Nat) : u8n a + u8n b = u8n (a + b) := by
  apply UInt8.toNat_inj.1
  unfold u8n
  rw [UInt8.toNat_add, UInt8.toNat_ofNat', UInt8.toNat_ofNat', UInt8.toNat_ofNat']
  omega
theorem rUnhex_c (w : World) (s : List UInt8) (hL : s.length ≤ 1000000) : Con Tryz.prog n_ostiaryref03_Unhex #[.string (mkS s)] w [] (decOutP (unhexA s)) := by
  have g := good_ostiaryref03_Unhex w (Un [])
  refine con_of_sx (cx := cx_ostiaryref03_Unhex w (Un [])) g b_ostiaryref03_Unhex rfl rfl (β := Va.z) [.c (.v (.string (mkS s)))] 0 [] [] rfl rfl (Sat.start rfl) ?_
  have hml := maxLen_eq
  have hsz := mkS_sz s
  refine ⟨by first | decide | omega, ?_⟩
  refine ⟨(((mkS s).size % 2 : Nat) : Int), Int.ofNat_tmod _ _, ?_⟩
  refine BIf.not (BIf.dec (fun h2 => ?_) (fun h2 => ?_))
  · have h20 : (((mkS s).size % 2 : Nat) : Int) = 0 := h2
    refine loop_rule (ι := Nat × Option Addr × Nat × List UInt8) 0 (fun j => [(0, .c (.v (.string (mkS s)))), (4, .c (.v (.slice j.2.1 j.2.2.2.length j.2.2.1))), (5, .c (.v (.int .i64 (j.1 : Int))))]) (fun _ => []) (fun j => [browF ty_uint8 j.2.1 j.2.2.2 j.2.2.1])
      (fun j => j.1 ≤ s.length ∧ (j.1 % 2 = 0 → unhexA (s.take j.1) = some j.2.2.2) ∧ (j.1 % 2 = 1 → ∃ o x v, s[j.1 - 1]? = some x ∧ digA x = some v ∧ unhexA (s.take (j.1 - 1)) = some o ∧ j.2.2.2 = o ++ [u8n (v * 16)]) ∧ j.2.2.2.length ≤ j.1) (fun j => s.length - j.1) (0, none, 0, []) ⟨Nat.zero_le _, fun _ => rfl, (fun h => by cases h), Nat.le_refl _⟩ (Ent.mk' ⟨rfl, rfl, rfl, trivial⟩ rfl (fun β w' hs => hs.nilRow ty_uint8 1)) g ?_
    rintro ⟨i, A, c, out⟩ ⟨hi, he, ho, hol⟩
    simp only at hi he ho hol
    refine BIf.dec (fun hlt => ?_) (fun hge => ?_)
    · have hlt0 : (i : Int) < ((mkS s).size : Int) := hlt
      obtain ⟨x, hx, -⟩ := at_lt (show i < s.length by omega)
      refine tri_know (p := 0 < out.length → ∃ b, A = some ⟨b, 0, none⟩) (fun β w' hs h => ?_) ?_
      · have hp : w'.ownsRow 0 ty_uint8 1 (.slice A out.length c) out.length (out.map byte) := hs.get 0 rfl
        rcases hp.2 with ⟨_, q⟩ | ⟨b, cap, cur, hv, _⟩
        · omega
        · injection hv with q1 q2 q3
          exact ⟨b, q1⟩
      intro hAb
      refine loop_rule (ι := Nat) 0 (fun j => [(0, .c (.v (.string (mkS s)))), (4, .c (.v (.slice A out.length c))), (5, .c (.v (.int .i64 (i : Int)))), (6, .c (.v (.int .i64 (digTo x j)))), (7, .c (.v (.int .i64 (j : Int))))]) (fun _ => []) (fun j => [browF ty_uint8 A out c])
        (fun j => j ≤ 16) (fun j => 16 - j) (0 : Nat) (Nat.zero_le _) (Ent.mk' ⟨rfl, rfl, rfl, by rw [digTo_0]; rfl, rfl, trivial⟩ rfl (fun β w' hs => hs)) g ?_
      intro n hn
      refine BIf.dec (fun hlt2 => ?_) (fun hge2 => ?_)
      · have hlt20 : (n : Int) < 16 := hlt2
        obtain ⟨d, hd, -⟩ := at_lt (show n < digB.length by show n < 16; omega)
        have hdi := digB_iff (c := x) hd
        refine draw_rule g p_ostiaryref03_Unhex_11 (by kernel_rfl) [] [] (Sub.of (List.Sublist.refl _) (List.nil_sublist _)) ?_
        refine ⟨n, d, rfl, hd, ?_⟩
        refine ⟨i, x, rfl, hx, ?_⟩
        refine BIf.dec (fun heq => ?_) (fun hne => ?_)
        · have heq0 : d = x := UInt8.toNat_inj.1 (Int.ofNat_inj.1 heq)
          refine ⟨((n + 1 : Nat) : Int), by rw [wrap_i64 (by omega) (by omega)]; rfl, ?_⟩
          refine ⟨n + 1, by omega, by omega, Ent.mk' ⟨rfl, rfl, rfl, by rw [digTo_hit (hdi.1 heq0)]; rfl, rfl, trivial⟩ rfl (fun β w' hs => hs)⟩
        · have hne0 : d ≠ x := fun q => hne (by rw [q])
          refine ⟨((n + 1 : Nat) : Int), by rw [wrap_i64 (by omega) (by omega)]; rfl, ?_⟩
          refine ⟨n + 1, by omega, by omega, Ent.mk' ⟨rfl, rfl, rfl, by rw [digTo_no (fun q => hne0 (hdi.2 q))]; rfl, rfl, trivial⟩ rfl (fun β w' hs => hs)⟩
      · have hge20 : ¬ (n : Int) < 16 := hge2
        obtain rfl : n = 16 := by omega
        rw [digTo_16]
        cases hdx : digA x with
        | none =>
          have hv : digV x = -1 := by unfold digV; rw [hdx]
          rw [hv]
          intro β w' hs
          exact (hs.nilRow ty_uint8 1).fin [0] ⟨none, [], 0, 5, rfl, .inr ⟨by decide, unhex_none (by omega) hx hdx⟩, Nat.le_refl _, rfl⟩
        | some v =>
          have hv : digV x = (v : Int) := by unfold digV; rw [hdx]
          have hv16 := digA_lt hdx
          rw [hv]
          refine ⟨by first | decide | omega, ?_⟩
          refine ⟨((i % 2 : Nat) : Int), Int.ofNat_tmod _ _, ?_⟩
          refine BIf.dec (fun hev => ?_) (fun hod => ?_)
          · have hev0 : ((i % 2 : Nat) : Int) = 0 := hev
            refine ⟨(((16 * v) : Nat) : Int), by rw [wrap_i64 (by omega) (by omega)]; rfl, ?_⟩
            refine ⟨((u8n (v * 16)).toNat : Int), by rw [show 16 * v = v * 16 by omega]; exact wrap_u8n _, ?_⟩
            intro b1
            obtain ⟨out2, hout2⟩ : ∃ out2, out2 = out ++ [u8n (v * 16)] := ⟨_, rfl⟩
            have hl2 : out.length + 1 = out2.length := by rw [hout2, List.length_append]; rfl
            refine ⟨1, out.length, out2.length, out.map byte, [u8n (v * 16)].map byte, out2.map byte, rfl, fun β w' hs => row_rd (hs.get 0 rfl), bytes_one _, hl2, by rw [hout2, List.map_append], by rw [hml]; omega, by show out2.length * 1 ≤ _; omega, ?_⟩
            intro A2 c2 r1 r2 r3
            refine ⟨((i + 1 : Nat) : Int), by rw [wrap_i64 (by omega) (by omega)]; rfl, ?_⟩
            exact ⟨(i + 1, A2, c2, out2), ⟨by show i + 1 ≤ _; omega, fun h => absurd (show (i + 1) % 2 = 0 from h) (by omega), fun _ => ⟨out, x, v, hx, hdx, he (by omega), hout2⟩, by show out2.length ≤ i + 1; omega⟩, by show s.length - (i + 1) < s.length - i; omega, Ent.mk' ⟨rfl, rfl, rfl, trivial⟩ rfl (fun β w' hs => hs.perm [1])⟩
          · have hod0 : ¬ ((i % 2 : Nat) : Int) = 0 := hod
            obtain ⟨o, x0, v0, hx0, hdx0, hun, hoe⟩ := ho (by omega)
            have hole : out.length = o.length + 1 := by rw [hoe, List.length_append]; rfl
            obtain ⟨bA, hbA⟩ := hAb (by omega)
            subst hbA
            refine ⟨_, wrap_i64 (by omega) (by omega), ?_⟩
            refine ⟨_, o.length, rfl, by omega, by omega, ?_⟩
            refine ⟨byte (u8n (v0 * 16)), fun β w' hs => Rd.cell1 (row_rd (show (browF ty_uint8 (some ⟨bA, 0, none⟩) out c).p w' from hs.get 0 rfl)) (by rw [hoe, List.map_append, List.getElem?_append_right (by simp)]; simp), ?_⟩
            refine ⟨((v : Nat) : Int), by rw [IntKind.wrap_u8]; omega, ?_⟩
            refine ⟨((u8n (v0 * 16 + v)).toNat : Int), by
              have h1 := UInt8.toNat_add (u8n (v0 * 16)) (u8n v)
              rw [u8n_add] at h1
              have h2 : (u8n v).toNat = v := by unfold u8n; rw [UInt8.toNat_ofNat']; omega
              rw [IntKind.wrap_u8, h1, h2]
              omega, ?_⟩
            refine ⟨_, o.length, rfl, by omega, by omega, ?_⟩
            refine ⟨_, fun β w' hs => Sat.rowSet hs (j := 0) (us := [byte (u8n (v0 * 16 + v))]) rfl (by show o.length * 1 + 1 ≤ out.length * 1; omega) (fun u hu => by obtain rfl := List.mem_singleton.1 hu; rfl), ?_⟩
            refine ⟨((i + 1 : Nat) : Int), by rw [wrap_i64 (by omega) (by omega)]; rfl, ?_⟩
            obtain ⟨out2, hout2⟩ : ∃ out2, out2 = o ++ [u8n (v0 * 16 + v)] := ⟨_, rfl⟩
            have hl2 : out2.length = out.length := by rw [hout2, List.length_append, hole]; rfl
            have hput : putAll (out.map byte) (o.length * 1) [byte (u8n (v0 * 16 + v))] = out2.map byte := by
              show putAt (out.map byte) (o.length * 1) _ = _
              rw [putAt_eq, Nat.mul_one, hoe, hout2, List.map_append, List.map_append, List.set_append_right _ _ (by simp)]
              simp
            have hi1 : i - 1 + 2 = i + 1 := by omega
            refine ⟨(i + 1, some ⟨bA, 0, none⟩, c, out2), ⟨by show i + 1 ≤ _; omega, fun _ => ?_, fun h => absurd (show (i + 1) % 2 = 1 from h) (by omega), by show out2.length ≤ i + 1; omega⟩, by show s.length - (i + 1) < s.length - i; omega, ?_⟩
            · show unhexA (s.take (i + 1)) = some out2
              rw [hout2, ← hi1]
              exact unhex_next hun (by omega) hx0 (by rw [show i - 1 + 1 = i by omega]; exact hx) hdx0 hdx
            · simp only [hl2]
              refine Ent.mk' ⟨rfl, rfl, rfl, trivial⟩ rfl (fun β w' hs => ?_)
              show Sat _ _ _ _ [rowF ty_uint8 1 (.slice (some ⟨bA, 0, none⟩) out2.length c) out2.length (out2.map byte)] _
              rw [← hput, hl2]
              exact hs
    · have hge0 : ¬ (i : Int) < ((mkS s).size : Int) := hge
      obtain rfl : i = s.length := by omega
      intro β w' hs
      refine hs.fin [0] ⟨A, out, c, 0, rfl, .inl ⟨rfl, ?_⟩, brow_cap (hs.get 0 rfl), rfl⟩
      have h := he (by omega)
      rwa [List.take_length] at h
  · have h20 : ¬ (((mkS s).size % 2 : Nat) : Int) = 0 := h2
    intro β w' hs
    exact (hs.nilRow ty_uint8 1).fin [0] ⟨none, [], 0, 2, rfl, .inr ⟨by decide, unhexA_odd s (by omega)⟩, Nat.le_refl _, rfl⟩
end Go.Proofs.YtoifclfanabalaaGreatDoor.Sx

/- The document's finds. -/
namespace Go.Proofs.YtoifclfanabalaaGreatDoor.Sx
open Go
attribute [local irreducible] Calls

def findV (x : Hp) : List Value := [.int .i64 (x.1 : Int), .int .i64 (x.2 : Int)]
def findsV (l : List Hp) : List Value := l.flatMap findV
abbrev fndF (A : Option Addr) (l : List Hp) (c : Nat) : Fact := rowF ty_ostiaryref05_Find 2 (.slice A l.length c) l.length (findsV l)
theorem findsV_snoc (l : List Hp) (x : Hp) : findsV (l ++ [x]) = findsV l ++ findV x := by simp [findsV]
theorem findV_one (x : Hp) : ∀ u ∈ findV x, u.oneCell' = true := by
  intro u hu
  simp only [findV, List.mem_cons, List.not_mem_nil, or_false] at hu
  rcases hu with rfl | rfl <;> rfl
theorem looks_hit (t : List UInt8) (i : Nat) : ∃ (v : Nat) (ok : Bool), looksV ((t.drop i).take 32) = .tuple #[.int .i64 (v : Int), .bool ok] ∧ ((ok = true ∧ 0 < v ∧ hit t i = some v) ∨ (ok = true ∧ ¬ 0 < v ∧ hit t i = none) ∨ (ok = false ∧ hit t i = none)) := by
  unfold looksV hit
  cases h : Bx.looks ((t.drop i).take 32) with
  | none => exact ⟨0, false, rfl, .inr (.inr ⟨rfl, rfl⟩)⟩
  | some n =>
    refine ⟨n, true, rfl, ?_⟩
    by_cases h0 : 0 < n
    · exact .inl ⟨rfl, h0, if_pos h0⟩
    · exact .inr (.inl ⟨rfl, h0, if_neg h0⟩)
theorem rfinds_c (w : World) (A : Option Addr) (t : List UInt8) (c : Nat) (hr : Bs w A t) (hl : t.length ≤ 1000000) (hc : t.length ≤ c) :
    Con Tryz.prog n_ostiaryref05_Finds #[.slice A t.length c] w [] fun v Fs => ∃ A' c', v = .slice A' (scan t 0).length c' ∧ (scan t 0).length ≤ c' ∧ Fs = [fndF A' (scan t 0) c'] := by
  have g := good_ostiaryref05_Finds w (Un [])
  refine con_of_sx (cx := cx_ostiaryref05_Finds w (Un [])) g b_ostiaryref05_Finds rfl rfl (β := Va.z) [.c (.v (.slice A t.length c))] 0 [] [fndF none [] 0, oldF w] rfl rfl ((old_sat rfl).nilRow _ _) ?_
  refine loop_rule (ι := List Hp × Nat × Option Addr × Nat) 0 (fun i => [(0, .c (.v (.slice A t.length c))), (3, .c (.v (.slice i.2.2.1 i.1.length i.2.2.2))), (4, .c (.v (.int .i64 (i.2.1 : Int))))]) (fun _ => []) (fun i => [fndF i.2.2.1 i.1 i.2.2.2, oldF w])
    (fun i => scan t 0 = i.1 ++ scan t i.2.1 ∧ i.2.1 ≤ t.length ∧ i.1.length ≤ i.2.1 ∧ i.1.length ≤ i.2.2.2) (fun i => t.length - i.2.1) ([], 0, none, 0) ⟨rfl, Nat.zero_le _, Nat.zero_le _, Nat.zero_le _⟩ (Ent.same ⟨rfl, rfl, rfl, trivial⟩ rfl) g ?_
  rintro ⟨got, i, A1, c1⟩ ⟨hsc, hi, hgi, hgc⟩
  simp only at hsc hi hgi hgc
  simp only
  refine ⟨((t.length - i : Nat) : Int), by rw [wrap_i64 (by omega) (by omega)]; omega, ?_⟩
  refine BIf.dec (fun hlt => ?_) (fun hge => ?_)
  · have hlt0 : (32 : Int) ≤ ((t.length - i : Nat) : Int) := hlt
    have hlt : i + 32 ≤ t.length := by omega
    refine ⟨((i + 32 : Nat) : Int), by rw [wrap_i64 (by omega) (by omega)]; rfl, ?_⟩
    refine ⟨c, i + 32, i, 32, c - i, _, rfl, rfl, rfl, Nat.le_refl _, by omega, by omega, by omega, rfl, rfl, ?_⟩
    obtain ⟨v, ok, hv, hhit⟩ := looks_hit t i
    have e32 : ((t.drop i).take 32).length = 32 := by simp; omega
    refine call_pu (v := .tuple #[.int .i64 (v : Int), .bool ok]) (fun β w' hs => by
      have h := looks_c w' (cutA A c i 1) ((t.drop i).take 32) (c - i) (Bs.cutB (Rd.old hr (hs.get 1 rfl)) hc (by omega : i ≤ i + 32) hlt (by simp)) (by omega) (by omega)
      rw [hv, e32] at h
      exact h) ?_
    rcases hhit with ⟨rfl, hv0, hh⟩ | ⟨rfl, hv0, hh⟩ | ⟨rfl, hh⟩
    · rw [scan_hit hlt hh] at hsc
      refine BIf.dec (fun hp => ?_) (fun hp => ?_)
      · intro b0
        refine ⟨1, got.length, got.length + 1, findsV got, findV (i, v), findsV (got ++ [(i, v)]), rfl, fun β w hs => row_rd (hs.get 0 rfl), findV_one _, rfl, (findsV_snoc _ _).symm, by rw [maxLen_eq]; omega, by show (got.length + 1) * 16 ≤ _; omega, ?_⟩
        intro A' c' q1 q2 _
        refine ⟨((i + 32 : Nat) : Int), by rw [wrap_i64 (by omega) (by omega)]; rfl, ?_⟩
        have hle : (got ++ [(i, v)] : List Hp).length = got.length + 1 := by simp
        refine ⟨(got ++ [(i, v)], i + 32, A', c'), ⟨by show scan t 0 = got ++ [(i, v)] ++ scan t (i + 32); rw [hsc]; simp, hlt, by show (got ++ [(i, v)] : List Hp).length ≤ i + 32; omega, by show (got ++ [(i, v)] : List Hp).length ≤ c'; omega⟩, by show t.length - (i + 32) < t.length - i; omega, ?_⟩
        simp only [fndF, hle]
        exact Ent.mk' ⟨rfl, rfl, rfl, trivial⟩ rfl (fun β w' hs => hs.weaken (List.Sublist.refl _) (List.sublist_cons_self _ _))
      · exact (hp (by show (0 : Int) < (v : Int); omega)).elim
    · rw [scan_no hlt hh] at hsc
      refine BIf.dec (fun hp => ?_) (fun hp => ?_)
      · have hp0 : (0 : Int) < (v : Int) := hp
        omega
      · refine ⟨((i + 1 : Nat) : Int), by rw [wrap_i64 (by omega) (by omega)]; rfl, ?_⟩
        refine ⟨(got, i + 1, A1, c1), ⟨hsc, by show i + 1 ≤ _; omega, by show got.length ≤ i + 1; omega, hgc⟩, by show t.length - (i + 1) < t.length - i; omega, Ent.same ⟨rfl, rfl, rfl, trivial⟩ rfl⟩
    · rw [scan_no hlt hh] at hsc
      refine ⟨((i + 1 : Nat) : Int), by rw [wrap_i64 (by omega) (by omega)]; rfl, ?_⟩
      refine ⟨(got, i + 1, A1, c1), ⟨hsc, by show i + 1 ≤ _; omega, by show got.length ≤ i + 1; omega, hgc⟩, by show t.length - (i + 1) < t.length - i; omega, Ent.same ⟨rfl, rfl, rfl, trivial⟩ rfl⟩
  · have hge0 : ¬ (32 : Int) ≤ ((t.length - i : Nat) : Int) := hge
    rw [scan_end (t := t) (i := i) (by omega), List.append_nil] at hsc
    intro β w' hs
    rw [hsc]
    exact hs.fin [0] ⟨A1, c1, rfl, hgc, rfl⟩
end Go.Proofs.YtoifclfanabalaaGreatDoor.Sx

/- A part of a row, read. -/
namespace Go.Proofs.YtoifclfanabalaaGreatDoor.Sx
open Go
attribute [local irreducible] Calls

/-- A part of a row. -/
theorem Rd.cutN {size : Nat} {w : World} {A : Option Addr} {xs : List Value} {n : Nat} (h : Rd size A n xs w) {c i j : Nat} (hn : n ≤ c) (hij : i ≤ j) (hj : j ≤ n) : Rd size (cutA A c i size) (j - i) ((xs.drop (i * size)).take ((j - i) * size)) w := by
  have hl := h.1
  have hle : i * size + (j - i) * size ≤ n * size := by rw [← Nat.add_mul]; exact Nat.mul_le_mul_right _ (by omega)
  refine ⟨by rw [List.length_take, List.length_drop]; omega, fun hp => ?_⟩
  obtain ⟨ad, rfl, hc⟩ := h.2 (by omega)
  have hne : ¬ c = i := by omega
  refine ⟨ad.add (i * size), by simp [cutA, hne], fun k u hk => ?_⟩
  rw [add_add']
  refine hc (i * size + k) u ?_
  rw [← hk]
  have hkl : k < (j - i) * size := by
    have := (List.getElem?_eq_some_iff.1 hk).1
    rw [List.length_take] at this
    omega
  rw [List.getElem?_take, if_pos hkl, List.getElem?_drop]
end Go.Proofs.YtoifclfanabalaaGreatDoor.Sx

/- The document's lists of numbers: one put in. -/
namespace Go.Proofs.YtoifclfanabalaaGreatDoor.Sx
open Go
attribute [local irreducible] Calls

theorem rIn_c (w : World) (A : Option Addr) (l : List Nat) (c n : Nat) (hr : Rd 1 A l.length (ints l) w) (hn : l.length ≤ 4000000) : Pu Tryz.prog n_ostiaryref28_In #[.slice A l.length c, .int .i64 (n : Int)] w (.bool (decide (n ∈ l))) := by
  have g := good_ostiaryref28_In w (Un [])
  refine con_of_sx (cx := cx_ostiaryref28_In w (Un [])) g b_ostiaryref28_In rfl rfl (β := Va.z) [.c (.v (.slice A l.length c)), .c (.v (.int .i64 (n : Int)))] 0 [] [rdF 1 A l.length (ints l)] rfl rfl ((Sat.start rfl).rd (fun _ h => by cases h) hr) ?_
  refine loop_rule (ι := Nat) 0 (fun j => [(1, .c (.v (.int .i64 (n : Int)))), (7, .c (.v (.slice A l.length c))), (8, .c (.v (.int .i64 (l.length : Int)))), (9, .c (.v (.int .i64 (j : Int))))]) (fun _ => []) (fun _ => [rdF 1 A l.length (ints l)])
    (fun j => j ≤ l.length ∧ n ∉ l.take j) (fun j => l.length - j) (0 : Nat) ⟨Nat.zero_le _, by simp⟩ (Ent.mk' ⟨rfl, rfl, rfl, rfl, trivial⟩ rfl (fun β w' hs => hs)) g ?_
  rintro j ⟨hj, hno⟩
  refine BIf.dec (fun hlt => ?_) (fun hge => ?_)
  · have hlt0 : (j : Int) < (l.length : Int) := hlt
    obtain ⟨y, hy, hym⟩ := at_lt (show j < l.length by omega)
    obtain ⟨ad, hA, _⟩ := hr.2 (by omega)
    refine ⟨ad, j, hA, rfl, by omega, ?_⟩
    refine ⟨.int .i64 (y : Int), fun β w' hs => Rd.cell1 (show Rd 1 (some ad) l.length (ints l) w' from hA ▸ hs.get 0 rfl) (by simp [ints, hy]), ?_⟩
    refine BIf.dec (fun he => ?_) (fun hne => ?_)
    · have he0 : y = n := Int.ofNat_inj.1 he
      intro β w' hs
      exact hs.fin [] ⟨by rw [decide_eq_true (he0 ▸ hym)]; rfl, rfl⟩
    · have hne0 : ¬ y = n := fun q => hne (by rw [q])
      refine ⟨((j + 1 : Nat) : Int), by rw [wrap_i64 (by omega) (by omega)]; rfl, ?_⟩
      exact ⟨j + 1, ⟨by omega, by rw [List.take_add_one, hy]; simp only [Option.toList, List.mem_append, List.mem_singleton, not_or]; exact ⟨hno, fun q => hne0 q.symm⟩⟩, by omega, Ent.mk' ⟨rfl, rfl, rfl, rfl, trivial⟩ rfl (fun β w' hs => hs)⟩
  · have hge0 : ¬ (j : Int) < (l.length : Int) := hge
    rw [List.take_of_length_le (by omega)] at hno
    intro β w' hs
    exact hs.fin [] ⟨by rw [decide_eq_false hno]; rfl, rfl⟩
/-- One put in where it rises. -/
def lessT (l : List Nat) (n : Nat) : List Nat := l.takeWhile fun x => decide (x < n)
def putL (l : List Nat) (n : Nat) : List Nat := if n ∈ l then l else lessT l n ++ n :: l.drop (lessT l n).length
theorem lessT_at {l : List Nat} {n i : Nat} (hi : i ≤ l.length) (h : ∀ q ∈ l.take i, q < n) (he : i < l.length → ∃ y, l[i]? = some y ∧ ¬ y < n) : lessT l n = l.take i := by
  have e : l = l.take i ++ l.drop i := (List.take_append_drop i l).symm
  unfold lessT
  conv => lhs; rw [e]
  rw [List.takeWhile_append_of_pos (fun q hq => decide_eq_true (h q hq))]
  rcases Nat.lt_or_ge i l.length with q | q
  · obtain ⟨y, hy, hn⟩ := he q
    rw [List.drop_eq_getElem_cons q, (List.getElem?_eq_some_iff.1 hy).2, List.takeWhile_cons_of_neg (by simpa using hn), List.append_nil]
  · rw [List.drop_of_length_le q]
    simp
theorem rput_c (w : World) (A : Option Addr) (l : List Nat) (c n : Nat) (hn : l.length ≤ 3000000) (hm : Mem w [irowF A l c]) :
    Con Tryz.prog n_ostiaryref28_put #[.slice A l.length c, .int .i64 (n : Int)] w [irowF A l c] fun v Fs => ∃ A' c', v = .slice A' (putL l n).length c' ∧ Fs = [irowF A' (putL l n) c'] := by
  have g := good_ostiaryref28_put w (Un [irowF A l c])
  have hml := maxLen_eq
  have hr0 : Rd 1 A l.length (ints l) w := row_rd (hm.fact (irowF A l c) (by simp))
  have hcap : l.length ≤ c := row_cap (hm.fact (irowF A l c) (by simp))
  have hs0 : Sat (cx_ostiaryref28_put w (Un [irowF A l c])) Va.z 0 [] [irowF A l c] w := hm.sat0 rfl (fun f hf _ k hk => ⟨f, hf, hk⟩)
  refine con_of_sx (cx := cx_ostiaryref28_put w (Un [irowF A l c])) g b_ostiaryref28_put rfl rfl (β := Va.z) [.c (.v (.slice A l.length c)), .c (.v (.int .i64 (n : Int)))] 0 [] _ rfl rfl hs0 ?_
  refine call_pu (fun β w' hs => rIn_c w' A l c n (row_rd (hs.get 0 rfl)) (by omega)) ?_
  refine BIf.dec (fun hin => ?_) (fun hno => ?_)
  · intro β w' hs
    have e : putL l n = l := by unfold putL; rw [if_pos hin]
    rw [e]
    exact hs.fin [0] ⟨A, c, rfl, rfl⟩
  · have e : putL l n = lessT l n ++ n :: l.drop (lessT l n).length := by unfold putL; rw [if_neg hno]
    rw [e]
    refine loop_rule (ι := Nat) 0 (fun j => [(0, .c (.v (.slice A l.length c))), (1, .c (.v (.int .i64 (n : Int)))), (5, .c (.v (.int .i64 (j : Int))))]) (fun _ => []) (fun _ => [irowF A l c])
      (fun j => j ≤ l.length ∧ ∀ q ∈ l.take j, q < n) (fun j => l.length - j) (0 : Nat) ⟨Nat.zero_le _, by simp⟩ (Ent.mk' ⟨rfl, rfl, rfl, trivial⟩ rfl (fun β w' hs => hs)) g ?_
    rintro j ⟨hj, hlo⟩
    refine BIf.dec (fun hlt => ?_) (fun hge => ?_)
    · have hlt0 : (j : Int) < (l.length : Int) := hlt
      obtain ⟨y, hy, hym⟩ := at_lt (show j < l.length by omega)
      obtain ⟨ad, hA, _⟩ := hr0.2 (by omega)
      refine ⟨ad, j, hA, rfl, by omega, ?_⟩
      refine ⟨.int .i64 (y : Int), fun β w' hs => Rd.cell1 (show Rd 1 (some ad) l.length (ints l) w' from hA ▸ row_rd (hs.get 0 rfl)) (by simp [ints, hy]), ?_⟩
      refine BIf.dec (fun he => ?_) (fun hne => ?_)
      · have he0 : y < n := Int.ofNat_lt.1 he
        refine ⟨((j + 1 : Nat) : Int), by rw [wrap_i64 (by omega) (by omega)]; rfl, ?_⟩
        refine ⟨j + 1, ⟨by omega, fun q hq => ?_⟩, by omega, Ent.mk' ⟨rfl, rfl, rfl, trivial⟩ rfl (fun β w' hs => hs)⟩
        rw [List.take_add_one, hy] at hq
        rcases List.mem_append.1 hq with hq | hq
        · exact hlo q hq
        · obtain rfl := List.mem_singleton.1 hq
          exact he0
      · have hne0 : ¬ y < n := fun q => hne (Int.ofNat_lt.2 q)
        rw [lessT_at hj hlo (fun _ => ⟨y, hy, hne0⟩)]
        obtain ⟨r, hr⟩ : ∃ r, r = l.take j ++ n :: l.drop (l.take j).length := ⟨_, rfl⟩
        have hjl : (l.take j).length = j := by rw [List.length_take]; omega
        rw [← hr]
        rw [hjl] at hr
        have hrl : r.length = l.length + 1 := by rw [hr, List.length_append, List.length_take, List.length_cons, List.length_drop]; omega
        have hA1 : ∀ w', (irowF A l c).p w' → Rd 1 A j ((ints l).take j) w' := fun w' h => Rd.take (row_rd h) (by omega)
        have hA2 : ∀ w', (irowF A l c).p w' → Rd 1 (cutA A c j 1) (l.length - j) ((ints l).drop j) w' := fun w' h => by
          have h2 := Rd.cutN (row_rd h) hcap (show j ≤ l.length by omega) (Nat.le_refl _)
          rw [Nat.mul_one, Nat.mul_one, List.take_of_length_le (by rw [List.length_drop]; simp [ints])] at h2
          exact h2
        refine draw_rule g p_ostiaryref28_put_6 (by kernel_rfl) [] [] (Sub.of (List.Sublist.refl _) (List.nil_sublist _)) ?_
        refine ⟨c, j, 0, j, c, A, rfl, rfl, rfl, by omega, by omega, Nat.zero_le _, rfl, rfl, cutA_zero', ?_⟩
        refine ⟨c, l.length, j, l.length - j, c - j, _, rfl, rfl, rfl, Nat.le_refl _, hcap, by omega, rfl, rfl, rfl, ?_⟩
        refine ⟨?_, ?_⟩
        · intro b0
          refine ⟨subPerm [], ?_⟩
          refine ⟨?_, ?_⟩
          · refine ⟨0, 0, j, [], (ints l).take j, (ints l).take j, rfl, fun β w' hs => hA1 w' (hs.get 1 rfl), fun u hu => ints_one l u (List.mem_of_mem_take hu), Nat.zero_add _, rfl, by rw [hml]; omega, by show j * 8 ≤ _; omega, ?_⟩
            intro A1 c1 p1 _ _
            refine ⟨subPerm [], ?_⟩
            intro b1
            refine ⟨subPerm [], ?_⟩
            refine ⟨1, j, j + 1, (ints l).take j, [.int .i64 (n : Int)], (ints l).take j ++ [.int .i64 (n : Int)], rfl, fun β w' hs => row_rd (hs.get 0 rfl), (fun u hu => by obtain rfl := List.mem_singleton.1 hu; rfl), rfl, rfl, by rw [hml]; omega, by show (j + 1) * 8 ≤ _; omega, ?_⟩
            intro A2 c2 p2 _ _
            refine ⟨subPerm [], ?_⟩
            refine ⟨1, j + 1, r.length, (ints l).take j ++ [.int .i64 (n : Int)], (ints l).drop j, ints r, rfl, fun β w' hs => hA2 w' (hs.get 2 rfl), fun u hu => ints_one l u (List.mem_of_mem_drop hu), by omega, by rw [hr]; simp [ints], by rw [hml]; omega, by show r.length * 8 ≤ _; omega, ?_⟩
            intro A3 c3 p3 _ _
            refine ⟨subPerm [], ?_⟩
            intro β w' hs
            exact hs.fin [1] ⟨A3, c3, rfl, rfl⟩
          · intro b1
            refine ⟨subPerm [], ?_⟩
            refine ⟨1, 0, j, [], (ints l).take j, (ints l).take j, rfl, fun β w' hs => hA1 w' (hs.get 2 rfl), fun u hu => ints_one l u (List.mem_of_mem_take hu), Nat.zero_add _, rfl, by rw [hml]; omega, by show j * 8 ≤ _; omega, ?_⟩
            intro A1 c1 p1 _ _
            refine ⟨subPerm [], ?_⟩
            refine ⟨1, j, j + 1, (ints l).take j, [.int .i64 (n : Int)], (ints l).take j ++ [.int .i64 (n : Int)], rfl, fun β w' hs => row_rd (hs.get 0 rfl), (fun u hu => by obtain rfl := List.mem_singleton.1 hu; rfl), rfl, rfl, by rw [hml]; omega, by show (j + 1) * 8 ≤ _; omega, ?_⟩
            intro A2 c2 p2 _ _
            refine ⟨subPerm [], ?_⟩
            refine ⟨1, j + 1, r.length, (ints l).take j ++ [.int .i64 (n : Int)], (ints l).drop j, ints r, rfl, fun β w' hs => hA2 w' (hs.get 2 rfl), fun u hu => ints_one l u (List.mem_of_mem_drop hu), by omega, by rw [hr]; simp [ints], by rw [hml]; omega, by show r.length * 8 ≤ _; omega, ?_⟩
            intro A3 c3 p3 _ _
            refine ⟨subPerm [], ?_⟩
            intro β w' hs
            exact hs.fin [1] ⟨A3, c3, rfl, rfl⟩
        · intro b1
          refine ⟨subPerm [], ?_⟩
          intro b0
          refine ⟨subPerm [], ?_⟩
          refine ⟨0, 0, j, [], (ints l).take j, (ints l).take j, rfl, fun β w' hs => hA1 w' (hs.get 2 rfl), fun u hu => ints_one l u (List.mem_of_mem_take hu), Nat.zero_add _, rfl, by rw [hml]; omega, by show j * 8 ≤ _; omega, ?_⟩
          intro A1 c1 p1 _ _
          refine ⟨subPerm [], ?_⟩
          refine ⟨0, j, j + 1, (ints l).take j, [.int .i64 (n : Int)], (ints l).take j ++ [.int .i64 (n : Int)], rfl, fun β w' hs => row_rd (hs.get 1 rfl), (fun u hu => by obtain rfl := List.mem_singleton.1 hu; rfl), rfl, rfl, by rw [hml]; omega, by show (j + 1) * 8 ≤ _; omega, ?_⟩
          intro A2 c2 p2 _ _
          refine ⟨subPerm [], ?_⟩
          refine ⟨0, j + 1, r.length, (ints l).take j ++ [.int .i64 (n : Int)], (ints l).drop j, ints r, rfl, fun β w' hs => hA2 w' (hs.get 2 rfl), fun u hu => ints_one l u (List.mem_of_mem_drop hu), by omega, by rw [hr]; simp [ints], by rw [hml]; omega, by show r.length * 8 ≤ _; omega, ?_⟩
          intro A3 c3 p3 _ _
          refine ⟨subPerm [], ?_⟩
          intro β w' hs
          exact hs.fin [0] ⟨A3, c3, rfl, rfl⟩
    · have hge0 : ¬ (j : Int) < (l.length : Int) := hge
      rw [lessT_at hj hlo (fun q => absurd q (by omega))]
      obtain ⟨r, hr⟩ : ∃ r, r = l.take j ++ n :: l.drop (l.take j).length := ⟨_, rfl⟩
      have hjl : (l.take j).length = j := by rw [List.length_take]; omega
      rw [← hr]
      rw [hjl] at hr
      have hrl : r.length = l.length + 1 := by rw [hr, List.length_append, List.length_take, List.length_cons, List.length_drop]; omega
      have hA1 : ∀ w', (irowF A l c).p w' → Rd 1 A j ((ints l).take j) w' := fun w' h => Rd.take (row_rd h) (by omega)
      have hA2 : ∀ w', (irowF A l c).p w' → Rd 1 (cutA A c j 1) (l.length - j) ((ints l).drop j) w' := fun w' h => by
        have h2 := Rd.cutN (row_rd h) hcap (show j ≤ l.length by omega) (Nat.le_refl _)
        rw [Nat.mul_one, Nat.mul_one, List.take_of_length_le (by rw [List.length_drop]; simp [ints])] at h2
        exact h2
      refine draw_rule g p_ostiaryref28_put_6 (by kernel_rfl) [] [] (Sub.of (List.Sublist.refl _) (List.nil_sublist _)) ?_
      refine ⟨c, j, 0, j, c, A, rfl, rfl, rfl, by omega, by omega, Nat.zero_le _, rfl, rfl, cutA_zero', ?_⟩
      refine ⟨c, l.length, j, l.length - j, c - j, _, rfl, rfl, rfl, Nat.le_refl _, hcap, by omega, rfl, rfl, rfl, ?_⟩
      refine ⟨?_, ?_⟩
      · intro b0
        refine ⟨subPerm [], ?_⟩
        refine ⟨?_, ?_⟩
        · refine ⟨0, 0, j, [], (ints l).take j, (ints l).take j, rfl, fun β w' hs => hA1 w' (hs.get 1 rfl), fun u hu => ints_one l u (List.mem_of_mem_take hu), Nat.zero_add _, rfl, by rw [hml]; omega, by show j * 8 ≤ _; omega, ?_⟩
          intro A1 c1 p1 _ _
          refine ⟨subPerm [], ?_⟩
          intro b1
          refine ⟨subPerm [], ?_⟩
          refine ⟨1, j, j + 1, (ints l).take j, [.int .i64 (n : Int)], (ints l).take j ++ [.int .i64 (n : Int)], rfl, fun β w' hs => row_rd (hs.get 0 rfl), (fun u hu => by obtain rfl := List.mem_singleton.1 hu; rfl), rfl, rfl, by rw [hml]; omega, by show (j + 1) * 8 ≤ _; omega, ?_⟩
          intro A2 c2 p2 _ _
          refine ⟨subPerm [], ?_⟩
          refine ⟨1, j + 1, r.length, (ints l).take j ++ [.int .i64 (n : Int)], (ints l).drop j, ints r, rfl, fun β w' hs => hA2 w' (hs.get 2 rfl), fun u hu => ints_one l u (List.mem_of_mem_drop hu), by omega, by rw [hr]; simp [ints], by rw [hml]; omega, by show r.length * 8 ≤ _; omega, ?_⟩
          intro A3 c3 p3 _ _
          refine ⟨subPerm [], ?_⟩
          intro β w' hs
          exact hs.fin [1] ⟨A3, c3, rfl, rfl⟩
        · intro b1
          refine ⟨subPerm [], ?_⟩
          refine ⟨1, 0, j, [], (ints l).take j, (ints l).take j, rfl, fun β w' hs => hA1 w' (hs.get 2 rfl), fun u hu => ints_one l u (List.mem_of_mem_take hu), Nat.zero_add _, rfl, by rw [hml]; omega, by show j * 8 ≤ _; omega, ?_⟩
          intro A1 c1 p1 _ _
          refine ⟨subPerm [], ?_⟩
          refine ⟨1, j, j + 1, (ints l).take j, [.int .i64 (n : Int)], (ints l).take j ++ [.int .i64 (n : Int)], rfl, fun β w' hs => row_rd (hs.get 0 rfl), (fun u hu => by obtain rfl := List.mem_singleton.1 hu; rfl), rfl, rfl, by rw [hml]; omega, by show (j + 1) * 8 ≤ _; omega, ?_⟩
          intro A2 c2 p2 _ _
          refine ⟨subPerm [], ?_⟩
          refine ⟨1, j + 1, r.length, (ints l).take j ++ [.int .i64 (n : Int)], (ints l).drop j, ints r, rfl, fun β w' hs => hA2 w' (hs.get 2 rfl), fun u hu => ints_one l u (List.mem_of_mem_drop hu), by omega, by rw [hr]; simp [ints], by rw [hml]; omega, by show r.length * 8 ≤ _; omega, ?_⟩
          intro A3 c3 p3 _ _
          refine ⟨subPerm [], ?_⟩
          intro β w' hs
          exact hs.fin [1] ⟨A3, c3, rfl, rfl⟩
      · intro b1
        refine ⟨subPerm [], ?_⟩
        intro b0
        refine ⟨subPerm [], ?_⟩
        refine ⟨0, 0, j, [], (ints l).take j, (ints l).take j, rfl, fun β w' hs => hA1 w' (hs.get 2 rfl), fun u hu => ints_one l u (List.mem_of_mem_take hu), Nat.zero_add _, rfl, by rw [hml]; omega, by show j * 8 ≤ _; omega, ?_⟩
        intro A1 c1 p1 _ _
        refine ⟨subPerm [], ?_⟩
        refine ⟨0, j, j + 1, (ints l).take j, [.int .i64 (n : Int)], (ints l).take j ++ [.int .i64 (n : Int)], rfl, fun β w' hs => row_rd (hs.get 1 rfl), (fun u hu => by obtain rfl := List.mem_singleton.1 hu; rfl), rfl, rfl, by rw [hml]; omega, by show (j + 1) * 8 ≤ _; omega, ?_⟩
        intro A2 c2 p2 _ _
        refine ⟨subPerm [], ?_⟩
        refine ⟨0, j + 1, r.length, (ints l).take j ++ [.int .i64 (n : Int)], (ints l).drop j, ints r, rfl, fun β w' hs => hA2 w' (hs.get 2 rfl), fun u hu => ints_one l u (List.mem_of_mem_drop hu), by omega, by rw [hr]; simp [ints], by rw [hml]; omega, by show r.length * 8 ≤ _; omega, ?_⟩
        intro A3 c3 p3 _ _
        refine ⟨subPerm [], ?_⟩
        intro β w' hs
        exact hs.fin [0] ⟨A3, c3, rfl, rfl⟩
end Go.Proofs.YtoifclfanabalaaGreatDoor.Sx

/- The document's finds, put into a list. -/
namespace Go.Proofs.YtoifclfanabalaaGreatDoor.Sx
open Go
attribute [local irreducible] Calls

theorem putL_len (l : List Nat) (n : Nat) : (putL l n).length ≤ l.length + 1 := by
  unfold putL
  split
  · omega
  · rw [List.length_append, List.length_cons, List.length_drop]
    have : (lessT l n).length ≤ l.length := (List.takeWhile_prefix _).length_le
    omega
theorem putsL_len : ∀ (ns l : List Nat), (ns.foldl putL l).length ≤ l.length + ns.length
  | [], l => Nat.le_refl _
  | n :: r, l => by
    have h1 := putsL_len r (putL l n)
    have h2 := putL_len l n
    rw [List.foldl_cons, List.length_cons]
    omega
theorem rfinds28_c (w : World) (A P : Option Addr) (l : List Nat) (p : List UInt8) (c cp : Nat) (hl : p.length ≤ 1000000) (hc : p.length ≤ cp) (hn : l.length ≤ 1900000) (hm : Mem w [irowF A l c, bsF P p]) :
    Con Tryz.prog n_ostiaryref28_finds #[.slice A l.length c, .slice P p.length cp] w [irowF A l c] fun v Fs => ∃ A' c', v = .slice A' ((numsL p).foldl putL l).length c' ∧ Fs = [irowF A' ((numsL p).foldl putL l) c'] := by
  have g := good_ostiaryref28_finds w (Un [irowF A l c])
  have hml := maxLen_eq
  have hs0 : Sat (cx_ostiaryref28_finds w (Un [irowF A l c])) Va.z 0 [] [irowF A l c, bsF P p] w := hm.sat0 rfl (fun f hf ho k hk => by
    simp only [List.mem_cons, List.not_mem_nil, or_false] at hf
    rcases hf with rfl | rfl
    · exact ⟨_, List.mem_singleton.2 rfl, hk⟩
    · cases ho)
  refine con_of_tri (cx := cx_ostiaryref28_finds w (Un [irowF A l c])) g b_ostiaryref28_finds rfl rfl (β := Va.z) [.c (.v (.slice A l.length c)), .c (.v (.slice P p.length cp))] 0 [] _ rfl rfl hs0 ?_
  refine tri_seq g ?_
  refine tri_seq g ?_
  refine call_con [] (fun β w' hs => rfinds_c w' P p cp (hs.get 1 rfl) hl hc) ?_
  rintro v Fs ⟨A1, c1, rfl, hc1, rfl⟩
  obtain ⟨fs, hfs⟩ : ∃ fs, scan p 0 = fs := ⟨_, rfl⟩
  have hfl : fs.length ≤ 1000000 := by
    have := numsL_len p
    unfold numsL at this
    rw [List.length_map, hfs] at this
    omega
  have hnums : numsL p = fs.map (·.2) := by unfold numsL; rw [hfs]
  rw [hnums]
  rw [hfs] at hc1 ⊢
  refine tri_know (p := 0 < fs.length → ∃ ad, A1 = some ad) (fun β w' hs h => by
    obtain ⟨ad, q, _⟩ := (row_rd (show (fndF A1 fs c1).p w' from hs.get 0 rfl)).2 (by omega)
    exact ⟨ad, q⟩) ?_
  intro hA1
  refine loop_rule (ι := Nat × Option Addr × Nat × List Nat) 0 (fun j => [(0, .c (.v (.slice j.2.1 j.2.2.2.length j.2.2.1))), (8, .c (.v (.slice A1 fs.length c1))), (9, .c (.v (.int .i64 (fs.length : Int)))), (10, .c (.v (.int .i64 (j.1 : Int))))]) (fun _ => []) (fun j => [fndF A1 fs c1, irowF j.2.1 j.2.2.2 j.2.2.1])
    (fun j => j.1 ≤ fs.length ∧ j.2.2.2 = ((fs.take j.1).map (·.2)).foldl putL l) (fun j => fs.length - j.1) (0, A, c, l) ⟨Nat.zero_le _, rfl⟩ (Ent.mk' ⟨rfl, rfl, rfl, rfl, trivial⟩ rfl (fun β w' hs => hs.perm [0, 1])) g ?_
  rintro ⟨i, B, d, m⟩ ⟨hi, hm2⟩
  simp only at hi hm2
  have hml2 : m.length ≤ l.length + i := by
    have := putsL_len ((fs.take i).map (·.2)) l
    rw [← hm2, List.length_map, List.length_take] at this
    omega
  refine BIf.dec (fun hlt => ?_) (fun hge => ?_)
  · have hlt0 : (i : Int) < (fs.length : Int) := hlt
    obtain ⟨q, hq, -⟩ := at_lt (show i < fs.length by omega)
    obtain ⟨ad, hAd⟩ := hA1 (by omega)
    refine ⟨ad, i, hAd, rfl, by omega, findV q, rfl, fun β w' hs => ?_, ?_⟩
    · have h2 := Rd.elem (f := findV) (fun _ => rfl) (row_rd (show (fndF A1 fs c1).p w' from hs.get 0 rfl)) hAd (show i < fs.length by omega)
      rw [(List.getElem?_eq_some_iff.1 hq).2] at h2
      exact h2
    refine call_con [1] (fun β w' hs => rput_c w' B m d q.2 (by omega) (hs.mem.take (js := [1]) rfl)) ?_
    rintro v Fs ⟨B2, d2, rfl, rfl⟩
    refine ⟨(((i + 1) : Nat) : Int), by rw [wrap_i64 (by omega) (by omega)]; rfl, ?_⟩
    exact ⟨(i + 1, B2, d2, putL m q.2), ⟨by show i + 1 ≤ _; omega, by show putL m q.2 = ((fs.take (i + 1)).map (·.2)).foldl putL l; rw [List.take_add_one, hq, List.map_append, List.foldl_append, ← hm2]; rfl⟩, by show fs.length - (i + 1) < fs.length - i; omega, Ent.mk' ⟨rfl, rfl, rfl, rfl, trivial⟩ rfl (fun β w' hs => ((hs.keepB (List.nil_sublist _)).perm [1, 0]).lower)⟩
  · have hge0 : ¬ (i : Int) < (fs.length : Int) := hge
    rw [List.take_of_length_le (by omega)] at hm2
    rw [← hm2]
    refine tri_of g ?_
    intro β w' hs
    exact hs.fin [1] ⟨B, d, rfl, rfl⟩
end Go.Proofs.YtoifclfanabalaaGreatDoor.Sx

/- Rows of texts. -/
namespace Go.Proofs.YtoifclfanabalaaGreatDoor.Sx
open Go
attribute [local irreducible] Calls

def strs (l : List ByteArray) : List Value := l.map Value.string
theorem strs_one (l : List ByteArray) : ∀ u ∈ strs l, u.oneCell' = true := by
  intro u hu
  obtain ⟨x, _, rfl⟩ := List.mem_map.1 hu
  rfl
abbrev srowF (A : Option Addr) (l : List ByteArray) (c : Nat) : Fact := rowF ty_string 1 (.slice A l.length c) l.length (strs l)
end Go.Proofs.YtoifclfanabalaaGreatDoor.Sx

/- The document's runs. -/
namespace Go.Proofs.YtoifclfanabalaaGreatDoor.Sx
open Go
attribute [local irreducible] Calls

theorem runC_iff (c : UInt8) : runC c = true ↔ (97 ≤ c.toNat ∧ c.toNat ≤ 122) ∨ (65 ≤ c.toNat ∧ c.toNat ≤ 90) ∨ (48 ≤ c.toNat ∧ c.toNat ≤ 57) ∨ c.toNat = 43 ∨ c.toNat = 47 ∨ c.toNat = 45 ∨ c.toNat = 95 := by
  have key : ∀ n : _root_.Fin 256, (runC (UInt8.ofNat n.1) = true ↔ (97 ≤ n.1 ∧ n.1 ≤ 122) ∨ (65 ≤ n.1 ∧ n.1 ≤ 90) ∨ (48 ≤ n.1 ∧ n.1 ≤ 57) ∨ n.1 = 43 ∨ n.1 = 47 ∨ n.1 = 45 ∨ n.1 = 95) := by decide +kernel
  have h := key ⟨c.toNat, c.toNat_lt⟩
  simpa using h
theorem rrun_c (w : World) (c : UInt8) : Pu Tryz.prog n_ostiaryref28_run #[byte c] w (.bool (runC c)) := by
  have g := good_ostiaryref28_run w (Un [])
  refine con_of_sx (cx := cx_ostiaryref28_run w (Un [])) g b_ostiaryref28_run rfl rfl (β := Va.z) [.c (.v (byte c))] 0 [] [] rfl rfl (Sat.start rfl) ?_
  obtain ⟨n, hn⟩ : ∃ n : Int, (c.toNat : Int) = n := ⟨_, rfl⟩
  have hb : byte c = .int .u8 n := by rw [← hn]; rfl
  rw [hb]
  have hT : (97 ≤ n ∧ n ≤ 122) ∨ (65 ≤ n ∧ n ≤ 90) ∨ (48 ≤ n ∧ n ≤ 57) ∨ n = 43 ∨ n = 47 ∨ n = 45 ∨ n = 95 → runC c = true := fun h => (runC_iff c).2 (by omega)
  have hF : ¬ ((97 ≤ n ∧ n ≤ 122) ∨ (65 ≤ n ∧ n ≤ 90) ∨ (48 ≤ n ∧ n ≤ 57) ∨ n = 43 ∨ n = 47 ∨ n = 45 ∨ n = 95) → runC c = false := fun h => Bool.eq_false_iff.2 fun q => h (by have := (runC_iff c).1 q; omega)
  clear hn
  repeat' refine BIf.dec (fun h => ?_) (fun h => ?_)
  all_goals
    intro β w' hs
    refine hs.fin [] ⟨?_, rfl⟩
    first
    | (show Value.bool (decide (n = 95)) = _
       by_cases q : n = 95
       · rw [hT (by omega), decide_eq_true q]
       · rw [hF (by omega), decide_eq_false q])
    | (rw [hT (by omega)]; rfl)
    | (rw [hF (by omega)]; rfl)
theorem runsF_cons_in {s : List UInt8} {c : UInt8} {r : List UInt8} (h : runC c = true) : runsF s (c :: r) = runsF (s ++ [c]) r := by rw [runsF, if_pos h]
theorem runsF_cons_out {s : List UInt8} {c : UInt8} {r : List UInt8} (h : runC c = false) : runsF s (c :: r) = (if s = [] then [] else [s]) ++ runsF [] r := by
  rw [runsF, if_neg (by rw [h]; decide)]
  split <;> rfl
theorem mkS_cat (a b : List UInt8) : mkS a ++ mkS b = mkS (a ++ b) := by
  apply ByteArray.ext
  simp [mkS]
theorem mkS_nil_iff (a : List UInt8) : mkS a = ByteArray.empty ↔ a = [] := by
  constructor
  · intro h
    have := congrArg ByteArray.size h
    rw [mkS_sz] at this
    exact List.length_eq_zero_iff.1 this
  · rintro rfl; rfl
theorem runsF_num : ∀ (t s : List UInt8), (runsF s t).length ≤ t.length + 1
  | [], s => by
    rw [runsF]
    split <;> simp
  | x :: r, s => by
    rw [runsF]
    split
    · have := runsF_num r (s ++ [x])
      rw [List.length_cons]; omega
    · split
      · have := runsF_num r []
        rw [List.length_cons]; omega
      · have := runsF_num r []
        rw [List.length_cons, List.length_cons]; omega
theorem rRuns_c (w : World) (A : Option Addr) (t : List UInt8) (c : Nat) (hl : t.length ≤ 1000000) (hm : Mem w [bsF A t]) :
    Con Tryz.prog n_ostiaryref28_Runs #[.slice A t.length c] w [] fun v Fs => ∃ A' c', v = .slice A' ((runsA t).map mkS).length c' ∧ ((runsA t).map mkS).length ≤ c' ∧ Fs = [srowF A' ((runsA t).map mkS) c'] := by
  have g := good_ostiaryref28_Runs w (Un [])
  have hml := maxLen_eq
  have hs0 : Sat (cx_ostiaryref28_Runs w (Un [])) Va.z 0 [] [bsF A t] w := hm.sat0 rfl (fun f hf ho k hk => by obtain rfl := List.mem_singleton.1 hf; cases ho)
  refine con_of_sx (cx := cx_ostiaryref28_Runs w (Un [])) g b_ostiaryref28_Runs rfl rfl (β := Va.z) [.c (.v (.slice A t.length c))] 0 [] _ rfl rfl hs0 ?_
  obtain ⟨L, hL⟩ : ∃ L, (runsA t).map mkS = L := ⟨_, rfl⟩
  have hLl : L.length ≤ t.length + 1 := by rw [← hL, List.length_map]; exact runsF_num t []
  rw [hL]
  refine loop_rule (ι := Nat × List UInt8 × Option Addr × Nat × List ByteArray) 0 (fun j => [(3, .c (.v (.slice j.2.2.1 j.2.2.2.2.length j.2.2.2.1))), (4, .c (.v (.string (mkS j.2.1)))), (7, .c (.v (.slice A t.length c))), (8, .c (.v (.int .i64 (t.length : Int)))), (9, .c (.v (.int .i64 (j.1 : Int))))]) (fun _ => []) (fun j => [srowF j.2.2.1 j.2.2.2.2 j.2.2.2.1, bsF A t])
    (fun j => j.1 ≤ t.length ∧ L = j.2.2.2.2 ++ (runsF j.2.1 (t.drop j.1)).map mkS ∧ j.2.1.length ≤ j.1) (fun j => t.length - j.1) (0, [], none, 0, []) ⟨Nat.zero_le _, hL.symm, Nat.le_refl _⟩ (Ent.mk' ⟨rfl, rfl, rfl, rfl, rfl, trivial⟩ rfl (fun β w' hs => hs.nilRow ty_string 1)) g ?_
  rintro ⟨i, s, B, d, out⟩ ⟨hi, hLo, hsl⟩
  simp only at hi hLo hsl
  refine BIf.dec (fun hlt => ?_) (fun hge => ?_)
  · have hlt0 : (i : Int) < (t.length : Int) := hlt
    obtain ⟨x, hx, -⟩ := at_lt (show i < t.length by omega)
    obtain ⟨ad, hA⟩ := Bs.addr (show Bs w A t from hm.fact (bsF A t) (by simp)) (by omega)
    have hdr : t.drop i = x :: t.drop (i + 1) := by rw [List.drop_eq_getElem_cons (show i < t.length by omega), (List.getElem?_eq_some_iff.1 hx).2]
    rw [hdr] at hLo
    refine ⟨ad, i, hA, rfl, by omega, ?_⟩
    refine ⟨byte x, fun β w' hs => Rd.cell1 (show Rd 1 (some ad) t.length (t.map byte) w' from hA ▸ hs.get 1 rfl) (by rw [List.getElem?_map, hx]; rfl), ?_⟩
    refine call_pu (fun β w' hs => rrun_c w' x) ?_
    cases hr : runC x with
    | true =>
      rw [runsF_cons_in hr] at hLo
      intro b1
      refine ⟨[x], fun β w' hs => row_rd (hs.get 0 rfl), ?_⟩
      refine ⟨by rw [mkS_sz, hml]; show s.length + 1 ≤ _; omega, ?_⟩
      have e1 : mkS s ++ (⟨#[x]⟩ : ByteArray) = mkS (s ++ [x]) := mkS_cat s [x]
      refine ⟨(((i + 1) : Nat) : Int), by rw [wrap_i64 (by omega) (by omega)]; rfl, ?_⟩
      exact ⟨(i + 1, s ++ [x], B, d, out), ⟨by show i + 1 ≤ _; omega, hLo, by show (s ++ [x]).length ≤ i + 1; rw [List.length_append]; show s.length + 1 ≤ _; omega⟩, by show t.length - (i + 1) < t.length - i; omega, Ent.mk' ⟨rfl, by rw [← e1]; rfl, rfl, rfl, rfl, trivial⟩ rfl (fun β w' hs => hs.perm [1, 2])⟩
    | false =>
      rw [runsF_cons_out hr, List.map_append, ← List.append_assoc] at hLo
      refine BIf.not (BIf.dec (fun he => ?_) (fun hne => ?_))
      · have hs0 : s = [] := (mkS_nil_iff s).1 he
        rw [if_pos hs0, List.map_nil, List.append_nil] at hLo
        refine ⟨(((i + 1) : Nat) : Int), by rw [wrap_i64 (by omega) (by omega)]; rfl, ?_⟩
        exact ⟨(i + 1, [], B, d, out), ⟨by show i + 1 ≤ _; omega, hLo, Nat.zero_le _⟩, by show t.length - (i + 1) < t.length - i; omega, Ent.mk' ⟨rfl, rfl, rfl, rfl, rfl, trivial⟩ rfl (fun β w' hs => hs)⟩
      · have hs0 : ¬ s = [] := fun q => hne ((mkS_nil_iff s).2 q)
        rw [if_neg hs0] at hLo
        intro b1
        obtain ⟨out2, hout2⟩ : ∃ out2, out2 = out ++ [mkS s] := ⟨_, rfl⟩
        have hol2 : out.length + 1 = out2.length := by rw [hout2, List.length_append]; rfl
        have hoL : out2.length ≤ L.length := by rw [hLo, hout2]; simp
        refine ⟨1, out.length, out2.length, strs out, strs [mkS s], strs out2, rfl, fun β w' hs => row_rd (hs.get 0 rfl), strs_one _, hol2, by rw [hout2]; simp [strs], by rw [hml]; omega, by show out2.length * 16 ≤ _; omega, ?_⟩
        intro B2 d2 r1 r2 r3
        refine ⟨(((i + 1) : Nat) : Int), by rw [wrap_i64 (by omega) (by omega)]; rfl, ?_⟩
        exact ⟨(i + 1, [], B2, d2, out2), ⟨by show i + 1 ≤ _; omega, by rw [hout2]; exact hLo, Nat.zero_le _⟩, by show t.length - (i + 1) < t.length - i; omega, Ent.mk' ⟨rfl, rfl, rfl, rfl, rfl, trivial⟩ rfl (fun β w' hs => hs.perm [1, 2])⟩
  · have hge0 : ¬ (i : Int) < (t.length : Int) := hge
    rw [List.drop_of_length_le (by omega), runsF] at hLo
    refine BIf.not (BIf.dec (fun he => ?_) (fun hne => ?_))
    · have hs0 : s = [] := (mkS_nil_iff s).1 he
      rw [if_pos hs0, List.map_nil, List.append_nil] at hLo
      rw [hLo]
      intro β w' hs
      exact hs.fin [0] ⟨B, d, rfl, row_cap (hs.get 0 rfl), rfl⟩
    · have hs0 : ¬ s = [] := fun q => hne ((mkS_nil_iff s).2 q)
      rw [if_neg hs0] at hLo
      intro b1
      obtain ⟨out2, hout2⟩ : ∃ out2, out2 = out ++ [mkS s] := ⟨_, rfl⟩
      have hol2 : out.length + 1 = out2.length := by rw [hout2, List.length_append]; rfl
      have hoL : out2.length ≤ L.length := by rw [hLo, hout2]; simp
      refine ⟨1, out.length, out2.length, strs out, strs [mkS s], strs out2, rfl, fun β w' hs => row_rd (hs.get 0 rfl), strs_one _, hol2, by rw [hout2]; simp [strs], by rw [hml]; omega, by show out2.length * 16 ≤ _; omega, ?_⟩
      intro B2 d2 r1 r2 r3
      rw [show L = out2 by rw [hLo, hout2]; rfl]
      intro β w' hs
      exact hs.fin [1] ⟨B2, d2, rfl, row_cap (hs.get 1 rfl), rfl⟩
end Go.Proofs.YtoifclfanabalaaGreatDoor.Sx

/- The document's Found. -/
namespace Go.Proofs.YtoifclfanabalaaGreatDoor.Sx
open Go
attribute [local irreducible] Calls

theorem eqs_snoc (m : Nat) : eqs m ++ [61] = eqs (m + 1) := by
  unfold eqs
  rw [List.replicate_succ']
theorem eqs_len (m : Nat) : (eqs m).length = m := by simp [eqs]
theorem Con.weak {P : Program} {k : FuncId} {args : Array Value} {w : World} {Gs Gs' : List Fact} {R : Value → List Fact → Prop} (h : Con P k args w Gs R) (hs : ∀ i, Un Gs i → Un Gs' i) : Con P k args w Gs' R :=
  Calls.mono h fun _ _ ⟨v, he, Fs, h1, h2, h3, h4, h5⟩ => ⟨v, he, Fs, h1, h2.mono fun i _ q => hs i q, h3, h4, fun f hf k hk => (h5 f hf k hk).imp (hs k) id⟩
theorem rfinds0_c (w : World) (P : Option Addr) (p : List UInt8) (cp : Nat) (hl : p.length ≤ 1000000) (hc : p.length ≤ cp) (hp : Bs w P p) :
    Con Tryz.prog n_ostiaryref28_finds #[.slice none 0 0, .slice P p.length cp] w [] fun v Fs => ∃ A' c', v = .slice A' ((numsL p).foldl putL []).length c' ∧ Fs = [irowF A' ((numsL p).foldl putL []) c'] := by
  have h := rfinds28_c w none P [] p 0 cp hl hc (by decide) (((Sat.start (cx := cx_ostiaryref28_finds w (Un [])) (β := Va.z) (n := 0) rfl).rd (fun _ h => by cases h) hp).nilRow ty_int 1).mem
  exact Con.weak h (fun k hk => by
    obtain ⟨f, hf, hk⟩ := hk
    obtain rfl := List.mem_singleton.1 hf
    cases hk)
theorem rFound_c (w : World) (A : Option Addr) (t : List UInt8) (c : Nat) (hl : t.length ≤ 70000) (hc : t.length ≤ c) (hm : Mem w [bsF A t]) :
    Con Tryz.prog n_ostiaryref28_Found #[.slice A t.length c] w [] fun v Fs => ∃ A' c', v = .slice A' ((foundL t).foldl putL []).length c' ∧ Fs = [irowF A' ((foundL t).foldl putL []) c'] := by
  have g := good_ostiaryref28_Found w (Un [])
  have hml := maxLen_eq
  have hs0 : Sat (cx_ostiaryref28_Found w (Un [])) Va.z 0 [] [bsF A t] w := hm.sat0 rfl (fun f hf ho k hk => by obtain rfl := List.mem_singleton.1 hf; cases ho)
  refine con_of_sx (cx := cx_ostiaryref28_Found w (Un [])) g b_ostiaryref28_Found rfl rfl (β := Va.z) [.c (.v (.slice A t.length c))] 0 [] _ rfl rfl hs0 ?_
  refine call_con [] (fun β w' hs => rfinds0_c w' A t c (by omega) hc (hs.get 0 rfl)) ?_
  rintro v Fs ⟨B, d, rfl, rfl⟩
  refine call_con [] (fun β w' hs => rRuns_c w' A t c (by omega) (hs.mem.take (js := [1]) rfl)) ?_
  rintro v Fs ⟨S, sc, rfl, _, rfl⟩
  obtain ⟨R, hR⟩ : ∃ R, runsA t = R := ⟨_, rfl⟩
  have hFL : foundL t = numsL t ++ R.flatMap fun s => (readL s).flatMap numsL := by unfold foundL; rw [hR]
  have hFl := foundL_len t
  have hRl : ∀ s ∈ R, s.length ≤ t.length := fun s h => runsA_len (by rw [hR]; exact h)
  have hRn : R.length ≤ t.length + 1 := by rw [← hR]; exact runsF_num t []
  rw [hR]
  refine tri_know (p := 0 < R.length → ∃ ad, S = some ad) (fun β w' hs h => by
    obtain ⟨ad, q, _⟩ := (row_rd (show (srowF S (R.map mkS) sc).p w' from hs.get 0 rfl)).2 (by rw [List.length_map]; omega)
    exact ⟨ad, q⟩) ?_
  intro hSad
  have hRm : (R.map mkS).length = R.length := List.length_map ..
  refine loop_rule (ι := Nat × Option Addr × Nat × List Nat) 0 (fun j => [(3, .c (.v (.slice j.2.1 j.2.2.2.length j.2.2.1))), (16, .c (.v (.slice S (R.map mkS).length sc))), (17, .c (.v (.int .i64 ((R.map mkS).length : Int)))), (18, .c (.v (.int .i64 (j.1 : Int))))]) (fun _ => []) (fun j => [irowF j.2.1 j.2.2.2 j.2.2.1, srowF S (R.map mkS) sc])
    (fun j => j.1 ≤ R.length ∧ j.2.2.2 = (numsL t ++ (R.take j.1).flatMap fun s => (readL s).flatMap numsL).foldl putL []) (fun j => R.length - j.1) (0, B, d, (numsL t).foldl putL []) ⟨Nat.zero_le _, by simp⟩ (Ent.mk' ⟨rfl, rfl, rfl, rfl, trivial⟩ rfl (fun β w' hs => hs.perm [1, 0])) g ?_
  rintro ⟨i, B, d, l⟩ ⟨hi, hle⟩
  simp only at hi hle
  have hll : l.length ≤ 13 * t.length + 9 := by
    have h1 := putsL_len (numsL t ++ (R.take i).flatMap fun s => (readL s).flatMap numsL) []
    rw [← hle] at h1
    have h2 : (numsL t ++ (R.take i).flatMap fun s => (readL s).flatMap numsL).length ≤ (foundL t).length := by
      rw [hFL]
      conv => rhs; rw [← List.take_append_drop i R, List.flatMap_append, ← List.append_assoc, List.length_append]
      omega
    simp only [List.length_nil] at h1
    omega
  refine BIf.dec (fun hlt => ?_) (fun hge => ?_)
  · have hlt0 : (i : Int) < ((R.map mkS).length : Int) := hlt
    rw [hRm] at hlt0
    obtain ⟨s, hs, hsm⟩ := at_lt (show i < R.length by omega)
    obtain ⟨ad, hSA⟩ := hSad (by omega)
    have hsl := hRl s hsm
    have hnext : ∀ l' : List Nat, l' = ((readL s).flatMap numsL).foldl putL l → l' = (numsL t ++ (R.take (i + 1)).flatMap fun s => (readL s).flatMap numsL).foldl putL [] := fun l' h => by
      rw [h, hle, List.take_add_one, hs, List.flatMap_append, ← List.append_assoc, List.foldl_append]
      simp
    refine ⟨ad, i, hSA, rfl, by omega, ?_⟩
    refine ⟨.string (mkS s), fun β w' hs2 => Rd.cell1 (show Rd 1 (some ad) (R.map mkS).length (strs (R.map mkS)) w' from hSA ▸ row_rd (hs2.get 1 rfl)) (by unfold strs; rw [List.getElem?_map, List.getElem?_map, hs]; rfl), ?_⟩
    refine loop_rule (ι := Nat) 0 (fun j => [(3, .c (.v (.slice B l.length d))), (5, .c (.v (.string (mkS s)))), (6, .c (.v (.string (mkS (s ++ eqs j))))), (16, .c (.v (.slice S (R.map mkS).length sc))), (17, .c (.v (.int .i64 ((R.map mkS).length : Int)))), (18, .c (.v (.int .i64 (i : Int))))]) (fun _ => []) (fun _ => [irowF B l d, srowF S (R.map mkS) sc])
      (fun j => j ≤ (4 - s.length % 4) % 4) (fun j => 4 - j) (0 : Nat) (Nat.zero_le _) (Ent.mk' ⟨rfl, rfl, by simp only [eqs, List.replicate_zero, List.append_nil]; rfl, rfl, rfl, rfl, trivial⟩ rfl (fun β w' hs => hs)) g ?_
    intro m hm4
    have hfz : (mkS (s ++ eqs m)).size = s.length + m := by rw [mkS_sz, List.length_append, eqs_len]
    refine ⟨by first | decide | omega, ?_⟩
    refine ⟨(((mkS (s ++ eqs m)).size % 4 : Nat) : Int), Int.ofNat_tmod _ _, ?_⟩
    refine BIf.not (BIf.dec (fun h4 => ?_) (fun h4 => ?_))
    · have h40 : (((mkS (s ++ eqs m)).size % 4 : Nat) : Int) = 0 := h4
      have hme : m = (4 - s.length % 4) % 4 := by omega
      have hrd : readL s = (decP (s ++ eqs m)).toList ++ ((decU s).toList ++ (unhexA s).toList) := by unfold readL; rw [hme]
      have hmemL : ∀ q, q ∈ readL s → q.length ≤ s.length + 3 := fun q h => readL_len h
      refine call_con [] (R := decOutP (decP (s ++ eqs m))) (fun β w' hs => rDecode_c w' (s ++ eqs m) false (by rw [List.length_append, eqs_len]; omega)) ?_
      rintro v Fs ⟨Q0, q0, cq0, e0, rfl, hle0, hcq0, rfl⟩
      rcases hle0 with ⟨rfl, ho0⟩ | ⟨hne0, ho0⟩
      · have hq0 : q0.length ≤ s.length + 3 := hmemL q0 (by rw [hrd]; simp [ho0])
        have hn0 := numsL_len q0
        refine call_con [1] (fun β w' hs => rfinds28_c w' B Q0 l q0 d cq0 (by omega) hcq0 (by omega) ((hs.rdRow 0 rfl).mem.take (js := [1, 0]) rfl)) ?_
        rintro v Fs ⟨B0, d0, rfl, rfl⟩
        have hb0 := putsL_len (numsL q0) l
        obtain ⟨l0, hl0⟩ : ∃ l0, (numsL q0).foldl putL l = l0 := ⟨_, rfl⟩
        rw [hl0] at hb0 ⊢
        refine call_con [] (R := decOutP (decU s)) (fun β w' hs => rDecode_c w' s true (by omega)) ?_
        rintro v Fs ⟨Q1, q1, cq1, e1, rfl, hle1, hcq1, rfl⟩
        rcases hle1 with ⟨rfl, ho1⟩ | ⟨hne1, ho1⟩
        · have hq1 : q1.length ≤ s.length + 3 := hmemL q1 (by rw [hrd]; simp [ho1])
          have hn1 := numsL_len q1
          refine call_con [1] (fun β w' hs => rfinds28_c w' B0 Q1 l0 q1 d0 cq1 (by omega) hcq1 (by omega) ((hs.rdRow 0 rfl).mem.take (js := [1, 0]) rfl)) ?_
          rintro v Fs ⟨B1, d1, rfl, rfl⟩
          have hb1 := putsL_len (numsL q1) l0
          obtain ⟨l1, hl1⟩ : ∃ l1, (numsL q1).foldl putL l0 = l1 := ⟨_, rfl⟩
          rw [hl1] at hb1 ⊢
          refine call_con [] (R := decOutP (unhexA s)) (fun β w' hs => rUnhex_c w' s (by omega)) ?_
          rintro v Fs ⟨Q2, q2, cq2, e2, rfl, hle2, hcq2, rfl⟩
          rcases hle2 with ⟨rfl, ho2⟩ | ⟨hne2, ho2⟩
          · have hq2 : q2.length ≤ s.length + 3 := hmemL q2 (by rw [hrd]; simp [ho2])
            have hn2 := numsL_len q2
            refine call_con [1] (fun β w' hs => rfinds28_c w' B1 Q2 l1 q2 d1 cq2 (by omega) hcq2 (by omega) ((hs.rdRow 0 rfl).mem.take (js := [1, 0]) rfl)) ?_
            rintro v Fs ⟨B2, d2, rfl, rfl⟩
            have hb2 := putsL_len (numsL q2) l1
            obtain ⟨l2, hl2⟩ : ∃ l2, (numsL q2).foldl putL l1 = l2 := ⟨_, rfl⟩
            rw [hl2] at hb2 ⊢
            refine ⟨(((i + 1) : Nat) : Int), by rw [wrap_i64 (by omega) (by omega)]; rfl, ?_⟩
            have hfin : (readL s).flatMap numsL = numsL q0 ++ numsL q1 ++ numsL q2 := by rw [hrd]; simp [ho0, ho1, ho2]
            exact ⟨(i + 1, B2, d2, l2), ⟨by show i + 1 ≤ R.length; omega, hnext _ (by rw [hfin]; simp [List.foldl_append, ← hl0, ← hl1, ← hl2])⟩, by show R.length - (i + 1) < R.length - i; omega, Ent.mk' ⟨rfl, rfl, rfl, rfl, trivial⟩ rfl (fun β w' hs => hs.perm [0, 4])⟩
          · refine BIf.dec (fun h => absurd h (show ¬ (e2 = 0) by omega)) (fun _ => ?_)
            refine ⟨(((i + 1) : Nat) : Int), by rw [wrap_i64 (by omega) (by omega)]; rfl, ?_⟩
            have hfin : (readL s).flatMap numsL = numsL q0 ++ numsL q1 := by rw [hrd]; simp [ho0, ho1, ho2]
            exact ⟨(i + 1, B1, d1, l1), ⟨by show i + 1 ≤ R.length; omega, hnext _ (by rw [hfin]; simp [List.foldl_append, ← hl0, ← hl1])⟩, by show R.length - (i + 1) < R.length - i; omega, Ent.mk' ⟨rfl, rfl, rfl, rfl, trivial⟩ rfl (fun β w' hs => hs.perm [1, 4])⟩
        · refine BIf.dec (fun h => absurd h (show ¬ (e1 = 0) by omega)) (fun _ => ?_)
          refine call_con [] (R := decOutP (unhexA s)) (fun β w' hs => rUnhex_c w' s (by omega)) ?_
          rintro v Fs ⟨Q2, q2, cq2, e2, rfl, hle2, hcq2, rfl⟩
          rcases hle2 with ⟨rfl, ho2⟩ | ⟨hne2, ho2⟩
          · have hq2 : q2.length ≤ s.length + 3 := hmemL q2 (by rw [hrd]; simp [ho2])
            have hn2 := numsL_len q2
            refine call_con [2] (fun β w' hs => rfinds28_c w' B0 Q2 l0 q2 d0 cq2 (by omega) hcq2 (by omega) ((hs.rdRow 0 rfl).mem.take (js := [2, 0]) rfl)) ?_
            rintro v Fs ⟨B2, d2, rfl, rfl⟩
            have hb2 := putsL_len (numsL q2) l0
            obtain ⟨l2, hl2⟩ : ∃ l2, (numsL q2).foldl putL l0 = l2 := ⟨_, rfl⟩
            rw [hl2] at hb2 ⊢
            refine ⟨(((i + 1) : Nat) : Int), by rw [wrap_i64 (by omega) (by omega)]; rfl, ?_⟩
            have hfin : (readL s).flatMap numsL = numsL q0 ++ numsL q2 := by rw [hrd]; simp [ho0, ho1, ho2]
            exact ⟨(i + 1, B2, d2, l2), ⟨by show i + 1 ≤ R.length; omega, hnext _ (by rw [hfin]; simp [List.foldl_append, ← hl0, ← hl2])⟩, by show R.length - (i + 1) < R.length - i; omega, Ent.mk' ⟨rfl, rfl, rfl, rfl, trivial⟩ rfl (fun β w' hs => hs.perm [0, 4])⟩
          · refine BIf.dec (fun h => absurd h (show ¬ (e2 = 0) by omega)) (fun _ => ?_)
            refine ⟨(((i + 1) : Nat) : Int), by rw [wrap_i64 (by omega) (by omega)]; rfl, ?_⟩
            have hfin : (readL s).flatMap numsL = numsL q0 := by rw [hrd]; simp [ho0, ho1, ho2]
            exact ⟨(i + 1, B0, d0, l0), ⟨by show i + 1 ≤ R.length; omega, hnext _ (by rw [hfin]; simp [List.foldl_append, ← hl0])⟩, by show R.length - (i + 1) < R.length - i; omega, Ent.mk' ⟨rfl, rfl, rfl, rfl, trivial⟩ rfl (fun β w' hs => hs.perm [2, 4])⟩
      · refine BIf.dec (fun h => absurd h (show ¬ (e0 = 0) by omega)) (fun _ => ?_)
        refine call_con [] (R := decOutP (decU s)) (fun β w' hs => rDecode_c w' s true (by omega)) ?_
        rintro v Fs ⟨Q1, q1, cq1, e1, rfl, hle1, hcq1, rfl⟩
        rcases hle1 with ⟨rfl, ho1⟩ | ⟨hne1, ho1⟩
        · have hq1 : q1.length ≤ s.length + 3 := hmemL q1 (by rw [hrd]; simp [ho1])
          have hn1 := numsL_len q1
          refine call_con [2] (fun β w' hs => rfinds28_c w' B Q1 l q1 d cq1 (by omega) hcq1 (by omega) ((hs.rdRow 0 rfl).mem.take (js := [2, 0]) rfl)) ?_
          rintro v Fs ⟨B1, d1, rfl, rfl⟩
          have hb1 := putsL_len (numsL q1) l
          obtain ⟨l1, hl1⟩ : ∃ l1, (numsL q1).foldl putL l = l1 := ⟨_, rfl⟩
          rw [hl1] at hb1 ⊢
          refine call_con [] (R := decOutP (unhexA s)) (fun β w' hs => rUnhex_c w' s (by omega)) ?_
          rintro v Fs ⟨Q2, q2, cq2, e2, rfl, hle2, hcq2, rfl⟩
          rcases hle2 with ⟨rfl, ho2⟩ | ⟨hne2, ho2⟩
          · have hq2 : q2.length ≤ s.length + 3 := hmemL q2 (by rw [hrd]; simp [ho2])
            have hn2 := numsL_len q2
            refine call_con [1] (fun β w' hs => rfinds28_c w' B1 Q2 l1 q2 d1 cq2 (by omega) hcq2 (by omega) ((hs.rdRow 0 rfl).mem.take (js := [1, 0]) rfl)) ?_
            rintro v Fs ⟨B2, d2, rfl, rfl⟩
            have hb2 := putsL_len (numsL q2) l1
            obtain ⟨l2, hl2⟩ : ∃ l2, (numsL q2).foldl putL l1 = l2 := ⟨_, rfl⟩
            rw [hl2] at hb2 ⊢
            refine ⟨(((i + 1) : Nat) : Int), by rw [wrap_i64 (by omega) (by omega)]; rfl, ?_⟩
            have hfin : (readL s).flatMap numsL = numsL q1 ++ numsL q2 := by rw [hrd]; simp [ho0, ho1, ho2]
            exact ⟨(i + 1, B2, d2, l2), ⟨by show i + 1 ≤ R.length; omega, hnext _ (by rw [hfin]; simp [List.foldl_append, ← hl1, ← hl2])⟩, by show R.length - (i + 1) < R.length - i; omega, Ent.mk' ⟨rfl, rfl, rfl, rfl, trivial⟩ rfl (fun β w' hs => hs.perm [0, 4])⟩
          · refine BIf.dec (fun h => absurd h (show ¬ (e2 = 0) by omega)) (fun _ => ?_)
            refine ⟨(((i + 1) : Nat) : Int), by rw [wrap_i64 (by omega) (by omega)]; rfl, ?_⟩
            have hfin : (readL s).flatMap numsL = numsL q1 := by rw [hrd]; simp [ho0, ho1, ho2]
            exact ⟨(i + 1, B1, d1, l1), ⟨by show i + 1 ≤ R.length; omega, hnext _ (by rw [hfin]; simp [List.foldl_append, ← hl1])⟩, by show R.length - (i + 1) < R.length - i; omega, Ent.mk' ⟨rfl, rfl, rfl, rfl, trivial⟩ rfl (fun β w' hs => hs.perm [1, 4])⟩
        · refine BIf.dec (fun h => absurd h (show ¬ (e1 = 0) by omega)) (fun _ => ?_)
          refine call_con [] (R := decOutP (unhexA s)) (fun β w' hs => rUnhex_c w' s (by omega)) ?_
          rintro v Fs ⟨Q2, q2, cq2, e2, rfl, hle2, hcq2, rfl⟩
          rcases hle2 with ⟨rfl, ho2⟩ | ⟨hne2, ho2⟩
          · have hq2 : q2.length ≤ s.length + 3 := hmemL q2 (by rw [hrd]; simp [ho2])
            have hn2 := numsL_len q2
            refine call_con [3] (fun β w' hs => rfinds28_c w' B Q2 l q2 d cq2 (by omega) hcq2 (by omega) ((hs.rdRow 0 rfl).mem.take (js := [3, 0]) rfl)) ?_
            rintro v Fs ⟨B2, d2, rfl, rfl⟩
            have hb2 := putsL_len (numsL q2) l
            obtain ⟨l2, hl2⟩ : ∃ l2, (numsL q2).foldl putL l = l2 := ⟨_, rfl⟩
            rw [hl2] at hb2 ⊢
            refine ⟨(((i + 1) : Nat) : Int), by rw [wrap_i64 (by omega) (by omega)]; rfl, ?_⟩
            have hfin : (readL s).flatMap numsL = numsL q2 := by rw [hrd]; simp [ho0, ho1, ho2]
            exact ⟨(i + 1, B2, d2, l2), ⟨by show i + 1 ≤ R.length; omega, hnext _ (by rw [hfin]; simp [List.foldl_append, ← hl2])⟩, by show R.length - (i + 1) < R.length - i; omega, Ent.mk' ⟨rfl, rfl, rfl, rfl, trivial⟩ rfl (fun β w' hs => hs.perm [0, 4])⟩
          · refine BIf.dec (fun h => absurd h (show ¬ (e2 = 0) by omega)) (fun _ => ?_)
            refine ⟨(((i + 1) : Nat) : Int), by rw [wrap_i64 (by omega) (by omega)]; rfl, ?_⟩
            have hfin : (readL s).flatMap numsL = [] := by rw [hrd]; simp [ho0, ho1, ho2]
            exact ⟨(i + 1, B, d, l), ⟨by show i + 1 ≤ R.length; omega, hnext _ (by rw [hfin]; simp [List.foldl_append])⟩, by show R.length - (i + 1) < R.length - i; omega, Ent.mk' ⟨rfl, rfl, rfl, rfl, trivial⟩ rfl (fun β w' hs => hs.perm [3, 4])⟩
    · have h40 : ¬ (((mkS (s ++ eqs m)).size % 4 : Nat) : Int) = 0 := h4
      refine ⟨by rw [hfz, hml]; show s.length + m + 1 ≤ _; omega, ?_⟩
      have e1 : mkS (s ++ eqs m) ++ (⟨#[61]⟩ : ByteArray) = mkS (s ++ eqs (m + 1)) := by
        rw [← eqs_snoc, ← List.append_assoc]
        exact mkS_cat (s ++ eqs m) [61]
      exact ⟨m + 1, by omega, by omega, Ent.mk' ⟨rfl, rfl, by rw [← e1]; rfl, rfl, rfl, rfl, trivial⟩ rfl (fun β w' hs => hs)⟩
  · have hge0 : ¬ (i : Int) < ((R.map mkS).length : Int) := hge
    rw [List.take_of_length_le (by omega), ← hFL] at hle
    rw [← hle]
    intro β w' hs
    exact hs.fin [0] ⟨B, d, rfl, rfl⟩
end Go.Proofs.YtoifclfanabalaaGreatDoor.Sx

/- The document's list of what is found is the program's. -/
namespace Go.Proofs.YtoifclfanabalaaGreatDoor.Sx
open Go
attribute [local irreducible] Calls

theorem drop_less : ∀ (l : List Nat) (n : Nat), l.drop (lessT l n).length = l.dropWhile fun x => decide (x < n)
  | [], _ => rfl
  | x :: r, n => by
    have ih := drop_less r n
    unfold lessT at ih ⊢
    by_cases h : x < n
    · rw [List.takeWhile_cons_of_pos (by simpa using h), List.dropWhile_cons_of_pos (by simpa using h), List.length_cons, List.drop_succ_cons]
      exact ih
    · rw [List.takeWhile_cons_of_neg (by simpa using h), List.dropWhile_cons_of_neg (by simpa using h)]
      rfl
theorem lessT_split (l : List Nat) (n : Nat) : l = lessT l n ++ l.drop (lessT l n).length := by
  rw [drop_less]
  exact (List.takeWhile_append_dropWhile ..).symm
theorem putL_mem {l : List Nat} {n m : Nat} : m ∈ putL l n ↔ m ∈ l ∨ m = n := by
  unfold putL
  split
  · rename_i h
    exact ⟨.inl, fun q => q.elim id (fun e => e ▸ h)⟩
  · conv => rhs; rw [lessT_split l n]
    rw [List.mem_append, List.mem_append, List.mem_cons]
    constructor
    · rintro (h | h | h)
      · exact .inl (.inl h)
      · exact .inr h
      · exact .inl (.inr h)
    · rintro ((h | h) | h)
      · exact .inl h
      · exact .inr (.inr h)
      · exact .inr (.inl h)
theorem putsL_mem : ∀ {ns l : List Nat} {m : Nat}, m ∈ ns.foldl putL l ↔ m ∈ l ∨ m ∈ ns
  | [], l, m => by simp
  | n :: r, l, m => by
    rw [List.foldl_cons, putsL_mem, putL_mem, List.mem_cons, or_assoc]
theorem putL_rise {l : List Nat} {n : Nat} (h : l.Pairwise (· < ·)) : (putL l n).Pairwise (· < ·) := by
  unfold putL
  split
  · exact h
  · rename_i hno
    have hs := lessT_split l n
    have hlt : ∀ x ∈ lessT l n, x < n := fun x hx => by
      have := List.all_eq_true.1 (List.all_takeWhile (p := fun x => decide (x < n)) (l := l)) x hx
      simpa using this
    have hp := h
    rw [hs] at hp
    obtain ⟨h1, h2, h3⟩ := List.pairwise_append.1 hp
    refine List.pairwise_append.2 ⟨h1, List.pairwise_cons.2 ⟨fun y hy => ?_, h2⟩, fun x hx y hy => ?_⟩
    · -- what stands behind is greater
      have hge : ∀ z, (l.drop (lessT l n).length).head? = some z → ¬ z < n := fun z hz q => by
        rw [drop_less] at hz
        have := List.head?_dropWhile_not (fun x => decide (x < n)) l
        rw [hz] at this
        simp at this
        omega
      have hy' : y ≠ n := fun q => hno (by have h9 := List.mem_of_mem_drop hy; rwa [q] at h9)
      cases hd : l.drop (lessT l n).length with
      | nil => rw [hd] at hy; cases hy
      | cons z r =>
        have hz := hge z (by rw [hd]; rfl)
        rw [hd] at hy h2
        have hz' : z ≠ n := fun q => hno (by have h9 : z ∈ l := List.mem_of_mem_drop (by rw [hd]; exact List.mem_cons_self); rwa [q] at h9)
        rcases List.mem_cons.1 hy with rfl | hy
        · omega
        · have := (List.pairwise_cons.1 h2).1 y hy
          omega
    · rcases List.mem_cons.1 hy with rfl | hy
      · exact hlt x hx
      · exact h3 x hx y hy
theorem putsL_rise : ∀ {ns l : List Nat}, l.Pairwise (· < ·) → (ns.foldl putL l).Pairwise (· < ·)
  | [], _, h => h
  | n :: r, l, h => putsL_rise (ns := r) (putL_rise h)
theorem setPut_nodup {l : List Nat} {n : Nat} (h : l.Nodup) : (setPut l n).Nodup := by
  unfold setPut
  split
  · exact h
  · rename_i hn
    exact List.nodup_append.2 ⟨h, List.nodup_cons.2 ⟨fun q => (by cases q), List.nodup_nil⟩, fun a ha b hb q => by
      obtain rfl := List.mem_singleton.1 hb
      exact hn (q ▸ ha)⟩
theorem setPuts_nodup : ∀ {ns l : List Nat}, l.Nodup → (ns.foldl setPut l).Nodup
  | [], _, h => h
  | n :: r, l, h => setPuts_nodup (ns := r) (setPut_nodup h)
theorem foundS_rise (t : List UInt8) : (foundS t).Pairwise (· < ·) := by
  have hn : ((foundL t).foldl setPut []).Nodup := setPuts_nodup List.nodup_nil
  unfold foundS sortN
  have h1 := List.pairwise_mergeSort (le := fun x y => decide (x ≤ y)) (fun a b c p q => by simp only [decide_eq_true_eq] at *; omega) (fun a b => by simp only [Bool.or_eq_true, decide_eq_true_eq]; omega) ((foundL t).foldl setPut [])
  have h2 : (((foundL t).foldl setPut []).mergeSort (fun x y => decide (x ≤ y))).Nodup := (List.mergeSort_perm _ _).nodup_iff.2 hn
  refine (h1.and h2).imp fun {a b} q => ?_
  have := of_decide_eq_true q.1
  have := q.2
  omega
theorem puts_found (t : List UInt8) : (foundL t).foldl putL [] = foundS t := by
  refine List.Perm.eq_of_pairwise (le := fun a b => a < b) (fun a b _ _ p q => absurd p (by omega)) (putsL_rise List.Pairwise.nil) (foundS_rise t) ?_
  refine (List.perm_ext_iff_of_nodup ((putsL_rise List.Pairwise.nil).imp fun h => Nat.ne_of_lt h) ((foundS_rise t).imp fun h => Nat.ne_of_lt h)).2 fun m => ?_
  rw [putsL_mem, mem_foundS]
  simp
end Go.Proofs.YtoifclfanabalaaGreatDoor.Sx

/- Same, as a value. -/
namespace Go.Proofs.YtoifclfanabalaaGreatDoor.Sx
open Go
attribute [local irreducible] Calls

theorem sameB_c (w : World) (A B : Option Addr) (l m : List UInt8) (c d : Nat) (h1 : Bs w A l) (h2 : Bs w B m) : Pu Tryz.prog n_ostiaryref01_Same #[.slice A l.length c, .slice B m.length d] w (.bool (decide (l = m))) := pu_of (same_c w A B l m c d h1 h2)
end Go.Proofs.YtoifclfanabalaaGreatDoor.Sx

/- KnowsKeys. -/
namespace Go.Proofs.YtoifclfanabalaaGreatDoor.Sx
open Go
attribute [local irreducible] Calls

structure KkP where
  P : Option Addr
  ps : List Part
  c : Nat
def KkP.Ok (j : KkP) (sec : Bool) (key : List UInt8) : Prop := j.ps.map (·.2.1) = (if sec then [key] else []) ∧ (∀ q ∈ j.ps, q.2.1.length ≤ 1000 ∧ q.2.1.length ≤ q.2.2) ∧ j.ps.length ≤ 1
structure KkJ where
  i : Nat
  B : Bx.Box
  y : Lay
  seen : List Nat
structure KkJ.Ok (j : KkJ) (key one : List UInt8) : Prop where
  inv : BInv j.B
  sym : j.B.sym = true
  len : j.B.L.length ≤ min j.i 8
  lay : j.y.ts.map (·.1) = j.B.L
  all : ∀ t ∈ j.B.L, ∃ u, t = macT key u ∧ u.length ≤ 20 ∧ u ≠ one
  see : ∀ s ∈ j.seen, s ≤ j.B.L.length
theorem knowsKeys_c (w : World) (A0 A2 T : Option Addr) (p0 p2 : List UInt8) (ts : List Part) (c0 c2 cT : Nat) (sec : Bool) (h0 : p0.length ≤ c0) (h2 : p2.length ≤ c2) (hts : ∀ q ∈ ts, q.2.1.length ≤ q.2.2) (htn : ts.length ≤ 9223372036854775807) (hm : Mem w [bsF A0 p0, partF T ts, bsF A2 p2, mlF, oddF 2, firstF 0]) :
    Con Tryz.prog n_ostiarylaw28_KnowsKeys #[.slice A0 p0.length c0, .slice T ts.length cT, .slice A2 p2.length c2, .bool sec] w [] fun v Fs => v = .bool true ∧ Fs = [] := by
  have g := good_ostiarylaw28_KnowsKeys w (Un [])
  have hml := maxLen_eq
  have hs0 : Sat (cx_ostiarylaw28_KnowsKeys w (Un [])) Va.z 0 [] [bsF A0 p0, partF T ts, bsF A2 p2, mlF, oddF 2, firstF 0] w := hm.sat0 rfl (fun f hf ho k hk => by
    simp only [List.mem_cons, List.not_mem_nil, or_false] at hf
    rcases hf with rfl | rfl | rfl | rfl | rfl | rfl <;> cases ho)
  refine con_of_tri (cx := cx_ostiarylaw28_KnowsKeys w (Un [])) g b_ostiarylaw28_KnowsKeys rfl rfl (β := Va.z) [.c (.v (.slice A0 p0.length c0)), .c (.v (.slice T ts.length cT)), .c (.v (.slice A2 p2.length c2)), .c (.v (.bool sec))] 0 [] _ rfl rfl hs0 ?_
  refine tri_seq g ?_
  refine tri_seq g ?_
  refine call_con [] (fun β w' hs => awake28_c w' (hs.mem.take (js := [3, 4, 5]) rfl)) ?_
  rintro v Fs ⟨rfl, rfl⟩
  refine tri_seq g ?_
  refine call_con [] (fun β w' hs => cutC w' A0 p0 c0 20 (hs.get 0 rfl) h0 (by decide)) ?_
  rintro v Fs ⟨B1, d1, rfl, q1, _, rfl⟩
  have hk1 : (p0.take 20).length ≤ 20 := by rw [List.length_take]; omega
  generalize p0.take 20 = k0 at q1 hk1 ⊢
  intro b1
  obtain ⟨key, hkey⟩ : ∃ key, key = k0 ++ [107] := ⟨_, rfl⟩
  have hkl : k0.length + 1 = key.length := by rw [hkey, List.length_append]; rfl
  refine ⟨1, k0.length, key.length, k0.map byte, [(107 : UInt8)].map byte, key.map byte, rfl, fun β w' hs => row_rd (hs.get 0 rfl), bytes_one _, hkl, by rw [hkey, List.map_append], by rw [hml]; omega, by show key.length * 1 ≤ _; omega, ?_⟩
  intro B2 d2 r1 r2 r3
  refine call_con [] (fun β w' hs => cutC w' A2 p2 c2 20 (hs.get 4 rfl) h2 (by decide)) ?_
  rintro v Fs ⟨B3, d3, rfl, q3, _, rfl⟩
  have ho1 : (p2.take 20).length ≤ 20 := by rw [List.length_take]; omega
  generalize p2.take 20 = one at q3 ho1 ⊢
  refine tri_seq g ?_
  refine call_con [] (fun β w' hs => newX_c w' true) ?_
  rintro v Fs ⟨b, y0, rfl, hy0, rfl⟩
  refine tri_seq g ?_
  refine tri_seq g ?_
  apply tri_share (cx := cx_ostiarylaw28_KnowsKeys w (Un [])) (ι := KkP) (fun j => j.Ok sec key) 0 (fun j => [(0, .c (.v (.slice B2 key.length d2))), (1, .c (.v (.slice T ts.length cT))), (2, .c (.v (.slice B3 one.length d3))), (3, .c (.v (.bool sec))), (9, .c (.v (ptrB b))), (10, .c (.v (.slice j.P j.ps.length j.c)))]) (fun _ => []) (fun j => [partF j.P j.ps, bsF B2 key, bsF B3 one, bxF b ⟨true, false, []⟩ y0, partF T ts, mlF, oddF 2, firstF 0])
  · intro hkey2
    refine BIf.mk (fun hsec => ?_) (fun hsec => ?_)
    · intro b4
      refine tri_join (ι := KkP) (fun j => j.Ok sec key) 0 (fun j => [(0, .c (.v (.slice B2 key.length d2))), (1, .c (.v (.slice T ts.length cT))), (2, .c (.v (.slice B3 one.length d3))), (3, .c (.v (.bool sec))), (9, .c (.v (ptrB b))), (10, .c (.v (.slice j.P j.ps.length j.c)))]) (fun _ => []) (fun j => [partF j.P j.ps, bsF B2 key, bsF B3 one, bxF b ⟨true, false, []⟩ y0, partF T ts, mlF, oddF 2, firstF 0]) hkey2 (EntX.of ⟨some ⟨b4, 0, none⟩, [(B2, key, d2)], 1⟩ ⟨by rw [hsec]; rfl, fun q hq => by obtain rfl := List.mem_singleton.1 hq; exact ⟨by show key.length ≤ 1000; omega, r1⟩, Nat.le_refl _⟩ (Ent.mk' ⟨rfl, rfl, rfl, rfl, rfl, rfl, trivial⟩ rfl (fun β w' hs => ((((hs.rowRd 0 rfl).ro 4 rfl).ro 2 rfl).part1 (l := key) [0, 4] rfl).perm [0, 5, 3, 2, 7, 9, 10, 11])))
    · refine tri_join (ι := KkP) (fun j => j.Ok sec key) 0 (fun j => [(0, .c (.v (.slice B2 key.length d2))), (1, .c (.v (.slice T ts.length cT))), (2, .c (.v (.slice B3 one.length d3))), (3, .c (.v (.bool sec))), (9, .c (.v (ptrB b))), (10, .c (.v (.slice j.P j.ps.length j.c)))]) (fun _ => []) (fun j => [partF j.P j.ps, bsF B2 key, bsF B3 one, bxF b ⟨true, false, []⟩ y0, partF T ts, mlF, oddF 2, firstF 0]) hkey2 (EntX.of ⟨none, [], 0⟩ ⟨by rw [hsec]; rfl, fun q hq => (by cases hq), Nat.zero_le _⟩ (Ent.mk' ⟨rfl, rfl, rfl, rfl, rfl, rfl, trivial⟩ rfl (fun β w' hs => (((hs.ro 3 rfl).ro 1 rfl).noMem (partF none []) ⟨⟨rfl, fun h => absurd h (by decide)⟩, fun q hq => (by cases hq)⟩ (fun k hk => by rcases hk with ⟨_, ad, h, _⟩ | ⟨q, hq, _⟩; (cases h); (cases hq))).perm [0, 4, 2, 1, 6, 8, 9, 10])))
  · rintro ⟨P, ps, cP⟩ ⟨hps, hpq, hpl⟩
    simp only at hps hpq hpl
    refine tri_seq g ?_
    refine call_con [3] (R := fun v Fs => ∃ x : Md, v = .tuple #[.pointer (some ⟨x.b, 0, none⟩), .int .i64 0] ∧ x.bx = b ∧ x.ss = ps.map (·.2.1) ∧ x.seen = [] ∧ Fs = mdFs x ++ [bxF b ⟨true, false, []⟩ y0]) (fun β w' hs => knowsNew_c w' b ⟨true, false, []⟩ y0 P ps cP rfl (by omega) hpq (hs.mem.take (js := [3, 0]) rfl)) ?_
    rintro v Fs ⟨x0, rfl, rfl, hss, hsn, rfl⟩
    have hx0 : x0 = { x0 with seen := [] } := by obtain ⟨a1, a2, a3, a4, a5, a6, a7⟩ := x0; simp only at hsn; rw [hsn]
    have hxps : x0.ps.length ≤ 1000000 := by
      have := congrArg List.length hss
      unfold Md.ss at this
      rw [List.length_map, List.length_map] at this
      omega
    rw [hps] at hss
    have hTad : 0 < ts.length → ∃ ad, T = some ad := fun h => by
      obtain ⟨ad, q, _⟩ := (show (partF T ts).p w from hm.fact (partF T ts) (by simp)).1.2 h
      exact ⟨ad, q⟩
    refine tri_seq g ?_
    refine loop_rule (ι := KkJ) 0 (fun j => [(0, .c (.v (.slice B2 key.length d2))), (2, .c (.v (.slice B3 one.length d3))), (3, .c (.v (.bool sec))), (9, .c (.v (ptrB x0.bx))), (11, .c (.v (.pointer (some ⟨x0.b, 0, none⟩)))), (35, .c (.v (.slice T ts.length cT))), (36, .c (.v (.int .i64 (ts.length : Int)))), (37, .c (.v (.int .i64 (j.i : Int))))]) (fun _ => []) (fun j => mdFs { x0 with seen := j.seen } ++ [bxF x0.bx j.B j.y, bsF B2 key, bsF B3 one, partF T ts, mlF, oddF 2, firstF 0])
      (fun j => j.Ok key one ∧ j.i ≤ ts.length) (fun j => ts.length - j.i) ⟨0, ⟨true, false, []⟩, y0, []⟩ ⟨⟨inv0, rfl, Nat.zero_le _, by rw [hy0]; rfl, fun t h => (by cases h), fun s h => (by cases h)⟩, Nat.zero_le _⟩ (Ent.mk' ⟨rfl, rfl, rfl, rfl, rfl, rfl, rfl, rfl, trivial⟩ rfl (fun β w' hs => by rw [← hx0]; exact hs.perm [0, 1, 2, 3, 5, 6, 7, 8, 9, 10])) g ?_
    rintro ⟨i, B, y, seen⟩ ⟨hok, hi⟩
    simp only at hi
    have hinv := hok.inv
    have hsym := hok.sym
    have hlen := hok.len
    have hlay := hok.lay
    have hall := hok.all
    have hsee := hok.see
    simp only at hinv hsym hlen hlay hall hsee
    refine BIf.dec (fun hlt => ?_) (fun hge => ?_)
    · have hlt0 : (i : Int) < (ts.length : Int) := hlt
      obtain ⟨⟨Q, t, ct⟩, hq, hqm⟩ := at_lt (show i < ts.length by omega)
      have hqc := hts _ hqm
      obtain ⟨ad, hTA⟩ := hTad (by omega)
      refine ⟨ad, i, hTA, rfl, by omega, ?_⟩
      refine ⟨partV (Q, t, ct), fun β w' hs => Rd.cell1 (show Rd 1 (some ad) ts.length (ts.map partV) w' from hTA ▸ (show (partF T ts).p w' from hs.get 6 rfl).1) (by rw [List.getElem?_map, hq]; rfl), ?_⟩
      refine call_con [] (fun β w' hs => cutC w' Q t ct 20 ((show (partF T ts).p w' from hs.get 6 rfl).2 _ hqm) hqc (by decide)) ?_
      rintro v Fs ⟨B5, d5, rfl, q5, _, rfl⟩
      have hu1 : (t.take 20).length ≤ 20 := by rw [List.length_take]; omega
      generalize t.take 20 = u at q5 hu1 ⊢
      have hskip : KkJ.Ok ⟨i + 1, B, y, seen⟩ key one := ⟨hinv, hsym, by show B.L.length ≤ min (i + 1) 8; omega, hlay, hall, hsee⟩
      refine BIf.dec (fun hi8 => ?_) (fun hi8 => ?_)
      · have hi80 : (i : Int) < 8 := hi8
        refine call_pu (fun β w' hs => sameB_c w' B5 B3 u one d5 d3 (row_rd (hs.get 0 rfl)) (hs.get 6 rfl)) ?_
        refine BIf.not (BIf.dec (fun he => ?_) (fun hne => ?_))
        · refine ⟨((i + 1 : Nat) : Int), by rw [wrap_i64 (by omega) (by omega)]; rfl, ?_⟩
          exact ⟨⟨i + 1, B, y, seen⟩, ⟨hskip, by show i + 1 ≤ _; omega⟩, by show ts.length - (i + 1) < ts.length - i; omega, Ent.mk' ⟨rfl, rfl, rfl, rfl, rfl, rfl, rfl, rfl, trivial⟩ rfl (fun β w' hs => hs.perm [1, 2, 3, 4, 5, 6, 7, 8, 9, 10])⟩
        · have hne0 : u ≠ one := hne
          intro b6
          obtain ⟨j, B', e1, hj1, hj2, hinv', hsym', hL', -⟩ := mac_step hinv hsym (by omega) (key := key) (u := u) (by omega) (by omega)
          have hL2 : B'.L.length ≤ B.L.length + 1 ∧ B.L.length ≤ B'.L.length := by
            rcases hL' with h | h
            · rw [h]; omega
            · rw [h, List.length_append]; exact ⟨Nat.le_refl _, Nat.le_succ _⟩
          refine call_con [5] (R := outL (bxF x0.bx) (macB B key u)) (fun β w' hs => by
            have h2 := ((hs.rowRd 0 rfl).ro 1 rfl).part1 (l := u) [0, 1] rfl
            exact macL_c w' x0.bx B y B2 key d2 b6 B5 u d5 hlay hinv (by omega) (by omega) (by omega) (h2.mem.take (js := [6, 0, 7, 11, 12]) rfl)) ?_
          rw [e1]
          rintro v Fs ⟨A7, c7, y', rfl, p7, p8, hy', rfl⟩
          have hh32 := Bx.handle_len j
          simp only at p7 hy'
          refine call_con [4, 5, 6] (R := fun v Fs => v = .tuple #[] ∧ Fs = mdFs { x0 with seen := setPut seen j }) (hown := ⟨rfl, rfl, rfl, trivial⟩) (fun β w' hs => by
            have h3 := See_c w' { x0 with seen := seen } A7 (Bx.handle j) c7 (by omega) p7 ((hs.rdRow 0 rfl).mem.take (js := [4, 5, 6, 0]) rfl)
            rw [foundS_handle (by omega) (by omega)] at h3
            exact h3) ?_
          rintro v Fs ⟨rfl, rfl⟩
          refine ⟨((i + 1 : Nat) : Int), by rw [wrap_i64 (by omega) (by omega)]; rfl, ?_⟩
          refine ⟨⟨i + 1, B', y', setPut seen j⟩, ⟨⟨hinv', hsym', by show B'.L.length ≤ min (i + 1) 8; omega, hy', fun t' ht' => ?_, fun s hs => ?_⟩, by show i + 1 ≤ _; omega⟩, by show ts.length - (i + 1) < ts.length - i; omega, Ent.mk' ⟨rfl, rfl, rfl, rfl, rfl, rfl, rfl, rfl, trivial⟩ rfl (fun β w' hs => hs.perm [0, 1, 2, 4, 7, 8, 9, 10, 11, 12])⟩
          · have ht' : t' ∈ B'.L := ht'
            rcases hL' with h | h
            · rw [h] at ht'
              exact hall t' ht'
            · rw [h] at ht'
              rcases List.mem_append.1 ht' with ht' | ht'
              · exact hall t' ht'
              · obtain rfl := List.mem_singleton.1 ht'
                exact ⟨u, rfl, hu1, hne0⟩
          · show s ≤ B'.L.length
            rcases mem_setPut.1 hs with h | h
            · have := hsee s h
              omega
            · omega
      · refine ⟨((i + 1 : Nat) : Int), by rw [wrap_i64 (by omega) (by omega)]; rfl, ?_⟩
        exact ⟨⟨i + 1, B, y, seen⟩, ⟨hskip, by show i + 1 ≤ _; omega⟩, by show ts.length - (i + 1) < ts.length - i; omega, Ent.mk' ⟨rfl, rfl, rfl, rfl, rfl, rfl, rfl, rfl, trivial⟩ rfl (fun β w' hs => hs.perm [1, 2, 3, 4, 5, 6, 7, 8, 9, 10])⟩
    · have hge0 : ¬ (i : Int) < (ts.length : Int) := hge
      have hno : macT key one ∉ B.L := fun q => by
        obtain ⟨u, he, _, hne⟩ := hall _ q
        injection he with _ _ he
        exact hne he.symm
      obtain ⟨j, B', e1, hj1, hj2, hinv', hsym', -, hL'⟩ := mac_step hinv hsym (by omega) (key := key) (u := one) (by omega) (by omega)
      obtain ⟨hL', hj⟩ := hL' hno
      refine tri_seq g ?_
      intro b6
      refine call_con [4] (R := outL (bxF x0.bx) (macB B key one)) (fun β w' hs => by
        have h2 := (hs.rowRd 0 rfl).part1 (l := one) [0, 6] rfl
        exact macL_c w' x0.bx B y B2 key d2 b6 B3 one d3 hlay hinv (by omega) (by omega) (by omega) (h2.mem.take (js := [5, 0, 6, 10, 11]) rfl)) ?_
      rw [e1]
      rintro v Fs ⟨A7, c7, y', rfl, p7, p8, hy', rfl⟩
      have hh32 := Bx.handle_len j
      simp only at p7 hy'
      refine call_pu (v := .tuple #[.int .i64 (j : Int), .bool true]) (fun β w' hs => by
        have h := number_c w' A7 (Bx.handle j) c7 (row_rd (hs.get 0 rfl)) p7 (by omega)
        rw [number_h (by omega) (by omega)] at h
        exact h) ?_
      refine tri_seq g ?_
      refine call_con [] (fun β w' hs => by
        have h := rFound_c w' B2 key d2 (by omega) r1 (hs.mem.take (js := [6]) rfl)
        rw [puts_found] at h
        exact h) ?_
      rintro v Fs ⟨A8, c8, rfl, rfl⟩
      refine BIf.dec (fun hf1 => ?_) (fun hf1 => ?_)
      · intro β w' hs
        exact hs.fin [] ⟨rfl, rfl⟩
      have hf10 : ¬ (0 : Int) < ((foundS key).length : Int) := hf1
      have hfk : foundS key = [] := List.length_eq_zero_iff.1 (by omega)
      refine call_con [] (fun β w' hs => by
        have h := rFound_c w' B3 one d3 (by omega) q3 (hs.mem.take (js := [8]) rfl)
        rw [puts_found] at h
        exact h) ?_
      rintro v Fs ⟨A9, c9, rfl, rfl⟩
      refine BIf.dec (fun hf2 => ?_) (fun hf2 => ?_)
      · intro β w' hs
        exact hs.fin [] ⟨rfl, rfl⟩
      have hf20 : ¬ (0 : Int) < ((foundS one).length : Int) := hf2
      have hfo : foundS one = [] := List.length_eq_zero_iff.1 (by omega)
      refine tri_of g ?_
      have e4 : ({ x0 with seen := seen } : Md).ss = if sec = true then [key] else [] := hss
      have hB'L : B'.L.length = B.L.length + 1 := by rw [hL', List.length_append]; rfl
      have hkt : ∀ t ∈ B'.L, t.key.length ≤ 70000 ∧ t.text.length ≤ 70000 := fun t' ht' => by
        rw [hL'] at ht'
        rcases List.mem_append.1 ht' with ht' | ht'
        · obtain ⟨u, rfl, hu, _⟩ := hall t' ht'
          exact ⟨by show key.length ≤ _; omega, by show u.length ≤ _; omega⟩
        · obtain rfl := List.mem_singleton.1 ht'
          exact ⟨by show key.length ≤ _; omega, by show one.length ≤ _; omega⟩
      refine call_con [5, 6, 7, 3] (R := fun v Fs => v = .bool (!sec) ∧ Fs = mdFs { x0 with seen := seen } ++ [bxF x0.bx B' y']) (hown := ⟨rfl, rfl, rfl, rfl, trivial⟩) (fun β w' hs => (made_c w' { x0 with seen := seen } B' y' (j : Int) hy' (by omega) hinv'.sz hkt (fun s hs => by
        rw [e4] at hs
        split at hs
        · obtain rfl := List.mem_singleton.1 hs; omega
        · cases hs) hxps (hs.mem.take (js := [5, 6, 7, 3, 11]) rfl)).mono fun v Fs ⟨R, hR, e8, e9⟩ => ⟨?_, e9⟩) ?_
      · rw [e8, hj]
        rw [hL'] at hR
        cases sec with
        | true =>
          rw [keys_no (key := key) (one := one) (L0 := B.L) (by rw [e4]; exact List.mem_singleton.2 rfl) (fun q => by rw [q] at hkl; cases hkl) hfk (fun t' ht' => by obtain ⟨u, rfl, _⟩ := hall t' ht'; exact (by decide : ¬ (2 : Nat) = 4)) hsee hR]
          rfl
        | false =>
          have e7 : ({ x0 with seen := seen } : Md).ss = [] := e4
          rw [e7] at hR
          rw [keys_yes hfk hfo hR]
          rfl
      rintro v Fs ⟨rfl, rfl⟩
      intro β w' hs
      refine hs.fin [] ⟨?_, rfl⟩
      show Value.bool (!((!sec) == sec)) = _
      cases sec <;> rfl
end Go.Proofs.YtoifclfanabalaaGreatDoor.Sx

/- What a law begins with: what is only read. -/
namespace Go.Proofs.YtoifclfanabalaaGreatDoor.Sx
open Go

def RoOk (w : World) (f : Fact) : Prop := f.own = false ∧ f.p w ∧ ∀ k, f.D k → k < w.heap.size
theorem mem_ro {w : World} {Fs : List Fact} (h : ∀ f ∈ Fs, RoOk w f) : Mem w Fs := by
  refine ⟨fun f hf => (h f hf).2.1, fun f hf k hk => (h f hf).2.2 k hk, ?_⟩
  induction Fs with
  | nil => exact List.Pairwise.nil
  | cons f r ih =>
    refine List.pairwise_cons.2 ⟨fun g hg q => ?_, ih (fun g hg => h g (List.mem_cons_of_mem _ hg))⟩
    rcases q with q | q
    · rw [(h f List.mem_cons_self).1] at q; cases q
    · rw [(h g (List.mem_cons_of_mem _ hg)).1] at q; cases q
theorem rd_ok {w : World} {size : Nat} {A : Option Addr} {k : Nat} {xs : List Value} (h : Rd size A k xs w) : RoOk w (rdF size A k xs) := ⟨rfl, h, rd_lt h⟩
theorem ro_nil {w : World} : ∀ f ∈ ([] : List Fact), RoOk w f := fun f h => by cases h
theorem ro_cons {w : World} {f : Fact} {r : List Fact} (h1 : RoOk w f) (h2 : ∀ g ∈ r, RoOk w g) : ∀ g ∈ f :: r, RoOk w g := fun g hg => by
  rcases List.mem_cons.1 hg with rfl | hg
  · exact h1
  · exact h2 g hg
end Go.Proofs.YtoifclfanabalaaGreatDoor.Sx

/- A parameter of lists of bytes, read. -/
namespace Go.Proofs.YtoifclfanabalaaGreatDoor.Sx
open Go
attribute [local irreducible] Calls

theorem Opens.parts {P : Program} {w : World} {fuel : Nat} {t e u : TypeId} {cs : List Value} (h : Opens P w fuel t cs) (ht : P.underlying t = some (.slice e)) (he : P.underlying e = some (.slice u)) (hu : P.underlying u = some (.int .u8)) (hcu : P.cellsOf u = 1) (hce : P.cellsOf e = 1) :
    ∃ (A : Option Addr) (ps : List Part) (c : Nat), cs = [.slice A ps.length c] ∧ ps.length ≤ maxLen ∧ (∀ q ∈ ps, q.2.1.length ≤ q.2.2) ∧ (partF A ps).p w := by
  obtain ⟨A, n, c, xs, m, rfl, h1, h2, rfl, _, _, hr, hx⟩ := h.slice ht
  obtain ⟨ps, hpl, hp, hq⟩ := list_choose (f := fun q : Part => [partV q]) (p := fun q : Part => q.2.1.length ≤ q.2.2 ∧ Bs w q.1 q.2.1) (xs := xs) (fun x hx' => by
    obtain ⟨B, p, d, hcs, h3, _, h4⟩ := (hx x hx').bytes he hu hcu
    exact ⟨(B, p, d), hcs, h3, h4⟩)
  have hf : ps.flatMap (fun q => [partV q]) = ps.map partV := flat_one partV ps
  rw [hce, hp, hf] at hr
  rw [← hpl] at hr h1 ⊢
  exact ⟨A, ps, c, rfl, by omega, fun q hq' => (hq q hq').1, hr, fun q hq' => (hq q hq').2⟩
theorem part_ok {w : World} {A : Option Addr} {ps : List Part} (h : (partF A ps).p w) : RoOk w (partF A ps) := by
  refine ⟨rfl, h, fun k hk => ?_⟩
  rcases hk with hk | ⟨q, hq, hk⟩
  · exact rd_lt h.1 k hk
  · exact rd_lt (h.2 q hq) k hk
end Go.Proofs.YtoifclfanabalaaGreatDoor.Sx

/- A law's proof is lifted, the world's shape kept; the library's own variable. -/
namespace Go.Proofs.YtoifclfanabalaaGreatDoor.Sx
open Go

theorem handed_shaped {H : Type} {enc : TypeId × Value → H} {a : Assume} {C : Checked} {os : Os} {f : FuncId} {fn : Func} {s : ChangeSpec} {conds : List PathCond} {apart fresh handsOn again : Bool} {X : World → Array Value → Prop}
    (hX : ∀ (w w' : World) (args : Array Value), w.heap = w'.heap → X w args → X w' args)
    (own : ownKnob C.prog.godebug = none) (started : os.Started) (noInit : C.prog.inits.idxOf? f = none) (hfn : C.prog.funcs[f]? = some fn)
    (witness : ∃ (w : World) (tape : Tape) (i : Input), w.os = os ∧ (w.forCall tape i).Shaped C.prog ∧ i.vars = [] ∧ Input.okWide C.prog (w.forCall tape i) .any w.heap.size f i ∧
      ((s.pre enc C.prog fn conds apart (w.forCall tape i).memory i.args ∧ X (w.forCall tape i).memory i.args) ∧ sizedMet enc C.prog fn (OpenSpec.ofChange s) apart (w.forCall tape i).memory i.args) ∧ a.holds C.prog (lone (Frame.enter C.prog f i.args .normal) [] (w.forCall tape i)))
    (key : ∀ (W : World) (base : Nat) (args : Array Value) (ds gs : List (DataW H)) (before : List MemPlace),
      (∀ (j : Nat) t v, fn.params[j]? = some t → args[j]? = some v → Value.okWide C.prog W .any base t v) →
      DataW.Whole enc C.prog fn.params.toList s.vars apart W args.toList ds gs before → X W args → W.ShapedOpen C.prog →
      Calls C.prog f args W fun e W' => ∃ v, e = .returned v ∧ s.post enc C.prog fn apart fresh handsOn again W args v W') :
    ReturnsInHanded a C os f .any (fun w args => (s.pre enc C.prog fn conds apart w args ∧ X w args) ∧ sizedMet enc C.prog fn (OpenSpec.ofChange s) apart w args) (s.post enc C.prog fn apart fresh handsOn again) := by
  refine returnsInHanded_of_calls own started noInit witness (fun w tape i _ hshape _ hin hp _ => ?_)
  obtain ⟨_, _, _, fn2, hfn2, _, _, _, _, hvals⟩ := hin
  obtain rfl : fn2 = fn := Option.some.inj (hfn2.symm.trans hfn)
  obtain ⟨⟨⟨ds, gs, before, hwh, _⟩, hx⟩, _⟩ := hp
  refine (key (w.forCall tape i) w.heap.size i.args ds gs before hvals (DataW.Whole.of_heap (w' := w.forCall tape i) (by rfl) hwh) (hX _ _ _ (by rfl) hx) hshape).mono fun e W' ⟨v, he, hq⟩ => ?_
  subst he
  exact ChangeSpec.post_blind hq
theorem ml_of {w : World} (h : w.ShapedOpen Tryz.prog) : mlF.p w :=
  cell_of_shapedOpen_int (P := Tryz.prog) (g := 1) (t := ty_int) (zero := #[.int .i64 0]) h (of_decide_eq_true (by kernel_rfl)) (by kernel_rfl) rfl (by kernel_rfl) (by kernel_rfl) (ok3.real (d := .int .i64) rfl rfl)
theorem ml_ok {w : World} (h : mlF.p w) : RoOk w mlF := by
  refine ⟨rfl, h, fun k hk => ?_⟩
  obtain ⟨m, hm⟩ := h
  obtain rfl : k = 1 := hk
  unfold World.cell? at hm
  rcases Nat.lt_or_ge 1 w.heap.size with q | q
  · exact q
  · simp [Array.getElem?_eq_none q] at hm
end Go.Proofs.YtoifclfanabalaaGreatDoor.Sx

/- What a statement's proof has of its arguments, in this executor's words. -/
namespace Go.Proofs.YtoifclfanabalaaGreatDoor.Sx
open Go Go.RowKit

theorem below_of {w w' : World} (h : Chg None_ w w') : Below w.heap.size w w' :=
  ⟨h.os, h.tape, h.output, h.size, fun k hk => h.same k hk (fun q => q)⟩
end Go.Proofs.YtoifclfanabalaaGreatDoor.Sx

/- Tables that are laid: what their cells are. -/
namespace Go.Proofs.YtoifclfanabalaaGreatDoor.Sx
open Go

theorem rd_of_ints {H : Type} {enc : TypeId × Value → H} {P : Program} {W : World} {base : Nat} {sp : Nat → Bool} {held : Bool} {fuel g n : Nat} {t e : TypeId} {k : IntKind} {cs : Array Value} {zs : List Int} {q : List MemPlace}
    (ht : P.underlying t = some (.array n e)) (he : P.underlying e = some (.int k)) (hc : P.cellsOf e = 1) (hd : DataW.trod enc P W base sp held fuel t cs.toList = some (.agg (zs.map fun z => .lit (.int k z)), q)) (hcell : ∀ j, W.cell? ⟨g, j, none⟩ = cs[j]?) :
    Rd 1 (some ⟨g, 0, none⟩) zs.length (zs.map (Value.int k)) W := by
  obtain ⟨xs, m, _, hx, hlen, hn, hel⟩ := DataW.trod_array ht hd
  simp only [Prod.mk.injEq, DataW.agg.injEq] at hx
  have hzn : zs.length = n := by
    have h9 := congrArg List.length hx.1
    simp only [List.length_map] at h9
    omega
  refine ⟨by simp, fun hp => ⟨_, rfl, fun j u hu => ?_⟩⟩
  rw [List.getElem?_map] at hu
  obtain ⟨z, hz, rfl⟩ := Option.map_eq_some_iff.1 hu
  have hj : j < zs.length := (List.getElem?_eq_some_iff.1 hz).1
  have h1 := hel j (by omega)
  have h2 : (xs.map (·.1))[j]? = some (.lit (.int k z)) := by rw [← hx.1, List.getElem?_map, hz]; rfl
  rw [List.getElem?_map] at h2
  obtain ⟨x, hxj, hx1⟩ := Option.map_eq_some_iff.1 h2
  rw [hxj, hc, Nat.mul_one] at h1
  obtain ⟨y, e1, e2, _⟩ := DataW.trod_int he h1
  have hy : y = z := by
    rw [e2] at hx1
    simpa using hx1
  subst hy
  rw [add_none, Nat.zero_add, hcell j, ← Array.getElem?_toList]
  have h3 := congrArg (fun l => l[0]?) e1
  simpa [List.getElem?_drop] using h3
abbrev u32s (l : List UInt32) : List Int := l.map fun x => (x.toNat : Int)
theorem rd_u32 {g : Nat} {W : World} {l : List UInt32} (h : Rd 1 (some ⟨g, 0, none⟩) (u32s l).length ((u32s l).map (Value.int .u32)) W) : Rd 1 (some ⟨g, 0, none⟩) l.length (l.map u32) W := by
  have e : (u32s l).map (Value.int .u32) = l.map u32 := by rw [List.map_map]; rfl
  rw [e, List.length_map] at h
  exact h
end Go.Proofs.YtoifclfanabalaaGreatDoor.Sx

/- Tables that are laid, of any plain types: their cells are what they hold, in order. -/
namespace Go.Proofs.YtoifclfanabalaaGreatDoor.Sx
open Go

section
variable {H : Type} {enc : TypeId × Value → H} {P : Program} {w : World} {base : Nat} {sp : Nat → Bool} {held : Bool}
end
end Go.Proofs.YtoifclfanabalaaGreatDoor.Sx
