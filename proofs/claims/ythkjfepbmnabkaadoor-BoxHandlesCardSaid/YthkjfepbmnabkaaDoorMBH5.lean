/- Texts joined: Turn, Ak5, Ak6, Han, Rf5, Rf6, Lw5, Sam, Law5, SxArg, Laid. -/
import Derived.Test.YthkjfepbmnabkaaDoorMBH4
import Derived.Test.YthkjfepbmnabkaaDoorMBH2
import Derived.Test.YthkjfepbmnabkaaDoorMBH3
import Derived.Laws.StructEq
import Derived.Test.YthkjfepbmnabkaaDoorMBH1
import Derived.Below
import Derived.OpenShut
import Derived.ChangeArms
import Derived.LaidMore
/- Two tags, turned. -/
namespace Go.Proofs.YthkjfepbmnabkaaDoor.Sx
open Go
attribute [local irreducible] Calls

/-- What a sum of the box's must be. -/
structure OkS (l : List Nat) (m : List UInt8) : Prop where
  len : l.length ≤ 4096
  nums : ∀ n ∈ l, n ≤ 4096
  mask : m.length = 32
def mixL (l1 l2 : List Nat) : List Nat := sortN (notIn l1 l2 ++ notIn l2 l1)
def turnT (L : List Nat) (M : List UInt8) : Bx.Term := ⟨4, [], [], 0, L, M⟩
open Classical in
/-- Two tags' turning; none: the box doesn't know them. -/
noncomputable def turnB (B : Bx.Box) (s t : List UInt8) : Option (List UInt8) × Bx.Box := match B.opens s, B.opens t with
  | some (l1, m1), some (l2, m2) =>
    if mixL l1 l2 = [] ∧ ¬ (B.sym = true ∧ (Bx.xorB m1 m2).take 28 = Bx.front) then (some (Bx.xorB m1 m2), B)
    else match mixL l1 l2, decide (Bx.xorB m1 m2 = Bx.noughts) with
      | [n], true => (some (Bx.handle n), B)
      | L, _ => (some (B.tag (turnT L (Bx.xorB m1 m2))).1, (B.tag (turnT L (Bx.xorB m1 m2))).2)
  | _, _ => (none, B)
theorem turnB_none1 {B : Bx.Box} {s t : List UInt8} (h : B.opens s = none) : turnB B s t = (none, B) := by unfold turnB; rw [h]
theorem turnB_none2 {B : Bx.Box} {s t : List UInt8} (h : B.opens t = none) : turnB B s t = (none, B) := by unfold turnB; rw [h]; cases B.opens s <;> rfl
theorem turnB_raw {B : Bx.Box} {s t : List UInt8} {l1 l2 : List Nat} {m1 m2 : List UInt8} (h1 : B.opens s = some (l1, m1)) (h2 : B.opens t = some (l2, m2)) (hL : mixL l1 l2 = []) (hs : ¬ (B.sym = true ∧ (Bx.xorB m1 m2).take 28 = Bx.front)) : turnB B s t = (some (Bx.xorB m1 m2), B) := by
  unfold turnB; rw [h1, h2]; simp only; rw [if_pos ⟨hL, hs⟩]
theorem turnB_one {B : Bx.Box} {s t : List UInt8} {l1 l2 : List Nat} {m1 m2 : List UInt8} {n : Nat} (h1 : B.opens s = some (l1, m1)) (h2 : B.opens t = some (l2, m2)) (hL : mixL l1 l2 = [n]) (hM : Bx.xorB m1 m2 = Bx.noughts) : turnB B s t = (some (Bx.handle n), B) := by
  unfold turnB; rw [h1, h2]; simp only; rw [if_neg (fun q => by rw [hL] at q; cases q.1), hL, decide_eq_true hM]
theorem turnB_tag {B : Bx.Box} {s t : List UInt8} {l1 l2 : List Nat} {m1 m2 : List UInt8} (h1 : B.opens s = some (l1, m1)) (h2 : B.opens t = some (l2, m2)) (hs : ¬ (mixL l1 l2 = [] ∧ ¬ (B.sym = true ∧ (Bx.xorB m1 m2).take 28 = Bx.front))) (hn : ¬ ((mixL l1 l2).length = 1 ∧ Bx.xorB m1 m2 = Bx.noughts)) :
    turnB B s t = (some (B.tag (turnT (mixL l1 l2) (Bx.xorB m1 m2))).1, (B.tag (turnT (mixL l1 l2) (Bx.xorB m1 m2))).2) := by
  unfold turnB; rw [h1, h2]; simp only; rw [if_neg hs]
  split
  · rename_i n h3 h4
    exact absurd ⟨by rw [h3]; rfl, of_decide_eq_true h4⟩ hn
  · rfl
def turnOut (b : Nat) (B : Bx.Box) (y : Lay) (s t : List UInt8) (v : Value) (Fs : List Fact) : Prop := match turnB B s t with
  | (none, _) => v = .tuple #[.slice none 0 0, .int .i64 4] ∧ Fs = [bxF b B y]
  | (some h, B') => ∃ A c y', v = .tuple #[.slice A 32 c, .int .i64 0] ∧ 32 ≤ c ∧ c ≤ maxLen ∧ y'.ts.map (·.1) = B'.L ∧ Fs = [browF ty_uint8 A h c, bxF b B' y']
theorem turnOut_none {b : Nat} {B : Bx.Box} {y : Lay} {s t : List UInt8} (h : turnB B s t = (none, B)) : turnOut b B y s t = fun v Fs => v = .tuple #[.slice none 0 0, .int .i64 4] ∧ Fs = [bxF b B y] := by funext v Fs; unfold turnOut; rw [h]
theorem turnOut_some {b : Nat} {B B' : Bx.Box} {y : Lay} {s t h : List UInt8} (e : turnB B s t = (some h, B')) : turnOut b B y s t = fun v Fs => ∃ A c y', v = .tuple #[.slice A 32 c, .int .i64 0] ∧ 32 ≤ c ∧ c ≤ maxLen ∧ y'.ts.map (·.1) = B'.L ∧ Fs = [browF ty_uint8 A h c, bxF b B' y'] := by funext v Fs; unfold turnOut; rw [e]
theorem turnB_c (w : World) (b : Nat) (B : Bx.Box) (y : Lay) (A1 A2 : Option Addr) (s t : List UInt8) (c1 c2 : Nat) (hts : y.ts.map (·.1) = B.L) (hL : B.L.length ≤ 4096) (hsz : ∀ t ∈ B.L, TSz t) (hok : ∀ tag l m, B.opens tag = some (l, m) → OkS l m)
    (hm : Mem w [bxF b B y, bsF A1 s, bsF A2 t]) (hc1 : s.length ≤ c1) (hc2 : t.length ≤ c2) (hl1 : s.length ≤ 1000000) (hl2 : t.length ≤ 1000000) :
    Con Tryd.prog n_box_Box_Turn #[.pointer (some ⟨b, 0, none⟩), .slice A1 s.length c1, .slice A2 t.length c2] w [bxF b B y] (turnOut b B y s t) := by
  have g := good_box_Box_Turn w (Un [bxF b B y])
  have hs0 : Sat (cx_box_Box_Turn w (Un [bxF b B y])) Va.z 0 [] [bxF b B y, bsF A1 s, bsF A2 t] w := hm.sat0 rfl (fun f hf ho k hk => by
    simp only [List.mem_cons, List.not_mem_nil, or_false] at hf
    rcases hf with rfl | rfl | rfl
    · exact ⟨_, List.mem_singleton.2 rfl, hk⟩
    · cases ho
    · cases ho)
  refine con_of_sx (cx := cx_box_Box_Turn w (Un [bxF b B y])) g b_box_Box_Turn rfl rfl (β := Va.z) [.c (.v (.pointer (some ⟨b, 0, none⟩))), .c (.v (.slice A1 s.length c1)), .c (.v (.slice A2 t.length c2))] 0 [] _ rfl rfl hs0 ?_
  have bad : turnB B s t = (none, B) → ∀ {n : Nat} {H : List Bk} {F : List Fact} (j : Nat) (_ : nth F j = some (bxF b B y)) (β : Va) (w' : World), Sat (cx_box_Box_Turn w (Un [bxF b B y])) β n H F w' → Fin w [bxF b B y] (turnOut b B y s t) (.tuple #[.slice none 0 0, .int .i64 4]) w' := by
    intro hno n H F j hj β w' hs
    rw [turnOut_none hno]
    have hs2 := (hs.keepB (List.nil_sublist _)).perm [j]
    have e : takeIx F [j] = [bxF b B y] := by simp only [takeIx, hj]
    rw [e] at hs2
    exact hs2.fin [0] ⟨rfl, rfl⟩
  refine call_con [] (R := openOut B s) (fun β w' hs => open_c w' b B y A1 s c1 hts hL hsz (hs.get 0 rfl) (fun k hk => hs.flt _ (List.mem_of_getElem? (i := 0) rfl) k hk) (hs.get 1 rfl) hc1 hl1) ?_
  cases h1 : B.opens s with
  | none =>
    rw [openOut_none h1]
    rintro v Fs ⟨rfl, rfl⟩
    refine call_con [] (R := openOut B t) (fun β w' hs => open_c w' b B y A2 t c2 hts hL hsz (hs.get 0 rfl) (fun k hk => hs.flt _ (List.mem_of_getElem? (i := 0) rfl) k hk) (hs.get 2 rfl) hc2 hl2) ?_
    cases h2 : B.opens t with
    | none =>
      rw [openOut_none h2]
      rintro v Fs ⟨rfl, rfl⟩
      exact fun β w' hs => bad (turnB_none1 h1) 0 rfl β w' hs
    | some q =>
      obtain ⟨l2, m2⟩ := q
      rw [openOut_some h2]
      rintro v Fs ⟨B1, d1, B2, d2, rfl, _, rfl⟩
      exact fun β w' hs => bad (turnB_none1 h1) 2 rfl β w' hs
  | some p =>
    obtain ⟨l1, m1⟩ := p
    have ok1 := hok s l1 m1 h1
    rw [openOut_some h1]
    rintro v Fs ⟨a1, e1, a2, e2, rfl, he2, rfl⟩
    refine call_con [] (R := openOut B t) (fun β w' hs => open_c w' b B y A2 t c2 hts hL hsz (hs.get 2 rfl) (fun k hk => hs.flt _ (List.mem_of_getElem? (i := 2) rfl) k hk) (hs.get 4 rfl) hc2 hl2) ?_
    cases h2 : B.opens t with
    | none =>
      rw [openOut_none h2]
      rintro v Fs ⟨rfl, rfl⟩
      exact fun β w' hs => bad (turnB_none2 h2) 2 rfl β w' hs
    | some q =>
      obtain ⟨l2, m2⟩ := q
      have ok2 := hok t l2 m2 h2
      rw [openOut_some h2]
      rintro v Fs ⟨d1, f1, d2, f2, rfl, hf2, rfl⟩
      have hk1 := ok1.len
      have hk2 := ok2.len
      have hk3 := ok1.mask
      have hk4 := ok2.mask
      have hx : (Bx.xorB m1 m2).length = 32 := by rw [xorB_len]; omega
      have hmem : ∀ n ∈ mixL l1 l2, n ≤ 4096 := fun n hn => by
        have h3 : n ∈ notIn l1 l2 ++ notIn l2 l1 := by simpa [mixL, sortN] using hn
        rcases List.mem_append.1 h3 with q | q
        · exact ok1.nums n (List.mem_filter.1 q).1
        · exact ok2.nums n (List.mem_filter.1 q).1
      have hlen : (mixL l1 l2).length ≤ 8192 := by
        have h3 := notIn_len l1 l2
        have h4 := notIn_len l2 l1
        rw [mixL, sortN_len, List.length_append]
        omega
      have hR := turnB_raw (B := B) h1 h2
      have hO := fun n => turnB_one (B := B) (n := n) h1 h2
      have hT := turnB_tag (B := B) h1 h2
      have htc := fun (w' : World) (q1 : Rd 1 a1 l1.length (ints l1) w') (q2 : Rd 1 d1 l2.length (ints l2) w') (q3 : Bs w' a2 m1) (q4 : Bs w' d2 m2) => turned_c w' a1 a2 d1 d2 l1 l2 m1 m2 e1 e2 f1 f2 q1 q2 q3 q4 (by omega) (by omega) (by omega)
      rw [show sortN (notIn l1 l2 ++ notIn l2 l1) = mixL l1 l2 from rfl] at htc
      generalize mixL l1 l2 = L at *
      generalize Bx.xorB m1 m2 = M at *
      refine call_con [] (fun β w' hs => htc w' (row_rd (hs.get 2 rfl)) (row_rd (hs.get 0 rfl)) (row_rd (hs.get 3 rfl)) (row_rd (hs.get 1 rfl))) ?_
      rintro v Fs ⟨u1, g1, u2, g2, rfl, hg2, hgm, hsm, rfl⟩
      have hg2' : 32 ≤ g2 := by omega
      have hTs : TSz (turnT L M) := ⟨by show 4 < 1000; decide, by show 0 < 1000; decide, Nat.zero_le _, Nat.zero_le _, by show L.length ≤ 10000; omega, fun n hn => by have := hmem n hn; omega, by show M.length ≤ 1000000; omega⟩
      have trdD : ∀ k, (trdF (turnT L M) ⟨none, none, u1, u2, 0, 0, g1, g2⟩).D k → ∃ f ∈ [irowF u1 L g1, browF ty_uint8 u2 M g2], f.D k := by
        intro k hk
        rcases hk with ⟨q, _⟩ | ⟨q, _⟩ | ⟨_, ad, hA, rfl⟩ | ⟨_, ad, hA, rfl⟩
        · exact absurd q (Nat.lt_irrefl 0)
        · exact absurd q (Nat.lt_irrefl 0)
        · have hA' : u1 = some ad := hA
          subst hA'
          exact ⟨_, List.mem_cons_self, rfl⟩
        · have hA' : u2 = some ad := hA
          subst hA'
          exact ⟨_, List.mem_cons_of_mem _ List.mem_cons_self, rfl⟩
      have hSS : ∀ {n : Nat} {F : List Fact} {bb aa : Bk}, Sub (cx_box_Box_Turn w (Un [bxF b B y])) n [⟨2, ty_box_sum, sumS u1 L g1 u2 M g2⟩, bb, aa] F [⟨2, ty_box_sum, sumS u1 L g1 u2 M g2⟩] [] := fun {n F bb aa} => Sub.of ((List.nil_sublist _).cons_cons _) (List.nil_sublist _)
      refine draw_rule g p_box_Box_Turn_8 (by kernel_rfl) [⟨2, ty_box_sum, sumS u1 L g1 u2 M g2⟩] [] hSS ?_
      refine ⟨32, 32, rfl, rfl, Nat.le_refl _, by decide, by decide, ?_⟩
      intro b1
      refine ⟨hSS, ?_⟩
      refine call_pu (v := .bool (decide (M = Bx.noughts))) (fun β w' hs => beq_c w' u2 (some ⟨b1, 0, none⟩) M Bx.noughts g2 32 (row_rd (hs.get 2 rfl)) (row_rd (hs.get 0 rfl))) ?_
      refine ⟨hSS, ?_⟩
      have hSB : ∀ {n : Nat} {F : List Fact} {bb aa : Bk} (js : List Nat), takeIx F js = [bxF b B y] → nodupB js = true → Sub (cx_box_Box_Turn w (Un [bxF b B y])) n [⟨2, ty_box_sum, sumS u1 L g1 u2 M g2⟩, bb, aa] F [⟨2, ty_box_sum, sumS u1 L g1 u2 M g2⟩] [bxF b B y] := fun js h hn β w' hs => h ▸ (hs.weaken ((List.nil_sublist _).cons_cons _) (List.Sublist.refl _)).perm js hn
      cases L with
      | nil =>
        cases hsym : B.sym with
        | false =>
          refine draw_rule g p_box_Box_Turn_9 (by kernel_rfl) [⟨2, ty_box_sum, sumS u1 [] g1 u2 M g2⟩] [bxF b B y] (hSB [7] rfl rfl) ?_
          refine ⟨.bool false, fun β w' hs => box_cell (bx_bk (hs.get 0 rfl)) (o := 0) (by simp [boxCells, hsym]), ?_⟩
          refine ⟨hSB [7] rfl rfl, hSB [7] rfl rfl, ?_⟩
          intro β w' hs
          rw [turnOut_some (hR rfl (fun q => by rw [hsym] at q; cases q.1))]
          exact (hs.keepB (List.nil_sublist _)).fin [2, 7] ⟨u2, g2, y, congrArg (fun n => Value.tuple #[.slice u2 n g2, .int .i64 0]) hx, hg2', hgm, hts, rfl⟩
        | true =>
          refine draw_rule g p_box_Box_Turn_9 (by kernel_rfl) [⟨2, ty_box_sum, sumS u1 [] g1 u2 M g2⟩] [bxF b B y] (hSB [7] rfl rfl) ?_
          refine ⟨.bool true, fun β w' hs => box_cell (bx_bk (hs.get 0 rfl)) (o := 0) (by simp [boxCells, hsym]), ?_⟩
          refine ⟨g2, 28, 0, 28, g2, _, rfl, rfl, rfl, by omega, by omega, Nat.zero_le _, rfl, rfl, rfl, ?_⟩
          refine call_con [] (fun β w' hs => mark_c w') ?_
          rintro v Fs ⟨b2, rfl, rfl⟩
          refine ⟨hSB [8] rfl rfl, ?_⟩
          have e28 : (M.take 28).length = 28 := by simp; omega
          refine call_pu (v := .bool (decide (M.take 28 = Bx.front))) (fun β w' hs => by
            have h := beq_c w' (cutA u2 g2 0 1) (some ⟨b2, 0, none⟩) (M.take 28) Bx.front g2 28 (Bs.cutB (row_rd (hs.get 3 rfl)) (by omega) (Nat.zero_le 28) (by omega) (by simp)) (row_rd (hs.get 0 rfl))
            rw [e28] at h
            exact h) ?_
          refine ⟨hSB [8] rfl rfl, ?_⟩
          refine BIf.not (BIf.dec (fun hf => ?_) (fun hf => ?_))
          · skip
            refine call_con [8] (R := tagOut b B (turnT [] M)) (fun β w' hs => by
              have h2 := hs.fuse [2, 3] (trdF (turnT [] M) ⟨none, none, u1, u2, 0, 0, g1, g2⟩) (fun w hm => ⟨Bs.nil w none, Bs.nil w none, row_rd (hm.fact _ List.mem_cons_self), row_rd (hm.fact _ (List.mem_cons_of_mem _ List.mem_cons_self))⟩) trdD rfl ⟨rfl, rfl, trivial⟩
              exact tag_c w' b B y (turnT [] M) ⟨none, none, u1, u2, 0, 0, g1, g2⟩ hts hL hTs (h2.mem.take (js := [7, 0]) rfl)) ?_
            rintro v Fs ⟨A3, c3, y3, rfl, r1, r2, r3, rfl⟩
            intro β w' hs
            rw [turnOut_some (hT (fun q => q.2 ⟨hsym, hf⟩) (fun q => by cases q.1))]
            exact (hs.keepB (List.nil_sublist _)).fin [0, 1] ⟨A3, c3, y3, rfl, r1, r2, r3, rfl⟩
          · skip
            intro β w' hs
            rw [turnOut_some (hR rfl (fun q => hf q.2))]
            exact (hs.keepB (List.nil_sublist _)).fin [3, 8] ⟨u2, g2, y, congrArg (fun n => Value.tuple #[.slice u2 n g2, .int .i64 0]) hx, hg2', hgm, hts, rfl⟩
      | cons n r =>
        refine draw_rule g p_box_Box_Turn_9 (by kernel_rfl) [⟨2, ty_box_sum, sumS u1 (n :: r) g1 u2 M g2⟩] [bxF b B y] (hSB [7] rfl rfl) ?_
        refine ⟨hSB [7] rfl rfl, hSB [7] rfl rfl, ?_⟩
        cases r with
        | nil =>
          refine BIf.dec (fun hz => ?_) (fun hz => ?_)
          · obtain ⟨ad, rfl⟩ : ∃ ad, u1 = some ad := hsm n List.mem_cons_self
            refine ⟨ad, 0, rfl, rfl, Nat.lt_succ_self 0, _, fun β w' hs => Rd.cell1 (row_rd (hs.get 1 rfl)) rfl, ?_⟩
            refine call_con [] (fun β w' hs => handle_c w' n) ?_
            rintro v Fs ⟨A3, c3, rfl, q1, q2, rfl⟩
            intro β w' hs
            rw [turnOut_some (hO n rfl hz)]
            exact (hs.keepB (List.nil_sublist _)).fin [0, 8] ⟨A3, c3, y, rfl, q1, q2, hts, rfl⟩
          · skip
            refine call_con [7] (R := tagOut b B (turnT [n] M)) (fun β w' hs => by
              have h2 := hs.fuse [1, 2] (trdF (turnT [n] M) ⟨none, none, u1, u2, 0, 0, g1, g2⟩) (fun w hm => ⟨Bs.nil w none, Bs.nil w none, row_rd (hm.fact _ List.mem_cons_self), row_rd (hm.fact _ (List.mem_cons_of_mem _ List.mem_cons_self))⟩) trdD rfl ⟨rfl, rfl, trivial⟩
              exact tag_c w' b B y (turnT [n] M) ⟨none, none, u1, u2, 0, 0, g1, g2⟩ hts hL hTs (h2.mem.take (js := [6, 0]) rfl)) ?_
            rintro v Fs ⟨A3, c3, y3, rfl, r1, r2, r3, rfl⟩
            intro β w' hs
            rw [turnOut_some (hT (fun q => by cases q.1) (fun q => hz q.2))]
            exact (hs.keepB (List.nil_sublist _)).fin [0, 1] ⟨A3, c3, y3, rfl, r1, r2, r3, rfl⟩
        | cons n2 r2 =>
          refine call_con [7] (R := tagOut b B (turnT (n :: n2 :: r2) M)) (fun β w' hs => by
            have h2 := hs.fuse [1, 2] (trdF (turnT (n :: n2 :: r2) M) ⟨none, none, u1, u2, 0, 0, g1, g2⟩) (fun w hm => ⟨Bs.nil w none, Bs.nil w none, row_rd (hm.fact _ List.mem_cons_self), row_rd (hm.fact _ (List.mem_cons_of_mem _ List.mem_cons_self))⟩) trdD rfl ⟨rfl, rfl, trivial⟩
            exact tag_c w' b B y (turnT (n :: n2 :: r2) M) ⟨none, none, u1, u2, 0, 0, g1, g2⟩ hts hL hTs (h2.mem.take (js := [6, 0]) rfl)) ?_
          rintro v Fs ⟨A3, c3, y3, rfl, r1, r2, r3, rfl⟩
          intro β w' hs
          rw [turnOut_some (hT (fun q => by cases q.1) (fun q => by cases q.1))]
          exact (hs.keepB (List.nil_sublist _)).fin [0, 1] ⟨A3, c3, y3, rfl, r1, r2, r3, rfl⟩
end Go.Proofs.YthkjfepbmnabkaaDoor.Sx

/- The symbolic box's example of BoxHandles: plainly. -/
namespace Go.Proofs.YthkjfepbmnabkaaDoor.Sx
open Go

theorem opens_ok {B : Bx.Box} (hL : B.L.length ≤ 4096) (h : ∀ t ∈ B.L, t.kind = 4 → OkS t.list t.mask) : ∀ tag l m, B.opens tag = some (l, m) → OkS l m := by
  intro tag l m ho
  unfold Bx.Box.opens at ho
  split at ho
  · rename_i h32
    split at ho
    · split at ho
      · cases ho
      · rename_i hn
        split at ho
        · rename_i t ht
          split at ho
          · rename_i hk
            cases ho
            exact h t (List.mem_of_getElem? ht) hk
          · cases ho
            exact ⟨by simp, fun n hn' => by obtain rfl := List.mem_singleton.1 hn'; omega, rfl⟩
        · cases ho
    · cases ho
      exact ⟨by simp, fun n hn => (by cases hn), h32⟩
  · cases ho
def tA : Bx.Term := hashT [97]
def tB : Bx.Term := hashT [98]
def tC : Bx.Term := turnT [1, 2] Bx.noughts
def B0 : Bx.Box := ⟨true, false, []⟩
def B1 : Bx.Box := ⟨true, false, [tA]⟩
def B2 : Bx.Box := ⟨true, false, [tA, tB]⟩
def B3 : Bx.Box := ⟨true, false, [tA, tB, tC]⟩
theorem tag_new {B : Bx.Box} {t : Bx.Term} (h : Bx.place t B.L = none) (hl : ¬ 4096 ≤ B.L.length) : B.tag t = (Bx.handle (B.L.length + 1), { B with L := B.L ++ [t] }) := by unfold Bx.Box.tag; rw [h]; simp only; rw [if_neg hl]
theorem place_not {t : Bx.Term} : ∀ {L : List Bx.Term}, t ∉ L → Bx.place t L = none
  | [], _ => rfl
  | x :: r, h => by
    unfold Bx.place
    rw [if_neg (show ¬ x = t from fun q => h (by rw [q]; exact List.mem_cons_self)), place_not (fun q => h (List.mem_cons_of_mem _ q))]
    rfl
theorem tag_A : B0.tag tA = (Bx.handle 1, B1) := tag_new (B := B0) (t := tA) rfl (by decide)
theorem tag_B : B1.tag tB = (Bx.handle 2, B2) := tag_new (B := B1) (t := tB) (place_not (by simp [B1, tA, tB, hashT])) (by decide)
theorem tag_C : B2.tag tC = (Bx.handle 3, B3) := tag_new (B := B2) (t := tC) (place_not (by simp [B2, tA, tB, tC, hashT, turnT])) (by decide)
theorem opens_h {B : Bx.Box} {n : Nat} {t : Bx.Term} (hs : B.sym = true) (hn : n < 4294967296) (h0 : 1 ≤ n) (hl : n ≤ B.L.length) (ht : B.L[n - 1]? = some t) : B.opens (Bx.handle n) = if t.kind = 4 then some (t.list, t.mask) else some ([n], Bx.noughts) :=
  Bx.opens_in (Bx.handle_len n) hs (List.take_left' Bx.front_len) (by rw [show (Bx.handle n).drop 28 = Bx.be4 n from List.drop_left' Bx.front_len, Bx.num_be4 hn]) (by omega) ht
theorem mix_12 : mixL [1] [2] = [1, 2] := by
  have : notIn [1] [2] ++ notIn [2] [1] = [1, 2] := by decide
  rw [mixL, this, sortN]
  exact List.mergeSort_of_pairwise (by simp)
theorem mix_121 : mixL [1, 2] [1] = [2] := by
  have : notIn [1, 2] [1] ++ notIn [1] [1, 2] = [2] := by decide
  rw [mixL, this, sortN]
  exact List.mergeSort_of_pairwise (by simp)
theorem xor_noughts : Bx.xorB Bx.noughts Bx.noughts = Bx.noughts := by decide +kernel
theorem o21 : B2.opens (Bx.handle 1) = some ([1], Bx.noughts) := (opens_h (B := B2) rfl (by decide) (by decide) (by decide) rfl).trans (if_neg (by decide))
theorem o22 : B2.opens (Bx.handle 2) = some ([2], Bx.noughts) := (opens_h (B := B2) rfl (by decide) (by decide) (by decide) rfl).trans (if_neg (by decide))
theorem o31 : B3.opens (Bx.handle 1) = some ([1], Bx.noughts) := (opens_h (B := B3) rfl (by decide) (by decide) (by decide) rfl).trans (if_neg (by decide))
theorem o33 : B3.opens (Bx.handle 3) = some ([1, 2], Bx.noughts) := (opens_h (B := B3) rfl (by decide) (by decide) (by decide) rfl).trans (if_pos rfl)
theorem turn_12 : turnB B2 (Bx.handle 1) (Bx.handle 2) = (some (Bx.handle 3), B3) := by
  rw [turnB_tag o21 o22 (by rw [mix_12]; rintro ⟨h, _⟩; cases h) (by rw [mix_12]; rintro ⟨h, _⟩; cases h), mix_12, xor_noughts]
  rw [show turnT [1, 2] Bx.noughts = tC from rfl, tag_C]
theorem turn_31 : turnB B3 (Bx.handle 3) (Bx.handle 1) = (some (Bx.handle 2), B3) := turnB_one o33 o31 mix_121 xor_noughts
theorem hashT_ok {B : Bx.Box} (hB : B = B2 ∨ B = B3) : ∀ tag l m, B.opens tag = some (l, m) → OkS l m := by
  refine opens_ok (by rcases hB with rfl | rfl <;> decide) fun t ht hk => ?_
  have : t = tA ∨ t = tB ∨ t = tC := by
    rcases hB with rfl | rfl <;> simp only [B2, B3, List.mem_cons, List.not_mem_nil, or_false] at ht
    · rcases ht with h | h <;> simp [h]
    · exact ht
  rcases this with rfl | rfl | rfl
  · cases hk
  · cases hk
  · exact ⟨by decide, fun n hn => by simp only [tC, turnT, List.mem_cons, List.not_mem_nil, or_false] at hn; omega, rfl⟩
theorem szB {B : Bx.Box} (hB : B = B2 ∨ B = B3) : ∀ t ∈ B.L, TSz t := by
  intro t ht
  have : t = tA ∨ t = tB ∨ t = tC := by
    rcases hB with rfl | rfl <;> simp only [B2, B3, List.mem_cons, List.not_mem_nil, or_false] at ht
    · rcases ht with h | h <;> simp [h]
    · exact ht
  rcases this with rfl | rfl | rfl
  · exact hashT_sz (by decide)
  · exact hashT_sz (by decide)
  · exact ⟨by decide, by decide, by decide, by decide, by decide, fun n hn => by simp only [tC, turnT, List.mem_cons, List.not_mem_nil, or_false] at hn; omega, by decide⟩
theorem number_h {n : Nat} (hn : n < 4294967296) (h0 : 0 < n) : numberV (Bx.handle n) = .tuple #[.int .i64 (n : Int), .bool true] := by
  unfold numberV
  rw [Bx.looks_handle hn]
  simp [h0]
end Go.Proofs.YthkjfepbmnabkaaDoor.Sx

/- The symbolic box's example of BoxHandles. -/
namespace Go.Proofs.YthkjfepbmnabkaaDoor.Sx
open Go
attribute [local irreducible] Calls

theorem Sat.rdRow {cx : Cx} {β : Va} {n : Nat} {H : List Bk} {F : List Fact} {w : World} {e : TypeId} {A : Option Addr} {l : List UInt8} {c : Nat} (h : Sat cx β n H F w) (j : Nat) (hj : nth F j = some (browF e A l c)) : Sat cx β n H (bsF A l :: dropIx [j] 0 F) w := by
  have q : takeIx F [j] = [browF e A l c] := by simp only [takeIx, hj]
  refine h.fuse [j] (bsF A l) (fun w hm => ?_) (fun k hk => ?_) rfl (by rw [q]; exact ⟨rfl, trivial⟩)
  · rw [q] at hm
    exact row_rd (hm.fact _ List.mem_cons_self)
  · rw [q]
    obtain ⟨_, ad, h, rfl⟩ := hk
    cases h
    exact ⟨_, List.mem_cons_self, rfl⟩
theorem tagOut_eq {b : Nat} {B B' : Bx.Box} {t : Bx.Term} {l : List UInt8} (h : B.tag t = (l, B')) : tagOut b B t = fun v Fs => ∃ A c y', v = .slice A 32 c ∧ 32 ≤ c ∧ c ≤ maxLen ∧ y'.ts.map (·.1) = B'.L ∧ Fs = [browF ty_uint8 A l c, bxF b B' y'] := by funext v Fs; unfold tagOut; rw [h]
theorem newX_c (w : World) (sym : Bool) : Con Tryd.prog n_box_New #[.bool sym] w [] fun v Fs => ∃ b y, v = .pointer (some ⟨b, 0, none⟩) ∧ y.ts = [] ∧ Fs = [bxF b ⟨sym, false, []⟩ y] := by
  refine con_of_sx (cx := cx_box_New w (Un [])) (good_box_New w (Un [])) b_box_New rfl rfl (β := Va.z) [.c (.v (.bool sym))] 0 [] [] rfl rfl (Sat.start rfl) ?_
  intro m
  intro β w' hs
  have h2 := (hs.ofBk.nilRow ty_box_Term 6).noMem (partsF []) (fun _ h => (by cases h)) (fun k hk => by obtain ⟨p, hp, _⟩ := hk; cases hp)
  exact (h2.sep [2, 1, 3, 0] rfl ⟨rfl, rfl, rfl, rfl, trivial⟩).fin [0] ⟨_, ⟨none, 0, m, []⟩, rfl, rfl, rfl⟩
theorem awake05_c (w : World) : Con Tryd.prog n_ostiarylaw05_awake #[] w [] fun v Fs => v = .bool true ∧ Fs = [] := by
  have g := good_ostiarylaw05_awake w (Un [])
  refine con_of_sx (cx := cx_ostiarylaw05_awake w (Un [])) g b_ostiarylaw05_awake rfl rfl (β := Va.z) [] 0 [] [] rfl rfl (Sat.start rfl) ?_
  refine call_con [] (fun β w' hs => newX_c w' true) ?_
  rintro v Fs ⟨b, y0, rfl, hy0, rfl⟩
  intro b1
  refine ⟨0, _, rfl, ?_⟩
  intro b2
  refine call_con [2] (R := tagOut b B0 tA) (fun β w' hs => by
    have h2 := hs.fuse [0] (rdF 1 (some ⟨b2, 0, none⟩) 1 [.slice (some ⟨b1, 0, none⟩) 1 1]) (fun w hm => row_rd (hm.fact _ List.mem_cons_self)) (fun k hk => ⟨_, List.mem_cons_self, by obtain ⟨_, ad, h, rfl⟩ := hk; cases h; rfl⟩)
    exact hashS1_c w' b B0 y0 (some ⟨b2, 0, none⟩) (some ⟨b1, 0, none⟩) 1 1 [97] rfl (by rw [hy0]; rfl) (by decide) (by decide) (h2.mem.take (js := [2, 0, 1]) rfl)) ?_
  rw [tagOut_eq tag_A]
  rintro v Fs ⟨A1, c1, y1, rfl, p1, p2, hy1, rfl⟩
  intro b3
  refine ⟨0, _, rfl, ?_⟩
  intro b4
  refine call_con [3] (R := tagOut b B1 tB) (fun β w' hs => by
    have h2 := hs.fuse [0] (rdF 1 (some ⟨b4, 0, none⟩) 1 [.slice (some ⟨b3, 0, none⟩) 1 1]) (fun w hm => row_rd (hm.fact _ List.mem_cons_self)) (fun k hk => ⟨_, List.mem_cons_self, by obtain ⟨_, ad, h, rfl⟩ := hk; cases h; rfl⟩)
    exact hashS1_c w' b B1 y1 (some ⟨b4, 0, none⟩) (some ⟨b3, 0, none⟩) 1 1 [98] rfl hy1 (by decide) (by decide) (h2.mem.take (js := [3, 0, 1]) rfl)) ?_
  rw [tagOut_eq tag_B]
  rintro v Fs ⟨A2, c2, y2, rfl, p3, p4, hy2, rfl⟩
  refine call_con [1] (R := turnOut b B2 y2 (Bx.handle 1) (Bx.handle 2)) (fun β w' hs => by
    have h2 := (hs.rdRow 0 rfl).rdRow 4 rfl
    exact turnB_c w' b B2 y2 A1 A2 (Bx.handle 1) (Bx.handle 2) c1 c2 hy2 (by decide) (szB (.inl rfl)) (hashT_ok (.inl rfl)) (h2.mem.take (js := [2, 0, 1]) rfl) p1 p3 (by decide) (by decide)) ?_
  rw [turnOut_some turn_12]
  rintro v Fs ⟨A3, c3, y3, rfl, p5, p6, hy3, rfl⟩
  refine call_con [1] (R := turnOut b B3 y3 (Bx.handle 3) (Bx.handle 1)) (fun β w' hs => by
    have h2 := (hs.rdRow 0 rfl).rdRow 5 rfl
    exact turnB_c w' b B3 y3 A3 A1 (Bx.handle 3) (Bx.handle 1) c3 c1 hy3 (by decide) (szB (.inr rfl)) (hashT_ok (.inr rfl)) (h2.mem.take (js := [2, 1, 0]) rfl) p5 p1 (by decide) (by decide)) ?_
  rw [turnOut_some turn_31]
  rintro v Fs ⟨A4, c4, y4, rfl, p7, p8, hy4, rfl⟩
  refine call_pu (v := .tuple #[.int .i64 3, .bool true]) (fun β w' hs => by
    have h := number_c w' A3 (Bx.handle 3) c3 (row_rd (hs.get 2 rfl)) p5 (by decide)
    rw [number_h (by decide) (by decide)] at h
    exact h) ?_
  refine call_pu (v := .bool true) (fun β w' hs => by
    have h := pu_of (same_c w' A4 A2 (Bx.handle 2) (Bx.handle 2) c4 c2 (row_rd (hs.get 0 rfl)) (row_rd (hs.get 3 rfl)))
    rw [decide_eq_true rfl] at h
    exact h) ?_
  refine call_pu (fun β w' hs => len_c w' b true false y4.A 3 y4.c (.map (some y4.m)) (bx_bk (hs.get 1 rfl))) ?_
  intro β w' hs
  exact hs.fin [] ⟨rfl, rfl⟩
end Go.Proofs.YthkjfepbmnabkaaDoor.Sx

/- Handles in a text: plainly; the program's iterator. -/
namespace Go.Proofs.YthkjfepbmnabkaaDoor.Sx
open Go
attribute [local irreducible] Calls

/-- What stands at a place: a handle's number. -/
def hit (t : List UInt8) (i : Nat) : Option Nat := match Bx.looks ((t.drop i).take 32) with
  | some n => if 0 < n then some n else none
  | none => none
def scan (t : List UInt8) (i : Nat) : List (Nat × Nat) :=
  if i + 32 ≤ t.length then match hit t i with
    | some n => (i, n) :: scan t (i + 32)
    | none => scan t (i + 1)
  else []
termination_by t.length + 32 - i
decreasing_by all_goals omega
theorem scan_end {t : List UInt8} {i : Nat} (h : ¬ i + 32 ≤ t.length) : scan t i = [] := by rw [scan, if_neg h]
theorem scan_hit {t : List UInt8} {i n : Nat} (h : i + 32 ≤ t.length) (hn : hit t i = some n) : scan t i = (i, n) :: scan t (i + 32) := by rw [scan, if_pos h, hn]
theorem scan_no {t : List UInt8} {i : Nat} (h : i + 32 ≤ t.length) (hn : hit t i = none) : scan t i = scan t (i + 1) := by rw [scan, if_pos h, hn]
theorem number_hit (t : List UInt8) (i : Nat) : ∃ (v : Nat) (ok : Bool), numberV ((t.drop i).take 32) = .tuple #[.int .i64 (v : Int), .bool ok] ∧ ((ok = true ∧ hit t i = some v) ∨ (ok = false ∧ hit t i = none)) := by
  unfold numberV hit
  cases h : Bx.looks ((t.drop i).take 32) with
  | none => exact ⟨0, false, rfl, .inr ⟨rfl, rfl⟩⟩
  | some n =>
    refine ⟨n, decide ((0 : Int) < (n : Int)), rfl, ?_⟩
    by_cases h0 : 0 < n
    · exact .inl ⟨decide_eq_true (by omega), if_pos h0⟩
    · exact .inr ⟨decide_eq_false (by omega), if_neg h0⟩

abbrev Hp := Nat × Nat
def insH (x : Hp) (args : Array Value) (X : Fact) : Prop := args = #[.int .i64 (x.1 : Int), .int .i64 (x.2 : Int)] ∧ X = noF
def handlesEnd (t : List UInt8) (J Jx : List Hp → Fact → Prop) (Fs : List Fact) : Prop :=
  ∃ f Fs', Fs = f :: Fs' ∧ ((∃ xs, J xs f ∧ xs = scan t 0 ∧ Fs' = []) ∨ (∃ pre, Jx pre f ∧ (∃ r, scan t 0 = pre ++ r) ∧ Fs' = []))
theorem handles_it (l : Nat) (w : World) (bx : Nat) (A : Option Addr) (t : List UInt8) (c : Nat) (f0 R : Fact) (J Jx : List Hp → Fact → Prop) (hJ0 : J [] f0) (hJo : ∀ pre f, J pre f → f.own = true) (hRo : R.own = false) (hY : Yc Tryd.prog l J Jx R insH)
    (hl : t.length ≤ 1000000) (hc : t.length ≤ c) (hm : Mem w (f0 :: R :: [bkF bx ty_sl_uint8 [.slice A t.length c], bsF A t])) :
    Con Tryd.prog n_box_Handles_1 #[.func (.yield l) #[] #[], .pointer (some ⟨bx, 0, none⟩)] w [f0, bkF bx ty_sl_uint8 [.slice A t.length c]] (fun _ Fs => handlesEnd t J Jx Fs) := by
  have g := good_box_Handles_1 w (Un [f0, bkF bx ty_sl_uint8 [.slice A t.length c]]) [bx]
  have hs0 : Sat (cx_box_Handles_1 w (Un [f0, bkF bx ty_sl_uint8 [.slice A t.length c]]) [bx]) (Va.of fun _ => bx) 1 [] (f0 :: R :: [bkF bx ty_sl_uint8 [.slice A t.length c], bsF A t]) w := by
    refine hm.sat rfl (fun f hf ho k hk => ?_) ⟨Nat.le_refl 1, fun i hi => by obtain rfl : i = 0 := Nat.lt_one_iff.1 hi; rfl⟩
    simp only [List.mem_cons, List.not_mem_nil, or_false] at hf
    rcases hf with rfl | rfl | rfl | rfl
    · exact ⟨_, by simp, hk⟩
    · rw [hRo] at ho; cases ho
    · exact ⟨_, by simp, hk⟩
    · cases ho
  have hs1 := hs0.toBk 2 rfl 0 Nat.zero_lt_one rfl
  refine con_of_sx (cx := cx_box_Handles_1 w (Un [f0, bkF bx ty_sl_uint8 [.slice A t.length c]]) [bx]) g b_box_Handles_1 rfl rfl (β := Va.of fun _ => bx) [.c (.v (.func (.yield l) #[] #[])), .c (.p 0 0)] 1 _ _ rfl rfl hs1 ?_
  refine loop_rule (ι := List Hp × Nat × Fact) 1 (fun i => [(0, .c (.v (.func (.yield l) #[] #[]))), (1, .c (.p 0 0)), (3, .c (.v (.int .i64 (i.2.1 : Int))))]) (fun _ => [⟨0, ty_sl_uint8, [.v (.slice A t.length c)]⟩]) (fun i => [i.2.2, R, bsF A t])
    (fun i => J i.1 i.2.2 ∧ scan t 0 = i.1 ++ scan t i.2.1 ∧ i.2.1 ≤ t.length + 32) (fun i => t.length + 32 - i.2.1) ([], 0, f0) ⟨hJ0, rfl, Nat.zero_le _⟩ (Ent.same ⟨rfl, rfl, rfl, trivial⟩ rfl) g ?_
  rintro ⟨pre, i, f⟩ ⟨hJ, hsc, hi⟩
  simp only at hJ hsc hi
  have hfo := hJo _ _ hJ
  simp only
  refine ⟨((i + 32 : Nat) : Int), by rw [wrap_i64 (by omega) (by omega)]; rfl, ?_⟩
  refine BIf.dec (fun hlt => ?_) (fun hge => ?_)
  · have hlt0 : ((i + 32 : Nat) : Int) ≤ t.length := hlt
    have hlt : i + 32 ≤ t.length := by omega
    refine ⟨((i + 32 : Nat) : Int), by rw [wrap_i64 (by omega) (by omega)]; rfl, ?_⟩
    refine ⟨c, i + 32, i, 32, c - i, _, rfl, rfl, rfl, Nat.le_refl _, by omega, by omega, by omega, rfl, rfl, ?_⟩
    obtain ⟨v, ok, hv, hhit⟩ := number_hit t i
    have e32 : ((t.drop i).take 32).length = 32 := by simp; omega
    refine call_pu (v := .tuple #[.int .i64 (v : Int), .bool ok]) (fun β w' hs => by
      have h := number_c w' (cutA A c i 1) ((t.drop i).take 32) (c - i) (Bs.cutB (hs.get 2 rfl) hc (by omega : i ≤ i + 32) hlt (by simp)) (by omega) (by omega)
      rw [hv, e32] at h
      exact h) ?_
    rcases hhit with ⟨rfl, hh⟩ | ⟨rfl, hh⟩
    · rw [scan_hit hlt hh] at hsc
      refine yield_ro (X := noF) (x := (i, v)) hY 0 1 rfl hJ hfo rfl hRo (by decide) (fun β => ⟨rfl, rfl⟩) rfl (fun β w _ => ⟨trivial, fun k hk => hk.elim, fun k _ h => h.elim⟩) ?_ ?_
      · intro f2 hfo2 hJ2
        refine ⟨((i + 31 : Nat) : Int), by rw [wrap_i64 (by omega) (by omega)]; rfl, ?_⟩
        refine ⟨((i + 32 : Nat) : Int), by rw [wrap_i64 (by omega) (by omega)]; omega, ?_⟩
        refine ⟨(pre ++ [(i, v)], i + 32, f2), ⟨hJ2, by show scan t 0 = pre ++ [(i, v)] ++ scan t (i + 32); rw [hsc]; simp, by show i + 32 ≤ _; omega⟩, by show t.length + 32 - (i + 32) < t.length + 32 - i; omega, Ent.same ⟨rfl, rfl, rfl, trivial⟩ rfl⟩
      · intro f2 hfo2 hJ2 β w' hs
        exact (hs.keepB (List.nil_sublist _)).fin [0] ⟨f2, [], rfl, .inr ⟨_, hJ2, ⟨scan t (i + 32), by rw [hsc]; simp⟩, rfl⟩⟩ rfl rfl rfl ⟨hfo2, trivial⟩
    · rw [scan_no hlt hh] at hsc
      refine ⟨((i + 1 : Nat) : Int), by rw [wrap_i64 (by omega) (by omega)]; rfl, ?_⟩
      refine ⟨(pre, i + 1, f), ⟨hJ, hsc, by show i + 1 ≤ _; omega⟩, by show t.length + 32 - (i + 1) < t.length + 32 - i; omega, Ent.same ⟨rfl, rfl, rfl, trivial⟩ rfl⟩
  · have hge0 : ¬ ((i + 32 : Nat) : Int) ≤ t.length := hge
    rw [scan_end (t := t) (i := i) (by omega), List.append_nil] at hsc
    intro β w' hs
    exact (hs.keepB (List.nil_sublist _)).fin [0] ⟨f, [], rfl, .inl ⟨pre, hJ, hsc.symm, rfl⟩⟩ rfl rfl rfl ⟨hfo, trivial⟩
theorem handles_c (w : World) (A : Option Addr) (n c : Nat) : Con Tryd.prog n_box_Handles #[.slice A n c] w [] (fun v Fs => ∃ bx, v = .func (.func n_box_Handles_1) #[] #[.pointer (some ⟨bx, 0, none⟩)] ∧ Fs = [bkF bx ty_sl_uint8 [.slice A n c]]) := by
  refine con_of_sx (cx := cx_box_Handles w (Un [])) (good_box_Handles w (Un [])) b_box_Handles rfl rfl (β := Va.z) [.c (.v (.slice A n c))] 0 [] [] rfl rfl (Sat.start rfl) ?_
  intro β w' hs
  exact hs.ofBk.fin [0] ⟨β 0, rfl, rfl⟩
end Go.Proofs.YthkjfepbmnabkaaDoor.Sx

/- The document's handles. -/
namespace Go.Proofs.YthkjfepbmnabkaaDoor.Sx
open Go
attribute [local irreducible] Calls

theorem rfront_c (w : World) : Con Tryd.prog n_ostiaryref05_front #[] w [] fun v Fs => ∃ A c, v = .slice A 28 c ∧ 28 ≤ c ∧ c ≤ maxLen ∧ Fs = [browF ty_uint8 A Bx.front c] := by
  refine con_of_sx (cx := cx_ostiaryref05_front w (Un [])) (good_ostiaryref05_front w (Un [])) b_ostiaryref05_front rfl rfl (β := Va.z) [] 0 [] [] rfl rfl (Sat.start rfl) ?_
  intro b
  refine ⟨0, 4, 24, 28, _, _, Bx.front.map byte, rfl, ⟨rfl, rfl, fun u hu => by obtain rfl := List.mem_singleton.1 hu; rfl⟩, rfl, rfl, by rw [maxLen_eq]; decide, by decide, ?_⟩
  intro A' c' h1 h2 _ β w' hs
  exact hs.fin [0] ⟨A', c', rfl, h1, h2, rfl⟩
theorem be4_eq (n : Nat) : be 4 n = Bx.be4 n := by
  have key : ∀ m : Nat, UInt8.ofNat (m % 256) = UInt8.ofNat m := fun m => by
    apply UInt8.toNat_inj.1
    simp
  simp [be, Bx.be4, key, Nat.div_div_eq_div_mul]
theorem rhandle_c (w : World) (n : Nat) (hn : n < 4294967296) : Con Tryd.prog n_ostiaryref05_Handle #[.int .i64 n] w [] fun v Fs => ∃ A c, v = .slice A 32 c ∧ 32 ≤ c ∧ c ≤ maxLen ∧ Fs = [browF ty_uint8 A (Bx.handle n) c] := by
  refine con_of_sx (cx := cx_ostiaryref05_Handle w (Un [])) (good_ostiaryref05_Handle w (Un [])) b_ostiaryref05_Handle rfl rfl (β := Va.z) [.c (.v (.int .i64 n))] 0 [] [] rfl rfl (Sat.start rfl) ?_
  refine call_con [] (fun β w' hs => rfront_c w') ?_
  rintro v Fs ⟨A, c, rfl, h1, h2, rfl⟩
  refine ⟨(n : Int), by rw [wrap_u32]; omega, ?_⟩
  refine ⟨(n : Int), by rw [wrap_u64']; omega, ?_⟩
  refine call_con [] (fun β w' hs => be_con w' n 4 (by omega) (by decide)) ?_
  rintro v Fs ⟨A2, c2, rfl, _, _, rfl⟩
  refine ⟨1, 28, 32, Bx.front.map byte, (be 4 n).map byte, (Bx.handle n).map byte, rfl, fun β w hs => row_rd (hs.get 0 rfl), bytes_one _, rfl, by rw [be4_eq, ← List.map_append]; rfl, by rw [maxLen_eq]; decide, by decide, ?_⟩
  intro A' c' q1 q2 _ β w' hs
  exact hs.fin [1] ⟨A', c', rfl, q1, q2, rfl⟩
theorem numB_num (l : List UInt8) : numB l = Bx.num l % 18446744073709551616 := by
  have key : ∀ (l : List UInt8) (a : Nat), l.foldl (fun a x => (a * 256 + x.toNat) % 18446744073709551616) (a % 18446744073709551616) = l.foldl (fun n b => n * 256 + b.toNat) a % 18446744073709551616 := by
    intro l
    induction l with
    | nil => intro a; rfl
    | cons x r ih =>
      intro a
      simp only [List.foldl_cons]
      rw [show (a % 18446744073709551616 * 256 + x.toNat) % 18446744073709551616 = (a * 256 + x.toNat) % 18446744073709551616 by omega, ih]
  exact key l 0
theorem num4 {l : List UInt8} (h : l.length = 32) : Bx.num (l.drop 28) < 4294967296 := by
  have h1 := num_lt (l.drop 28)
  have h2 : (l.drop 28).length = 4 := by rw [List.length_drop]; omega
  rw [h2] at h1
  exact h1
def looksV (l : List UInt8) : Value := match Bx.looks l with
  | some n => .tuple #[.int .i64 (n : Int), .bool true]
  | none => .tuple #[.int .i64 0, .bool false]
theorem looks_c (w : World) (A : Option Addr) (l : List UInt8) (c : Nat) (hr : Bs w A l) (hc : l.length ≤ c) (hn : l.length ≤ 1000000000) : Pu Tryd.prog n_ostiaryref05_Looks #[.slice A l.length c] w (looksV l) := by
  have g := good_ostiaryref05_Looks w (Un [])
  refine con_of_sx (cx := cx_ostiaryref05_Looks w (Un [])) g b_ostiaryref05_Looks rfl rfl (β := Va.z) [.c (.v (.slice A l.length c))] 0 [] [oldF w] rfl rfl (old_sat rfl) ?_
  refine draw_rule g p_ostiaryref05_Looks_1 (by kernel_rfl) [] [oldF w] Sub.refl ?_
  have none_ : (Bx.looks l = none) → ∀ (n : Nat) (H : List Bk) (F : List Fact), ∀ β w', Sat (cx_ostiaryref05_Looks w (Un [])) β n H F w' → Fin w [] (fun u Fs => u = looksV l ∧ Fs = []) (.tuple #[.int .i64 0, .bool false]) w' := fun h n H F β w' hs => hs.fin [] ⟨by unfold looksV; rw [h], rfl⟩
  refine BIf.not (BIf.dec (fun h32 => ?_) (fun h32 => ?_))
  · have hl : l.length = 32 := by omega
    refine ⟨c, 28, 0, 28, c, _, rfl, rfl, rfl, by omega, by omega, Nat.zero_le _, rfl, rfl, rfl, ?_⟩
    refine call_con [] (fun β w' hs => rfront_c w') ?_
    rintro v Fs ⟨A2, c2, rfl, q1, _, rfl⟩
    refine ⟨subPerm [1], ?_⟩
    have e28 : (l.take 28).length = 28 := by simp; omega
    refine call_pu (v := .bool (decide (l.take 28 = Bx.front))) (fun β w' hs => by
      have h := pu_of (same_c w' (cutA A c 0 1) A2 (l.take 28) Bx.front c c2 (Bs.cutB (Rd.old hr (hs.get 1 rfl)) hc (Nat.zero_le 28) (by omega) (by simp)) (row_rd (hs.get 0 rfl)))
      rw [e28] at h
      exact h) ?_
    refine ⟨subPerm [1], ?_⟩
    refine BIf.not (BIf.dec (fun hf => ?_) (fun hf => ?_))
    · have hlk : Bx.looks l = some (Bx.num (l.drop 28)) := by unfold Bx.looks; rw [if_pos ⟨hl, hf⟩]
      refine ⟨c, 32, 28, 4, c - 28, _, rfl, hl.symm, rfl, by omega, by omega, by omega, rfl, rfl, rfl, ?_⟩
      have hd : (l.drop 28).length = 4 := by simp; omega
      have h4 := num4 hl
      have hrd : ∀ w', (oldF w).p w' → Bs w' (cutA A c 28 1) (l.drop 28) := fun w' ho => Bs.cutB (Rd.old hr ho) hc (show 28 ≤ 32 by decide) (by omega) (by rw [List.take_of_length_le (by omega)])
      refine call_pu (v := .int .u64 (Bx.num (l.drop 28))) (fun β w' hs => by
        have h := pu_of (num_c w' (cutA A c 28 1) (l.drop 28) (c - 28) (hrd w' (hs.get 1 rfl)) (by rw [lim_eq]; omega))
        rw [hd, numB_num, Nat.mod_eq_of_lt (by omega)] at h
        exact h) ?_
      refine ⟨(Bx.num (l.drop 28) : Int), wrap_i64 (by omega) (by omega), ?_⟩
      intro β w' hs
      refine hs.fin [] ⟨?_, rfl⟩
      unfold looksV
      rw [hlk]
      rfl
    · exact none_ (by unfold Bx.looks; rw [if_neg (fun q => hf q.2)]) _ _ _
  · exact ⟨Sub.refl, Sub.refl, none_ (by unfold Bx.looks; rw [if_neg (fun q => h32 (by have := q.1; omega))]) _ _ _⟩
end Go.Proofs.YthkjfepbmnabkaaDoor.Sx

/- The document's finds. -/
namespace Go.Proofs.YthkjfepbmnabkaaDoor.Sx
open Go
attribute [local irreducible] Calls

def findV (x : Hp) : List Value := [.int .i64 (x.1 : Int), .int .i64 (x.2 : Int)]
def findsV (l : List Hp) : List Value := l.flatMap findV
abbrev fndF (A : Option Addr) (l : List Hp) (c : Nat) : Fact := rowF ty_ostiaryref05_Find 2 (.slice A l.length c) l.length (findsV l)
theorem findsV_snoc (l : List Hp) (x : Hp) : findsV (l ++ [x]) = findsV l ++ findV x := by simp [findsV]
theorem findV_one (x : Hp) : ∀ u ∈ findV x, u.oneCell' = true := by
  intro u hu
  simp only [findV, List.mem_cons, List.not_mem_nil, or_false] at hu
  rcases hu with rfl | rfl <;> rfl
theorem looks_hit (t : List UInt8) (i : Nat) : ∃ (v : Nat) (ok : Bool), looksV ((t.drop i).take 32) = .tuple #[.int .i64 (v : Int), .bool ok] ∧ ((ok = true ∧ 0 < v ∧ hit t i = some v) ∨ (ok = true ∧ ¬ 0 < v ∧ hit t i = none) ∨ (ok = false ∧ hit t i = none)) := by
  unfold looksV hit
  cases h : Bx.looks ((t.drop i).take 32) with
  | none => exact ⟨0, false, rfl, .inr (.inr ⟨rfl, rfl⟩)⟩
  | some n =>
    refine ⟨n, true, rfl, ?_⟩
    by_cases h0 : 0 < n
    · exact .inl ⟨rfl, h0, if_pos h0⟩
    · exact .inr (.inl ⟨rfl, h0, if_neg h0⟩)
theorem rfinds_c (w : World) (A : Option Addr) (t : List UInt8) (c : Nat) (hr : Bs w A t) (hl : t.length ≤ 1000000) (hc : t.length ≤ c) :
    Con Tryd.prog n_ostiaryref05_Finds #[.slice A t.length c] w [] fun v Fs => ∃ A' c', v = .slice A' (scan t 0).length c' ∧ (scan t 0).length ≤ c' ∧ Fs = [fndF A' (scan t 0) c'] := by
  have g := good_ostiaryref05_Finds w (Un [])
  refine con_of_sx (cx := cx_ostiaryref05_Finds w (Un [])) g b_ostiaryref05_Finds rfl rfl (β := Va.z) [.c (.v (.slice A t.length c))] 0 [] [fndF none [] 0, oldF w] rfl rfl ((old_sat rfl).nilRow _ _) ?_
  refine loop_rule (ι := List Hp × Nat × Option Addr × Nat) 0 (fun i => [(0, .c (.v (.slice A t.length c))), (3, .c (.v (.slice i.2.2.1 i.1.length i.2.2.2))), (4, .c (.v (.int .i64 (i.2.1 : Int))))]) (fun _ => []) (fun i => [fndF i.2.2.1 i.1 i.2.2.2, oldF w])
    (fun i => scan t 0 = i.1 ++ scan t i.2.1 ∧ i.2.1 ≤ t.length ∧ i.1.length ≤ i.2.1 ∧ i.1.length ≤ i.2.2.2) (fun i => t.length - i.2.1) ([], 0, none, 0) ⟨rfl, Nat.zero_le _, Nat.zero_le _, Nat.zero_le _⟩ (Ent.same ⟨rfl, rfl, rfl, trivial⟩ rfl) g ?_
  rintro ⟨got, i, A1, c1⟩ ⟨hsc, hi, hgi, hgc⟩
  simp only at hsc hi hgi hgc
  simp only
  refine ⟨((t.length - i : Nat) : Int), by rw [wrap_i64 (by omega) (by omega)]; omega, ?_⟩
  refine BIf.dec (fun hlt => ?_) (fun hge => ?_)
  · have hlt0 : (32 : Int) ≤ ((t.length - i : Nat) : Int) := hlt
    have hlt : i + 32 ≤ t.length := by omega
    refine ⟨((i + 32 : Nat) : Int), by rw [wrap_i64 (by omega) (by omega)]; rfl, ?_⟩
    refine ⟨c, i + 32, i, 32, c - i, _, rfl, rfl, rfl, Nat.le_refl _, by omega, by omega, by omega, rfl, rfl, ?_⟩
    obtain ⟨v, ok, hv, hhit⟩ := looks_hit t i
    have e32 : ((t.drop i).take 32).length = 32 := by simp; omega
    refine call_pu (v := .tuple #[.int .i64 (v : Int), .bool ok]) (fun β w' hs => by
      have h := looks_c w' (cutA A c i 1) ((t.drop i).take 32) (c - i) (Bs.cutB (Rd.old hr (hs.get 1 rfl)) hc (by omega : i ≤ i + 32) hlt (by simp)) (by omega) (by omega)
      rw [hv, e32] at h
      exact h) ?_
    rcases hhit with ⟨rfl, hv0, hh⟩ | ⟨rfl, hv0, hh⟩ | ⟨rfl, hh⟩
    · rw [scan_hit hlt hh] at hsc
      refine BIf.dec (fun hp => ?_) (fun hp => ?_)
      · intro b0
        refine ⟨1, got.length, got.length + 1, findsV got, findV (i, v), findsV (got ++ [(i, v)]), rfl, fun β w hs => row_rd (hs.get 0 rfl), findV_one _, rfl, (findsV_snoc _ _).symm, by rw [maxLen_eq]; omega, by show (got.length + 1) * 16 ≤ _; omega, ?_⟩
        intro A' c' q1 q2 _
        refine ⟨((i + 32 : Nat) : Int), by rw [wrap_i64 (by omega) (by omega)]; rfl, ?_⟩
        have hle : (got ++ [(i, v)] : List Hp).length = got.length + 1 := by simp
        refine ⟨(got ++ [(i, v)], i + 32, A', c'), ⟨by show scan t 0 = got ++ [(i, v)] ++ scan t (i + 32); rw [hsc]; simp, hlt, by show (got ++ [(i, v)] : List Hp).length ≤ i + 32; omega, by show (got ++ [(i, v)] : List Hp).length ≤ c'; omega⟩, by show t.length - (i + 32) < t.length - i; omega, ?_⟩
        simp only [fndF, hle]
        exact Ent.mk' ⟨rfl, rfl, rfl, trivial⟩ rfl (fun β w' hs => hs.weaken (List.Sublist.refl _) (List.sublist_cons_self _ _))
      · exact (hp (by show (0 : Int) < (v : Int); omega)).elim
    · rw [scan_no hlt hh] at hsc
      refine BIf.dec (fun hp => ?_) (fun hp => ?_)
      · have hp0 : (0 : Int) < (v : Int) := hp
        omega
      · refine ⟨((i + 1 : Nat) : Int), by rw [wrap_i64 (by omega) (by omega)]; rfl, ?_⟩
        refine ⟨(got, i + 1, A1, c1), ⟨hsc, by show i + 1 ≤ _; omega, by show got.length ≤ i + 1; omega, hgc⟩, by show t.length - (i + 1) < t.length - i; omega, Ent.same ⟨rfl, rfl, rfl, trivial⟩ rfl⟩
    · rw [scan_no hlt hh] at hsc
      refine ⟨((i + 1 : Nat) : Int), by rw [wrap_i64 (by omega) (by omega)]; rfl, ?_⟩
      refine ⟨(got, i + 1, A1, c1), ⟨hsc, by show i + 1 ≤ _; omega, by show got.length ≤ i + 1; omega, hgc⟩, by show t.length - (i + 1) < t.length - i; omega, Ent.same ⟨rfl, rfl, rfl, trivial⟩ rfl⟩
  · have hge0 : ¬ (32 : Int) ≤ ((t.length - i : Nat) : Int) := hge
    rw [scan_end (t := t) (i := i) (by omega), List.append_nil] at hsc
    intro β w' hs
    rw [hsc]
    exact hs.fin [0] ⟨A1, c1, rfl, hgc, rfl⟩
end Go.Proofs.YthkjfepbmnabkaaDoor.Sx

/- BoxHandles: what the program finds. -/
namespace Go.Proofs.YthkjfepbmnabkaaDoor.Sx
open Go
attribute [local irreducible] Calls

theorem finds_c (w0 : World) (A : Option Addr) (t : List UInt8) (c m : Nat) (hr : Bs w0 A t) (hl : t.length ≤ 1000000) (hc : t.length ≤ c) (hm0 : 0 < m) (hm1 : m ≤ 1000) :
    Con Tryd.prog n_ostiarylaw05_finds #[.slice A t.length c, .int .i64 (m : Int)] w0 [] fun v Fs => ∃ A' c', v = .slice A' ((scan t 0).take m).length c' ∧ Fs = [fndF A' ((scan t 0).take m) c'] := by
  have g := good_ostiarylaw05_finds w0 (Un [])
  refine con_of_sx (cx := cx_ostiarylaw05_finds w0 (Un [])) g b_ostiarylaw05_finds rfl rfl (β := Va.z) [.c (.v (.slice A t.length c)), .c (.v (.int .i64 (m : Int)))] 0 [] [bsF A t] rfl rfl ((Sat.start rfl).rd (fun _ h => by cases h) hr) ?_
  refine call_con [] (fun β w hs => handles_c w A t.length c) ?_
  rintro v Fs ⟨bx, rfl, rfl⟩
  refine range_rule (α := Hp) (ι := List Hp × Option Addr × Nat) (κ := List Hp × Option Addr × Nat) g rfl (cv := [.pointer (some ⟨bx, 0, none⟩)]) rfl (by kernel_rfl) 2 (Nat.le_refl 2)
    (fun pre i => pre = i.1 ∧ i.1.length < m) (fun i => [⟨1, ty_sl_ostiaryref05_Find, [.v (.slice i.2.1 i.1.length i.2.2)]⟩, ⟨0, ty_int, [.v (.int .i64 (m : Int))]⟩]) (fun i => [fndF i.2.1 i.1 i.2.2]) (fun i => ⟨rfl, trivial⟩)
    (fun e pre i => e = .exit 0 ∧ pre = i.1 ∧ i.1.length = m) (fun i => [⟨1, ty_sl_ostiaryref05_Find, [.v (.slice i.2.1 i.1.length i.2.2)]⟩, ⟨0, ty_int, [.v (.int .i64 (m : Int))]⟩]) (fun i => [fndF i.2.1 i.1 i.2.2]) (fun i => ⟨rfl, trivial⟩)
    [bkF bx ty_sl_uint8 [.slice A t.length c]] [bsF A t] [] ⟨rfl, trivial⟩ (fun g h => by cases h) ([], none, 0) ⟨rfl, hm0⟩ (fun β w hs => ⟨β, Agr.refl _ _, ?_⟩) insH
    (fun xs Fs' => xs = scan t 0 ∧ Fs' = []) (fun pre Fs' => (∃ r, scan t 0 = pre ++ r) ∧ Fs' = [])
    (fun l w f0 R J Jx hJ0 hJo hRo hY hm => (handles_it l w bx A t c f0 R J Jx hJ0 hJo hRo hY hl hc hm).mono fun _ Fs h => h) ?_ ?_ ?_
  · exact (hs.nilRow ty_ostiaryref05_Find 2).perm [1, 2, 0]
  · rintro ⟨got, A0, c0⟩ pre x args X W S l bs pn pn' hbs ⟨hpre, hlt⟩ ⟨rfl, rfl⟩
    simp only at hpre hlt
    subst hpre
    refine ⟨_, rfl, ?_⟩
    intro b0
    refine ⟨2, pre.length, pre.length + 1, findsV pre, findV x, findsV (pre ++ [x]), rfl, fun β w hs => row_rd (hs.get 0 rfl), findV_one x, rfl, (findsV_snoc _ _).symm, by rw [maxLen_eq]; omega, by show (pre.length + 1) * 16 ≤ _; omega, ?_⟩
    intro A' c' q1 q2 q3
    have hle : (pre ++ [x]).length = pre.length + 1 := by simp
    refine BIf.dec (fun h3 => ?_) (fun h3 => ?_)
    · have h30 : ((pre.length + 1 : Nat) : Int) = (m : Int) := h3
      refine ⟨(pre ++ [x], A', c'), ⟨rfl, rfl, by rw [hle]; omega⟩, ?_⟩
      simp only [fndF, hle]
      exact Ent.mk' trivial rfl (fun β w hs => (hs.perm [2]).lower (n' := 2))
    · have h30 : ¬ ((pre.length + 1 : Nat) : Int) = (m : Int) := h3
      refine ⟨(pre ++ [x], A', c'), ⟨rfl, by rw [hle]; omega⟩, ?_⟩
      simp only [fndF, hle]
      exact Ent.mk' trivial rfl (fun β w hs => (hs.perm [2]).lower (n' := 2))
  · rintro xs ⟨got, A0, c0⟩ Fs ⟨hpre, hlt⟩ ⟨hxs, rfl⟩
    simp only at hpre hlt
    have e : (scan t 0).take m = got := by rw [← hxs, hpre, List.take_of_length_le (by omega)]
    intro β w' hs
    rw [e]
    exact (hs.keepB (List.nil_sublist _)).fin [0] ⟨A0, c0, rfl, rfl⟩
  · rintro e pre ⟨got, A0, c0⟩ Fs ⟨rfl, hpre, hlt⟩ ⟨⟨r, hr⟩, rfl⟩
    simp only at hpre hlt
    have e : (scan t 0).take m = got := by rw [hr, hpre, ← hlt, List.take_left]
    intro β w' hs
    rw [e]
    exact (hs.keepB (List.nil_sublist _)).fin [0] ⟨A0, c0, rfl, rfl⟩
end Go.Proofs.YthkjfepbmnabkaaDoor.Sx

/- BoxHandles: two lists of finds compared. -/
namespace Go.Proofs.YthkjfepbmnabkaaDoor.Sx
open Go
attribute [local irreducible] Calls

theorem find_fields : (Tryd.prog.fieldsOf ty_ostiaryref05_Find).toList.map (fun f => (f.name, f.type, f.offset)) = [("At", 3, 0), ("N", 3, 1)] := by kernel_rfl
theorem find_guard : Tryd.prog.eqGuardType Tryd.prog.depth ty_ostiaryref05_Find = false := by kernel_rfl
theorem find_held : Tryd.prog.stoodInHeld ty_ostiaryref05_Find = false := by kernel_rfl
theorem find_under : Tryd.prog.underlying ty_ostiaryref05_Find = some (.struct (Tryd.prog.fieldsOf ty_ostiaryref05_Find)) := by kernel_rfl
theorem int_agg (w : World) : (isAgg ty_int).run Tryd.prog w = .ok false w := (ok3).run_agg w
theorem neq_find (x y : Hp) (p q : Operand) (w : World) : (binSem .neq ty_ostiaryref05_Find p q (.agg #[.int .i64 (x.1 : Int), .int .i64 (x.2 : Int)]) (.agg #[.int .i64 (y.1 : Int), .int .i64 (y.2 : Int)])).run Tryd.prog w = .ok (.bool (!decide (x = y))) w := by
  have hint : Tryd.prog.underlying ty_int = some (.int .i64) := (ok3).real (d := .int .i64) rfl rfl
  obtain ⟨f1, f2, hf, h1, h2⟩ : ∃ f1 f2 : Field, (Tryd.prog.fieldsOf ty_ostiaryref05_Find).toList = [f1, f2] ∧ (f1.name, f1.type, f1.offset) = ("At", 3, 0) ∧ (f2.name, f2.type, f2.offset) = ("N", 3, 1) := by
    have h := find_fields
    generalize (Tryd.prog.fieldsOf ty_ostiaryref05_Find).toList = fs at h ⊢
    rcases fs with _ | ⟨f1, _ | ⟨f2, _ | ⟨f3, r⟩⟩⟩
    · cases h
    · simp at h
    · simp only [List.map_cons, List.map_nil, List.cons.injEq, and_true] at h
      exact ⟨f1, f2, rfl, h.1, h.2⟩
    · simp at h
  simp only [Prod.mk.injEq] at h1 h2
  have he : (Op.equalIn 10000 ty_ostiaryref05_Find (.agg #[.int .i64 (x.1 : Int), .int .i64 (x.2 : Int)]) (.agg #[.int .i64 (y.1 : Int), .int .i64 (y.2 : Int)])).run Tryd.prog w = .ok (decide (x = y)) w := by
    rw [run_equalIn_struct w 9999 _ _ _ find_under find_held, hf]
    have hp : ∀ (z : Hp) (w : World), (part ty_int #[.int .i64 (z.1 : Int), .int .i64 (z.2 : Int)] 0).run Tryd.prog w = .ok (.int .i64 (z.1 : Int)) w := fun z w => by simp [part, int_agg]
    have hq : ∀ (z : Hp) (w : World), (part ty_int #[.int .i64 (z.1 : Int), .int .i64 (z.2 : Int)] 1).run Tryd.prog w = .ok (.int .i64 (z.2 : Int)) w := fun z w => by simp [part, int_agg]
    have hi : ∀ (a b : Int) (w : World), (Op.equalIn 9999 ty_int (.int .i64 a) (.int .i64 b)).run Tryd.prog w = .ok (a == b) w := fun a b w => run_equalIn_int w 9998 ty_int .i64 .i64 a b hint
    have n1 : f1.name ≠ "_" := by rw [h1.1]; decide
    have n2 : f2.name ≠ "_" := by rw [h2.1]; decide
    have t1 : f1.type = ty_int := h1.2.1
    have t2 : f2.type = ty_int := h2.2.1
    simp only [Op.eqFields, n1, n2, ne_eq, not_false_eq_true, if_true, t1, t2, h1.2.2, h2.2.2, Sem.run_bind, hp, hq, hi, Result.andThen_ok, Sem.run_ite, Sem.run_pure]
    obtain ⟨a, b⟩ := x
    obtain ⟨c, d⟩ := y
    by_cases hac : a = c
    · subst hac
      by_cases hbd : b = d
      · subst hbd
        simp
      · have : ¬ (b : Int) = (d : Int) := by omega
        simp [this, hbd]
    · have : ¬ (a : Int) = (c : Int) := by omega
      simp [this, hac]
  unfold binSem
  simp only [Sem.run_bind, run_eqGuard_agg w _ _ _ _ _ _ find_guard, Result.andThen_ok, run_neq_struct, he]
theorem rdFind {w : World} {ad : Addr} {l : List Hp} (h : Rd 2 (some ad) l.length (findsV l) w) {k : Nat} {x : Hp} (hx : l[k]? = some x) : ∀ j u, (findV x)[j]? = some u → w.cell? ((ad.add (k * 2)).add j) = some u := by
  obtain ⟨hil, hie⟩ := List.getElem?_eq_some_iff.1 hx
  have h2 := Rd.elem (f := findV) (fun _ => rfl) h rfl hil
  rw [hie] at h2
  exact h2
theorem lsame_c (w : World) (A B : Option Addr) (l m : List Hp) (c d : Nat) (hl : Rd 2 A l.length (findsV l) w) (hm : Rd 2 B m.length (findsV m) w) (hn : l.length ≤ 1000000) :
    Pu Tryd.prog n_ostiarylaw05_same #[.slice A l.length c, .slice B m.length d] w (.bool (decide (l = m))) := by
  have g := good_ostiarylaw05_same w (Un [])
  refine con_of_sx (cx := cx_ostiarylaw05_same w (Un [])) g b_ostiarylaw05_same rfl rfl (β := Va.z) [.c (.v (.slice A l.length c)), .c (.v (.slice B m.length d))] 0 [] [oldF w] rfl rfl (old_sat rfl) ?_
  refine BIf.not (BIf.dec (fun h0 => ?_) (fun h0 => ?_))
  · have hlen : l.length = m.length := by omega
    refine loop_rule 0 (fun k : Nat => [(0, .c (.v (.slice A l.length c))), (1, .c (.v (.slice B m.length d))), (12, .c (.v (.int .i64 l.length))), (13, .c (.v (.int .i64 k)))]) (fun _ => []) (fun _ => [oldF w])
      (fun k => k ≤ l.length ∧ l.take k = m.take k) (fun k => l.length - k) 0 ⟨Nat.zero_le _, by simp⟩ (Ent.same ⟨rfl, rfl, rfl, rfl, trivial⟩ rfl) g ?_
    rintro k ⟨hk, htk⟩
    refine BIf.dec (fun hlt => ?_) (fun hge => ?_)
    · have hlt0 : (k : Int) < l.length := hlt
      have hkl : k < l.length := by omega
      have hkm : k < m.length := by omega
      obtain ⟨x, hx, _⟩ := at_lt hkl
      obtain ⟨y, hy, _⟩ := at_lt hkm
      obtain ⟨ad, hA, _⟩ := hl.2 (by omega)
      obtain ⟨bd, hB, _⟩ := hm.2 (by omega)
      refine draw_rule g p_ostiarylaw05_same_6 (by kernel_rfl) [] [oldF w] Sub.refl ?_
      refine ⟨ad, k, hA, rfl, hkl, findV x, rfl, fun β w' hs => rdFind (by have h := Rd.old hl (hs.get 0 rfl); rw [hA] at h; exact h) hx, ?_⟩
      refine ⟨bd, k, hB, rfl, hkm, findV y, rfl, fun β w' hs => rdFind (by have h := Rd.old hm (hs.get 0 rfl); rw [hB] at h; exact h) hy, ?_⟩
      refine ⟨!decide (x = y), fun β w' => neq_find x y _ _ w', ?_⟩
      have hsn : ∀ (l : List Hp) (x : Hp), l[k]? = some x → l.take (k + 1) = l.take k ++ [x] := fun l x h => by rw [List.take_add_one, h]; rfl
      refine BIf.not (BIf.dec (fun he => ?_) (fun he => ?_))
      · refine ⟨((k + 1 : Nat) : Int), by rw [wrap_i64 (by omega) (by omega)]; rfl, ?_⟩
        refine ⟨k + 1, ⟨hkl, by rw [hsn l x hx, hsn m y hy, htk, he]⟩, by omega, Ent.same ⟨rfl, rfl, rfl, rfl, trivial⟩ rfl⟩
      · intro β w' hs
        refine hs.fin [] ⟨?_, rfl⟩
        show Value.bool false = _
        congr 1
        refine (decide_eq_false fun q => he ?_).symm
        rw [q, hy] at hx
        exact (Option.some.inj hx).symm
    · have hge0 : ¬ (k : Int) < l.length := hge
      obtain rfl : k = l.length := by omega
      rw [List.take_length, List.take_of_length_le (by omega)] at htk
      intro β w' hs
      refine hs.fin [] ⟨?_, rfl⟩
      show Value.bool true = _
      congr 1
      exact (decide_eq_true htk).symm
  · intro β w' hs
    refine hs.fin [] ⟨?_, rfl⟩
    show Value.bool false = _
    congr 1
    exact (decide_eq_false (fun h => h0 (by rw [h]))).symm
end Go.Proofs.YthkjfepbmnabkaaDoor.Sx

/- BoxHandles: the law's walk. -/
namespace Go.Proofs.YthkjfepbmnabkaaDoor.Sx
open Go
attribute [local irreducible] Calls

theorem scan_len (t : List UInt8) : ∀ (k i : Nat), t.length + 32 - i ≤ k → (scan t i).length ≤ t.length - i := by
  intro k
  induction k with
  | zero => intro i h; rw [scan_end (by omega)]; exact Nat.zero_le _
  | succ k ih =>
    intro i h
    by_cases hi : i + 32 ≤ t.length
    · cases hh : hit t i with
      | none =>
        rw [scan_no hi hh]
        have := ih (i + 1) (by omega)
        omega
      | some n =>
        rw [scan_hit hi hh, List.length_cons]
        have := ih (i + 32) (by omega)
        omega
    · rw [scan_end hi]; exact Nat.zero_le _
theorem cutA0 {A : Option Addr} {c s : Nat} : cutA A c 0 s = A := by
  cases A <;> simp [cutA, Addr.add]
theorem findsV_take : ∀ (l : List Hp) (k : Nat), findsV (l.take k) = (findsV l).take (k * 2)
  | [], k => by simp [findsV]
  | x :: r, 0 => by simp [findsV]
  | x :: r, k + 1 => by
    have ih := findsV_take r k
    simp only [findsV, List.take_succ_cons, List.flatMap_cons] at ih ⊢
    rw [ih, show (k + 1) * 2 = (findV x).length + k * 2 by show _ = 2 + k * 2; omega, List.take_length_add_append]
theorem Rd.findsTake {w : World} {A : Option Addr} {l : List Hp} (h : Rd 2 A l.length (findsV l) w) {k : Nat} (hk : k ≤ l.length) : Rd 2 A (l.take k).length (findsV (l.take k)) w := by
  have hl : (l.take k).length = k := by simp; omega
  have h1 : (findsV l).length = l.length * 2 := h.1
  refine ⟨by rw [hl, findsV_take, List.length_take]; omega, fun hp => ?_⟩
  obtain ⟨ad, q, hc⟩ := h.2 (by omega)
  refine ⟨ad, q, fun j u hu => hc j u ?_⟩
  rw [findsV_take, List.getElem?_take] at hu
  split at hu
  · exact hu
  · cases hu
structure HaS where
  k : Nat
  cur : List UInt8
  A : Option Addr
  c : Nat
theorem boxHandles_c (w : World) (n : Nat) (hn : n < 4294967296) (A B : Option Addr) (p q : List UInt8) (c d : Nat) (hp : Bs w A p) (hpc : p.length ≤ c) (hq : Bs w B q) (hqm : q.length ≤ 9223372036854775807) (k : UInt8) :
    Pu Tryd.prog n_ostiarylaw05_BoxHandles #[.int .u32 n, .slice A p.length c, .slice B q.length d, byte k] w (.bool true) := by
  have g := good_ostiarylaw05_BoxHandles w (Un [])
  refine con_of_sx (cx := cx_ostiarylaw05_BoxHandles w (Un [])) g b_ostiarylaw05_BoxHandles rfl rfl (β := Va.z) [.c (.v (.int .u32 n)), .c (.v (.slice A p.length c)), .c (.v (.slice B q.length d)), .c (.v (byte k))] 0 [] [oldF w] rfl rfl (old_sat rfl) ?_
  refine call_con [] (fun β w' hs => awake05_c w') ?_
  rintro v Fs ⟨rfl, rfl⟩
  refine ⟨(n : Int), wrap_i64 (by omega) (by omega), ?_⟩
  refine call_con [] (fun β w' hs => handle_c w' n) ?_
  rintro v Fs ⟨A1, c1, rfl, h1, _, rfl⟩
  obtain ⟨ok, hok⟩ : ∃ ok, decide ((0 : Int) < (n : Int)) = ok := ⟨_, rfl⟩
  refine call_pu (v := .tuple #[.int .i64 (n : Int), .bool ok]) (fun β w' hs => by
    have h := number_c w' A1 (Bx.handle n) c1 (row_rd (hs.get 0 rfl)) h1 (by show 32 ≤ _; decide)
    unfold numberV at h
    rw [Bx.looks_handle hn] at h
    simp only [hok] at h
    exact h) ?_
  refine ⟨(n : Int), wrap_i64 (by omega) (by omega), ?_⟩
  refine call_con [] (fun β w' hs => rhandle_c w' n hn) ?_
  rintro v Fs ⟨A2, c2, rfl, h2, _, rfl⟩
  refine call_pu (v := .bool true) (fun β w' hs => by
    have h := pu_of (same_c w' A1 A2 (Bx.handle n) (Bx.handle n) c1 c2 (row_rd (hs.get 1 rfl)) (row_rd (hs.get 0 rfl)))
    rw [decide_eq_true rfl] at h
    exact h) ?_
  conv => whnf
  generalize decide ((0 : Int) < (n : Int)) = okk at hok ⊢
  subst hok
  cases okk
  case' true =>
    conv => whnf
    refine ⟨(n : Int), wrap_i64 (by omega) (by omega), ?_⟩
    refine BIf.not (BIf.dec (fun _ => ?_) (fun h => absurd rfl h))
  case' false => conv => whnf
  all_goals
    refine call_con [] (fun β w' hs => con_row (cut_c w' A p c 80 (Rd.old hp (hs.get 2 rfl)) hpc (by rw [lim_eq]; decide))) ?_
    rintro v Fs ⟨A3, c3, rfl, h3, _, rfl⟩
    have hp80 : (p.take 80).length ≤ 80 := by simp; omega
    generalize p.take 80 = p0 at h3 hp80 ⊢
    refine loop_rule (ι := HaS) 0 (fun i => [(50, .c (.v (.slice B q.length d))), (51, .c (.v (.int .i64 q.length))), (52, .c (.v (.int .i64 i.k))), (1, .c (.v (.slice i.A i.cur.length i.c))), (3, .c (.v (byte k)))]) (fun _ => []) (fun i => [browF ty_uint8 i.A i.cur i.c, oldF w])
      (fun i => i.k ≤ q.length ∧ i.cur.length ≤ 80 + 32 * min i.k 3 ∧ i.cur.length ≤ i.c) (fun i => q.length - i.k) ⟨0, p0, A3, c3⟩ ⟨Nat.zero_le _, by show p0.length ≤ 80 + 32 * min 0 3; omega, h3⟩ (Ent.mk' ⟨rfl, rfl, rfl, rfl, rfl, trivial⟩ rfl (fun β w hs => hs.perm [0, 3])) g ?_
    rintro ⟨j, cur, A4, c4⟩ ⟨hj, hcur, hcc⟩
    simp only at hj hcur hcc
    simp only
    refine BIf.dec (fun hlt => ?_) (fun hge => ?_)
    · have hlt0 : (j : Int) < q.length := hlt
      have hjq : j < q.length := by omega
      obtain ⟨bd, hB⟩ := Bs.addr hq (by omega)
      refine ⟨bd, j, hB, rfl, hjq, byte q[j], fun β w hs => Bs.cell (Rd.old hq (hs.get 1 rfl)) hB hjq, ?_⟩
      have hxl := q[j].toNat_lt
      generalize hxx : q[j].toNat = x at hxl
      refine BIf.dec (fun hj3 => ?_) (fun hj3 => ?_)
      · have hj30 : (j : Int) < 3 := hj3
        refine ⟨(x : Int), by rw [hxx]; exact wrap_i64 (by omega) (by omega), ?_⟩
        obtain ⟨m, hm⟩ : ∃ m, min x cur.length = m := ⟨_, rfl⟩
        refine ⟨(m : Int), by show min (x : Int) (cur.length : Int) = _; omega, ?_⟩
        have hml : m ≤ cur.length := by omega
        have hS0 : ∀ {n : Nat} {H : List Bk} {F : List Fact}, Sub (cx_ostiarylaw05_BoxHandles w (Un [])) n H F [] [] := fun {n H F} => Sub.of (List.nil_sublist _) (List.nil_sublist _)
        refine draw_rule g p_ostiarylaw05_BoxHandles_13 (by kernel_rfl) [] [] hS0 ?_
        refine ⟨c4, m, 0, m, c4, _, rfl, rfl, rfl, Nat.le_refl _, by omega, Nat.zero_le _, rfl, rfl, rfl, ?_⟩
        refine ⟨(x : Int), by rw [hxx]; exact wrap_i64 (by omega) (by omega), ?_⟩
        refine ⟨((x + 1 : Nat) : Int), by rw [wrap_i64 (by omega) (by omega)]; rfl, ?_⟩
        refine ⟨c4, cur.length, m, cur.length - m, c4 - m, _, rfl, rfl, rfl, Nat.le_refl _, hcc, hml, rfl, rfl, rfl, ?_⟩
        have et : (cur.take m).length = m := by simp; omega
        have ed : (cur.drop m).length = cur.length - m := by simp
        refine call_con [] (R := fun v Fs => ∃ A c, v = .slice A m c ∧ m ≤ c ∧ c ≤ maxLen ∧ Fs = [rowF ty_uint8 1 (.slice A m c) m ((cur.take m).map byte)]) (fun β w' hs => by
          have h := con_row (copy_c w' (cutA A4 c4 0 1) (cur.take m) c4 (Bs.cutB (row_rd (hs.get 0 rfl)) hcc (Nat.zero_le m) hml (by simp)) (by rw [lim_eq, et]; omega))
          simp only [browF, et] at h
          exact h) ?_
        rintro v Fs ⟨A5, c5, rfl, h5, _, rfl⟩
        refine ⟨hS0, ?_⟩
        refine call_con [] (fun β w' hs => rhandle_c w' (x + 1) (by omega)) ?_
        rintro v Fs ⟨A6, c6, rfl, h6, _, rfl⟩
        refine ⟨hS0, ?_⟩
        refine ⟨1, m, m + 32, (cur.take m).map byte, (Bx.handle (x + 1)).map byte, (cur.take m ++ Bx.handle (x + 1)).map byte, rfl, fun β w hs => row_rd (hs.get 0 rfl), bytes_one _, rfl, List.map_append.symm, by rw [maxLen_eq]; omega, by show (m + 32) * 1 ≤ _; omega, ?_⟩
        intro A7 c7 h7 _ _
        refine ⟨hS0, ?_⟩
        refine ⟨1, m + 32, m + 32 + (cur.length - m), (cur.take m ++ Bx.handle (x + 1)).map byte, (cur.drop m).map byte, (cur.take m ++ Bx.handle (x + 1) ++ cur.drop m).map byte, rfl, fun β w hs => by
          have h := Bs.cutB (row_rd (hs.get 2 rfl)) hcc hml (Nat.le_refl cur.length) (m := cur.drop m) (by rw [List.take_of_length_le (by omega)])
          unfold Bs at h
          rw [ed] at h
          exact h, bytes_one _, rfl, List.map_append.symm, by rw [maxLen_eq]; omega, by show (m + 32 + (cur.length - m)) * 1 ≤ _; omega, ?_⟩
        intro A8 c8 h8 _ _
        refine ⟨hS0, ?_⟩
        have hle : (cur.take m ++ Bx.handle (x + 1) ++ cur.drop m).length = m + 32 + (cur.length - m) := by
          rw [List.length_append, List.length_append, et, ed, Bx.handle_len]
        generalize cur.take m ++ Bx.handle (x + 1) ++ cur.drop m = cur2 at hle ⊢
        refine ⟨((j + 1 : Nat) : Int), by rw [wrap_i64 (by omega) (by omega)]; rfl, ?_⟩
        refine ⟨⟨j + 1, cur2, A8, c8⟩, ⟨hjq, by show cur2.length ≤ 80 + 32 * min (j + 1) 3; omega, by show cur2.length ≤ c8; omega⟩, by show q.length - (j + 1) < q.length - j; omega, ?_⟩
        simp only [browF, hle]
        exact Ent.mk' ⟨rfl, rfl, rfl, rfl, rfl, trivial⟩ rfl (fun β w hs => hs.perm [1, 3])
      · have hj30 : ¬ (j : Int) < 3 := hj3
        refine ⟨((j + 1 : Nat) : Int), by rw [wrap_i64 (by omega) (by omega)]; rfl, ?_⟩
        exact ⟨⟨j + 1, cur, A4, c4⟩, ⟨hjq, by show cur.length ≤ 80 + 32 * min (j + 1) 3; omega, hcc⟩, by show q.length - (j + 1) < q.length - j; omega, Ent.same ⟨rfl, rfl, rfl, rfl, rfl, trivial⟩ rfl⟩
    · have hge0 : ¬ (j : Int) < q.length := hge
      have hcl : cur.length ≤ 176 := by omega
      obtain ⟨L, hL⟩ : ∃ L, scan cur 0 = L := ⟨_, rfl⟩
      have hLl : L.length ≤ 176 := by
        have := scan_len cur _ 0 (Nat.le_refl _)
        rw [hL] at this
        omega
      refine call_con [] (R := fun v Fs => ∃ A' c', v = .slice A' L.length c' ∧ L.length ≤ c' ∧ Fs = [fndF A' L c']) (fun β w' hs => by
        have h := rfinds_c w' A4 cur c4 (row_rd (hs.get 0 rfl)) (by omega) hcc
        rw [hL] at h
        exact h) ?_
      rintro v Fs ⟨A5, c5, rfl, h5, rfl⟩
      have hkl := k.toNat_lt
      refine ⟨by omega, ((k.toNat % 4 : Nat) : Int), by rw [Int.tmod_eq_emod_of_nonneg (by omega)]; omega, ?_⟩
      obtain ⟨m, hm⟩ : ∃ m, 1 + k.toNat % 4 = m := ⟨_, rfl⟩
      refine ⟨((k.toNat % 4 : Nat) : Int), wrap_i64 (by omega) (by omega), ?_⟩
      refine ⟨(m : Int), by rw [wrap_i64 (by omega) (by omega)]; omega, ?_⟩
      have hS0 : ∀ {n : Nat} {H : List Bk} {F : List Fact}, Sub (cx_ostiarylaw05_BoxHandles w (Un [])) n H F [] [] := fun {n H F} => Sub.of (List.nil_sublist _) (List.nil_sublist _)
      refine draw_rule g p_ostiarylaw05_BoxHandles_17 (by kernel_rfl) [] [] hS0 ?_
      refine call_con [] (R := fun v Fs => ∃ A' c', v = .slice A' L.length c' ∧ Fs = [fndF A' L c']) (fun β w' hs => by
        have h := finds_c w' A4 cur c4 1000 (row_rd (hs.get 1 rfl)) (by omega) hcc (by decide) (Nat.le_refl _)
        rw [hL, List.take_of_length_le (by omega)] at h
        exact h) ?_
      rintro v Fs ⟨A6, c6, rfl, rfl⟩
      refine ⟨hS0, ?_⟩
      refine call_pu (v := .bool true) (fun β w' hs => by
        have h := lsame_c w' A6 A5 L L c6 c5 (row_rd (hs.get 0 rfl)) (row_rd (hs.get 1 rfl)) (by omega)
        rw [decide_eq_true rfl] at h
        exact h) ?_
      refine ⟨hS0, ?_⟩
      obtain ⟨mm, hmm⟩ : ∃ mm, min L.length m = mm := ⟨_, rfl⟩
      refine ⟨(mm : Int), by show min (L.length : Int) (m : Int) = _; omega, ?_⟩
      refine ⟨c5, mm, 0, mm, c5, _, rfl, rfl, rfl, Nat.le_refl _, by omega, Nat.zero_le _, rfl, rfl, rfl, ?_⟩
      have hLm : (L.take m) = L.take mm := by rw [← hmm, Nat.min_comm, ← List.take_take, List.take_of_length_le (Nat.le_refl L.length)]
      have hLl2 : (L.take mm).length = mm := by simp; omega
      refine call_con [] (R := fun v Fs => ∃ A' c', v = .slice A' mm c' ∧ Fs = [fndF A' (L.take mm) c']) (fun β w' hs => by
        have h := finds_c w' A4 cur c4 m (row_rd (hs.get 2 rfl)) (by omega) hcc (by omega) (by omega)
        rw [hL, hLm, hLl2] at h
        exact h) ?_
      rintro v Fs ⟨A8, c8, rfl, rfl⟩
      refine ⟨hS0, ?_⟩
      refine call_pu (v := .bool true) (fun β w' hs => by
        have h := lsame_c w' A8 (cutA A5 c5 0 2) (L.take mm) (L.take mm) c8 c5 (row_rd (hs.get 0 rfl)) (by rw [cutA0]; exact (row_rd (hs.get 2 rfl)).findsTake (by omega)) (by omega)
        rw [decide_eq_true rfl, hLl2] at h
        exact h) ?_
      refine ⟨hS0, ?_⟩
      intro β w' hs
      exact hs.fin [] ⟨rfl, rfl⟩
end Go.Proofs.YthkjfepbmnabkaaDoor.Sx

/- What a statement's proof has of its arguments, in this executor's words. -/
namespace Go.Proofs.YthkjfepbmnabkaaDoor.Sx
open Go Go.RowKit

theorem below_of {w w' : World} (h : Chg None_ w w') : Below w.heap.size w w' :=
  ⟨h.os, h.tape, h.output, h.size, fun k hk => h.same k hk (fun q => q)⟩
theorem u8_of {x : Int} (h : (Lit.int .u8 x).wf = true) : ∃ k : UInt8, Value.int .u8 x = byte k := by
  have hx : 0 ≤ x ∧ x ≤ 255 := by
    have h2 : IntKind.u8.min ≤ x ∧ x ≤ IntKind.u8.max := by simpa [Lit.wf] using h
    exact h2
  refine ⟨UInt8.ofNat x.toNat, ?_⟩
  unfold byte
  rw [UInt8.toNat_ofNat']
  congr 1
  omega
theorem row_bs {w : World} {a : Option Addr} {len cap : Nat} {zs : List Int}
    (h : (a = none ∧ len = 0 ∧ cap = 0 ∧ zs = []) ∨ ∃ x, a = some x ∧ len ≤ cap ∧ cap ≤ maxLen ∧ zs.length = cap ∧ (∀ i, i < zs.length → w.cell? (x.add i) = some (.int .u8 (zs.getD i 0))) ∧ ∀ n ∈ zs, (Lit.int .u8 n).wf = true) :
    ∃ p : List UInt8, p.length = len ∧ Bs w a p ∧ len ≤ cap ∧ cap ≤ maxLen := by
  rcases h with ⟨rfl, rfl, rfl, rfl⟩ | ⟨x, rfl, h1, h2, rfl, h3, h4⟩
  · exact ⟨[], rfl, Bs.nil _ _, Nat.le_refl _, Nat.zero_le _⟩
  · have hl : ((zs.take len).map (fun z : Int => UInt8.ofNat z.toNat)).length = len := by simp; omega
    refine ⟨(zs.take len).map (fun z : Int => UInt8.ofNat z.toNat), hl, ⟨by simp, fun _ => ⟨x, rfl, fun j u hj => ?_⟩⟩, h1, h2⟩
    have hjl : j < len := by
      have := (List.getElem?_eq_some_iff.1 hj).1
      simp at this; omega
    have hjz : j < zs.length := by omega
    rw [h3 j hjz, ← hj]
    obtain ⟨k, hk⟩ := u8_of (h4 _ (List.getElem_mem hjz))
    have hz : zs.getD j 0 = zs[j] := by simp [hjz]
    simp only [List.getElem?_map, List.getElem?_take, if_pos hjl, List.getElem?_eq_getElem hjz, Option.map_some, hz, hk]
    have hkk : zs[j] = (k.toNat : Int) := by simpa [byte] using hk
    simp [hkk]
end Go.Proofs.YthkjfepbmnabkaaDoor.Sx

/- Tables that are laid: what their cells are. -/
namespace Go.Proofs.YthkjfepbmnabkaaDoor.Sx
open Go

theorem rd_of_ints {H : Type} {enc : TypeId × Value → H} {P : Program} {W : World} {base : Nat} {sp : Nat → Bool} {held : Bool} {fuel g n : Nat} {t e : TypeId} {k : IntKind} {cs : Array Value} {zs : List Int} {q : List MemPlace}
    (ht : P.underlying t = some (.array n e)) (he : P.underlying e = some (.int k)) (hc : P.cellsOf e = 1) (hd : DataW.trod enc P W base sp held fuel t cs.toList = some (.agg (zs.map fun z => .lit (.int k z)), q)) (hcell : ∀ j, W.cell? ⟨g, j, none⟩ = cs[j]?) :
    Rd 1 (some ⟨g, 0, none⟩) zs.length (zs.map (Value.int k)) W := by
  obtain ⟨xs, m, _, hx, hlen, hn, hel⟩ := DataW.trod_array ht hd
  simp only [Prod.mk.injEq, DataW.agg.injEq] at hx
  have hzn : zs.length = n := by
    have h9 := congrArg List.length hx.1
    simp only [List.length_map] at h9
    omega
  refine ⟨by simp, fun hp => ⟨_, rfl, fun j u hu => ?_⟩⟩
  rw [List.getElem?_map] at hu
  obtain ⟨z, hz, rfl⟩ := Option.map_eq_some_iff.1 hu
  have hj : j < zs.length := (List.getElem?_eq_some_iff.1 hz).1
  have h1 := hel j (by omega)
  have h2 : (xs.map (·.1))[j]? = some (.lit (.int k z)) := by rw [← hx.1, List.getElem?_map, hz]; rfl
  rw [List.getElem?_map] at h2
  obtain ⟨x, hxj, hx1⟩ := Option.map_eq_some_iff.1 h2
  rw [hxj, hc, Nat.mul_one] at h1
  obtain ⟨y, e1, e2, _⟩ := DataW.trod_int he h1
  have hy : y = z := by
    rw [e2] at hx1
    simpa using hx1
  subst hy
  rw [add_none, Nat.zero_add, hcell j, ← Array.getElem?_toList]
  have h3 := congrArg (fun l => l[0]?) e1
  simpa [List.getElem?_drop] using h3
theorem opens_string {P : Program} {w : World} {m : Nat} {t : TypeId} {s : ByteArray} (ht : P.underlying t = some .string) (h : Opens P w m t (Value.cells (.string s)).toList) : s.size ≤ maxLen := by
  cases m with
  | zero => exact h.elim
  | succ m =>
    unfold Opens at h
    rw [ht] at h
    obtain ⟨s', h1, h2⟩ := h
    simp [Value.cells] at h1
    subst h1
    exact h2
abbrev u32s (l : List UInt32) : List Int := l.map fun x => (x.toNat : Int)
theorem rd_u32 {g : Nat} {W : World} {l : List UInt32} (h : Rd 1 (some ⟨g, 0, none⟩) (u32s l).length ((u32s l).map (Value.int .u32)) W) : Rd 1 (some ⟨g, 0, none⟩) l.length (l.map u32) W := by
  have e : (u32s l).map (Value.int .u32) = l.map u32 := by rw [List.map_map]; rfl
  rw [e, List.length_map] at h
  exact h
end Go.Proofs.YthkjfepbmnabkaaDoor.Sx
