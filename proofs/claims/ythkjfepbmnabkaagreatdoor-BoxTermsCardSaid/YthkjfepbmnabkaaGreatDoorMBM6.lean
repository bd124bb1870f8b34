/- Texts joined: Rt5, Tl1, Tl2, Tl3, Tl4, Tl5, Tl6, Tl7, Tl8, Tl10, Tl11, Tl12, SxArg, Laid, Laid2. -/
import Derived.Test.YthkjfepbmnabkaaGreatDoorMBM5
import Derived.Test.YthkjfepbmnabkaaGreatDoorMBM2
import Derived.Below
import Derived.Test.YthkjfepbmnabkaaGreatDoorMBM4
import Derived.OpenShut
import Derived.ChangeArms
import Derived.LaidMore
set_option linter.unusedVariables false
set_option linter.unusedSimpArgs false
/- The reference's box: two tags, turned. -/
namespace Go.Proofs.YthkjfepbmnabkaaGreatDoor.Sx
open Go
attribute [local irreducible] Calls

theorem rin_c (w : World) (A : Option Addr) (l : List Nat) (c x : Nat) (hr : Rd 1 A l.length (ints l) w) (hn : l.length ≤ 10000000000000) :
    Pu Tryz.prog n_ostiaryref05_in #[.slice A l.length c, .int .i64 x] w (.bool (decide (x ∈ l))) := by
  have g := good_ostiaryref05_in w (Un [])
  refine con_of_sx (cx := cx_ostiaryref05_in w (Un [])) g b_ostiaryref05_in rfl rfl (β := Va.z) [.c (.v (.slice A l.length c)), .c (.v (.int .i64 x))] 0 [] [rdF 1 A l.length (ints l)] rfl rfl ((Sat.start rfl).rd (fun _ h => by cases h) hr) ?_
  refine loop_rule 0 (fun k : Nat => [(0, .c (.v (.slice A l.length c))), (1, .c (.v (.int .i64 x))), (7, .c (.v (.slice A l.length c))), (8, .c (.v (.int .i64 l.length))), (9, .c (.v (.int .i64 k)))]) (fun _ => []) (fun _ => [rdF 1 A l.length (ints l)])
    (fun k => k ≤ l.length ∧ x ∉ l.take k) (fun k => l.length - k) 0 ⟨Nat.zero_le _, by simp⟩ (Ent.same ⟨rfl, rfl, rfl, rfl, rfl, trivial⟩ rfl) g ?_
  rintro k ⟨hk, hx⟩
  refine BIf.dec (fun hlt => ?_) (fun hge => ?_)
  · have hlt0 : (k : Int) < l.length := hlt
    have hkl : k < l.length := by omega
    obtain ⟨y, hy, hym⟩ := at_lt hkl
    obtain ⟨ad, rfl, _⟩ := hr.2 (by omega)
    refine ⟨ad, k, rfl, rfl, hkl, _, fun β w' hs => Rd.cell1 (hs.get 0 rfl) (ints_at hy), ?_⟩
    refine BIf.dec (fun he => ?_) (fun hne => ?_)
    · have he0 : (y : Int) = (x : Int) := he
      intro β w' hs
      refine hs.fin [] ⟨?_, rfl⟩
      have hxy : y = x := by omega
      subst hxy
      show Value.bool true = _
      congr 1
      exact (decide_eq_true hym).symm
    · have hne0 : ¬ (y : Int) = (x : Int) := hne
      refine ⟨((k + 1 : Nat) : Int), by rw [wrap_i64 (by omega) (by omega)]; rfl, ?_⟩
      refine ⟨k + 1, ⟨hkl, ?_⟩, by omega, Ent.same ⟨rfl, rfl, rfl, rfl, rfl, trivial⟩ rfl⟩
      rw [List.take_add_one, hy]
      intro q
      rcases List.mem_append.1 q with q | q
      · exact hx q
      · have hq : x = y := by simpa using q
        exact hne0 (by rw [hq])
  · have hge0 : ¬ (k : Int) < l.length := hge
    intro β w' hs
    refine hs.fin [] ⟨?_, rfl⟩
    have hke : k = l.length := by omega
    rw [hke, List.take_length] at hx
    show Value.bool false = _
    congr 1
    exact (decide_eq_false hx).symm
/-- The numbers up to k that stand in just one of two lists. -/
def symL (l1 l2 : List Nat) (k : Nat) : List Nat := (List.range' 1 k).filter fun n => decide (n ∈ l1) != decide (n ∈ l2)
theorem symL_snoc (l1 l2 : List Nat) (k : Nat) : symL l1 l2 (k + 1) = symL l1 l2 k ++ (if (decide (k + 1 ∈ l1) != decide (k + 1 ∈ l2)) = true then [k + 1] else []) := by
  unfold symL
  rw [List.range'_1_concat, List.filter_append, Nat.add_comm 1 k, List.filter_cons, List.filter_nil]
theorem symL_len (l1 l2 : List Nat) (k : Nat) : (symL l1 l2 k).length ≤ k := by
  have h := List.length_filter_le (fun n => decide (n ∈ l1) != decide (n ∈ l2)) (List.range' 1 k)
  rw [List.length_range'] at h
  exact h
theorem symL_mix {l1 l2 : List Nat} {N : Nat} (d1 : l1.Nodup) (d2 : l2.Nodup) (h1 : ∀ n ∈ l1, 1 ≤ n ∧ n ≤ N) (h2 : ∀ n ∈ l2, 1 ≤ n ∧ n ≤ N) : symL l1 l2 N = mixL l1 l2 := by
  have hp : (symL l1 l2 N).Perm (notIn l1 l2 ++ notIn l2 l1) := by
    refine (List.perm_ext_iff_of_nodup ?_ ?_).2 (fun n => ?_)
    · exact List.Nodup.sublist List.filter_sublist (List.nodup_range' 1)
    · refine List.nodup_append.2 ⟨List.Nodup.sublist List.filter_sublist d1, List.Nodup.sublist List.filter_sublist d2, ?_⟩
      intro x hx y hy q
      subst q
      have a := (List.mem_filter.1 hx).2
      have b := (List.mem_filter.1 hy).1
      simp [b] at a
    · simp only [symL, notIn, List.mem_filter, List.mem_append, List.mem_range'_1]
      have k1 := h1 n
      have k2 := h2 n
      by_cases a : n ∈ l1 <;> by_cases b : n ∈ l2 <;> simp [a, b]
      · have := k1 a; omega
      · have := k2 b; omega
  have hs : (mixL l1 l2).Perm (notIn l1 l2 ++ notIn l2 l1) := List.mergeSort_perm _ _
  refine List.Perm.eq_of_pairwise (le := fun a b => a ≤ b) (fun a b _ _ p q => Nat.le_antisymm p q) ?_ ?_ (hp.trans hs.symm)
  · exact ((List.pairwise_lt_range' 1).sublist List.filter_sublist).imp (fun h => Nat.le_of_lt h)
  · have h := List.pairwise_mergeSort (le := fun x y : Nat => decide (x ≤ y)) (by simp only [decide_eq_true_eq]; omega) (by simp only [Bool.or_eq_true, decide_eq_true_eq]; omega) (notIn l1 l2 ++ notIn l2 l1)
    exact h.imp (fun h => of_decide_eq_true h)
def rturnOut (b : Nat) (B : Bx.Box) (y : Lay) (s t : List UInt8) (v : Value) (Fs : List Fact) : Prop := match turnB B s t with
  | (none, _) => v = .slice none 0 0 ∧ Fs = [rbxF b B y]
  | (some h, B') => rtagOut b (h, B') v Fs
theorem rturnOut_none {b : Nat} {B : Bx.Box} {y : Lay} {s t : List UInt8} (h : turnB B s t = (none, B)) : rturnOut b B y s t = fun v Fs => v = .slice none 0 0 ∧ Fs = [rbxF b B y] := by funext v Fs; unfold rturnOut; rw [h]
theorem rturnOut_some {b : Nat} {B B' : Bx.Box} {y : Lay} {s t h : List UInt8} (e : turnB B s t = (some h, B')) : rturnOut b B y s t = rtagOut b (h, B') := by funext v Fs; unfold rturnOut; rw [e]
theorem Con.grow {P : Program} {k : FuncId} {args : Array Value} {w : World} {Gs Gs' : List Fact} {R : Value → List Fact → Prop} (hsub : ∀ k, Un Gs k → Un Gs' k) (h : Con P k args w Gs R) : Con P k args w Gs' R :=
  Calls.mono h fun _ _ ⟨v, he, Fs, hR, hc, hm, ho, hD⟩ => ⟨v, he, Fs, hR, hc.mono (fun i _ => hsub i), hm, ho, fun f hf k hk => (hD f hf k hk).imp_left (hsub k)⟩
theorem part_D {L : List Nat} {M : List UInt8} {A u : Option Addr} {c g : Nat} {f : Fact} : ∀ k, Un [f, partsF [(turnT L M, ⟨none, none, A, u, 0, 0, c, g⟩)]] k → Un [f, irowF A L c, browF ty_uint8 u M g] k := by
  rintro k ⟨x, hx, hk⟩
  simp only [List.mem_cons, List.not_mem_nil, or_false] at hx
  rcases hx with rfl | rfl
  · exact ⟨x, by simp, hk⟩
  · obtain ⟨p, hp, hk⟩ := hk
    obtain rfl := List.mem_singleton.1 hp
    rcases hk with hk | hk | hk | hk
    · exact absurd hk.1 (Nat.lt_irrefl 0)
    · exact absurd hk.1 (Nat.lt_irrefl 0)
    · exact ⟨irowF A L c, by simp, row_D hk⟩
    · exact ⟨browF ty_uint8 u M g, by simp, row_D hk⟩
/-- What a tag that is opened has. -/
def OkN (B : Bx.Box) (l : List Nat) (m : List UInt8) : Prop := OkS l m ∧ l.Nodup ∧ ∀ n ∈ l, 1 ≤ n ∧ n ≤ B.L.length
theorem rturn_c (w : World) (b : Nat) (B : Bx.Box) (y : Lay) (A1 A2 : Option Addr) (s t : List UInt8) (c1 c2 : Nat) (hts : y.ts.map (·.1) = B.L) (hL : B.L.length ≤ 4096) (hsz : ∀ t ∈ B.L, TSz t) (hok : ∀ tag l m, B.opens tag = some (l, m) → OkN B l m)
    (hm : Mem w [rbxF b B y, bsF A1 s, bsF A2 t]) (hc1 : s.length ≤ c1) (hc2 : t.length ≤ c2) (hl1 : s.length ≤ 1000000) (hl2 : t.length ≤ 1000000) :
    Con Tryz.prog n_ostiaryref05_Turn #[ptrB b, .slice A1 s.length c1, .slice A2 t.length c2] w [rbxF b B y] (rturnOut b B y s t) := by
  have g := good_ostiaryref05_Turn w (Un [rbxF b B y])
  have hs0 : Sat (cx_ostiaryref05_Turn w (Un [rbxF b B y])) Va.z 0 [] [rbxF b B y, bsF A1 s, bsF A2 t] w := hm.sat0 rfl (ownIn (Gs := [rbxF b B y]) (fun f hf => by
    simp only [List.mem_cons, List.not_mem_nil, or_false] at hf
    rcases hf with rfl | rfl | rfl <;> rfl))
  refine con_of_sx (cx := cx_ostiaryref05_Turn w (Un [rbxF b B y])) g b_ostiaryref05_Turn rfl rfl (β := Va.z) [.c (.v (ptrB b)), .c (.v (.slice A1 s.length c1)), .c (.v (.slice A2 t.length c2))] 0 [] _ rfl rfl hs0 ?_
  have bad : turnB B s t = (none, B) → ∀ {n : Nat} {H : List Bk} {F : List Fact} (j : Nat) (_ : nth F j = some (rbxF b B y)) (β : Va) (w' : World), Sat (cx_ostiaryref05_Turn w (Un [rbxF b B y])) β n H F w' → Fin w [rbxF b B y] (rturnOut b B y s t) (.slice none 0 0) w' := by
    intro hno n H F j hj β w' hs
    rw [rturnOut_none hno]
    have hs2 := (hs.keepB (List.nil_sublist _)).perm [j]
    have e : takeIx F [j] = [rbxF b B y] := by simp only [takeIx, hj]
    rw [e] at hs2
    exact hs2.fin [0] ⟨rfl, rfl⟩
  refine call_con [] (R := ropenOut b B y s) (fun β w' hs => ropen_c w' b B y A1 s c1 hts hL hsz (hs.get 0 rfl) (fun k hk => hs.flt _ (List.mem_of_getElem? (i := 0) rfl) k hk) (hs.get 1 rfl) hc1 hl1) ?_
  cases h1 : B.opens s with
  | none =>
    rw [ropenOut_none h1]
    rintro v Fs ⟨rfl, rfl⟩
    refine call_con [] (R := ropenOut b B y t) (fun β w' hs => ropen_c w' b B y A2 t c2 hts hL hsz (hs.get 0 rfl) (fun k hk => hs.flt _ (List.mem_of_getElem? (i := 0) rfl) k hk) (hs.get 2 rfl) hc2 hl2) ?_
    cases h2 : B.opens t with
    | none =>
      rw [ropenOut_none h2]
      rintro v Fs ⟨rfl, rfl⟩
      exact fun β w' hs => bad (turnB_none1 h1) 0 rfl β w' hs
    | some q =>
      obtain ⟨l2, m2⟩ := q
      rw [ropenOut_some h2]
      rintro v Fs ⟨B1, d1, B2, d2, o2, rfl, _, _, rfl⟩
      exact fun β w' hs => bad (turnB_none1 h1) 1 rfl β w' hs
  | some p =>
    obtain ⟨l1, m1⟩ := p
    obtain ⟨ok1, nd1, rg1⟩ := hok s l1 m1 h1
    rw [ropenOut_some h1]
    rintro v Fs ⟨a1, e1, a2, e2, o1, rfl, ho1, hp1, rfl⟩
    refine call_con [] (R := ropenOut b B y t) (fun β w' hs => ropen_c w' b B y A2 t c2 hts hL hsz (hs.get 1 rfl) (fun k hk => hs.flt _ (List.mem_of_getElem? (i := 1) rfl) k hk) (hs.get 3 rfl) hc2 hl2) ?_
    cases h2 : B.opens t with
    | none =>
      rw [ropenOut_none h2]
      rintro v Fs ⟨rfl, rfl⟩
      exact fun β w' hs => bad (turnB_none2 h2) 1 rfl β w' hs
    | some q =>
      obtain ⟨l2, m2⟩ := q
      obtain ⟨ok2, nd2, rg2⟩ := hok t l2 m2 h2
      rw [ropenOut_some h2]
      rintro v Fs ⟨d1, f1, d2, f2, o2, rfl, ho2, hp2, rfl⟩
      have hk1 := ok1.len
      have hk2 := ok2.len
      have hk3 := ok1.mask
      have hk4 := ok2.mask
      have hx : (Bx.xorB m1 m2).length = 32 := by rw [xorB_len]; omega
      refine loop_rule (ι := Nat × Option Addr × Nat) 0 (fun i => [(0, .c (.v (ptrB b))), (7, .c (.v (.slice a1 l1.length e1))), (8, .c (.v (.slice a2 m1.length e2))), (10, .c (.v (.slice d1 l2.length f1))), (11, .c (.v (.slice d2 m2.length f2))), (13, .c (.v (.slice i.2.1 (symL l1 l2 i.1).length i.2.2))), (14, .c (.v (.int .i64 ((i.1 + 1 : Nat) : Int))))]) (fun _ => [])
        (fun i => [irowF i.2.1 (symL l1 l2 i.1) i.2.2, o2, o1, rbxF b B y]) (fun i => i.1 ≤ B.L.length ∧ (symL l1 l2 i.1 = [] ∨ ∃ ad, i.2.1 = some ad)) (fun i => B.L.length - i.1) (0, none, 0) ⟨Nat.zero_le _, .inl rfl⟩ (Ent.mk' ⟨rfl, rfl, rfl, rfl, rfl, rfl, rfl, trivial⟩ rfl (fun β w hs => (hs.nilRow ty_int 1).perm [0, 1, 2, 3])) g ?_
      rintro ⟨k, A, c⟩ ⟨hk, hA⟩
      simp only at hk hA
      have hsl := symL_len l1 l2 k
      refine ⟨.slice y.A B.L.length y.c, fun β w' hs => bk_cell (rbx_bk (hs.get 3 rfl)) (o := 1) rfl, ?_⟩
      refine BIf.dec (fun hle => ?_) (fun hgt => ?_)
      · have hle0 : ((k + 1 : Nat) : Int) ≤ (B.L.length : Int) := hle
        have hkl : k < B.L.length := by omega
        obtain ⟨b1, hb1⟩ : ∃ x, decide (k + 1 ∈ l1) = x := ⟨_, rfl⟩
        obtain ⟨b2, hb2⟩ : ∃ x, decide (k + 1 ∈ l2) = x := ⟨_, rfl⟩
        have hsn := symL_snoc l1 l2 k
        rw [hb1, hb2] at hsn
        refine call_pu (v := .bool b1) (fun β w' hs => by
          have h := rin_c w' a1 l1 e1 (k + 1) (hp1 w' (hs.get 3 rfl) (hs.get 2 rfl)).1 (by omega)
          rw [hb1] at h
          exact h) ?_
        refine call_pu (v := .bool b2) (fun β w' hs => by
          have h := rin_c w' d1 l2 f1 (k + 1) (hp2 w' (hs.get 3 rfl) (hs.get 1 rfl)).1 (by omega)
          rw [hb2] at h
          exact h) ?_
        cases b1 <;> cases b2
        · have e : symL l1 l2 (k + 1) = symL l1 l2 k := by rw [hsn]; simp
          refine ⟨((k + 1 + 1 : Nat) : Int), by rw [wrap_i64 (by omega) (by omega)]; rfl, ?_⟩
          refine ⟨(k + 1, A, c), ⟨hkl, by rw [e]; exact hA⟩, by show B.L.length - (k + 1) < B.L.length - k; omega, ?_⟩
          simp only [e]
          exact Ent.same ⟨rfl, rfl, rfl, rfl, rfl, rfl, rfl, trivial⟩ rfl
        · have e : symL l1 l2 (k + 1) = symL l1 l2 k ++ [k + 1] := by rw [hsn]; rfl
          intro b3
          refine ⟨1, (symL l1 l2 k).length, (symL l1 l2 k).length + 1, ints (symL l1 l2 k), ints [k + 1], ints (symL l1 l2 k ++ [k + 1]), rfl, fun β w hs => row_rd (hs.get 0 rfl), ints_one _, rfl, by simp [ints], by rw [maxLen_eq]; omega, by show ((symL l1 l2 k).length + 1) * 8 ≤ _; omega, ?_⟩
          intro A' c' q1 q2 q3
          have hA' : ∃ ad, A' = some ad := by
            cases A' with
            | none => exact absurd (q3 rfl).2 (by decide)
            | some ad => exact ⟨ad, rfl⟩
          refine ⟨((k + 1 + 1 : Nat) : Int), by rw [wrap_i64 (by omega) (by omega)]; rfl, ?_⟩
          refine ⟨(k + 1, A', c'), ⟨hkl, .inr hA'⟩, by show B.L.length - (k + 1) < B.L.length - k; omega, ?_⟩
          simp only [irowF, e, List.length_append, List.length_cons, List.length_nil, Nat.zero_add]
          refine Ent.mk' ⟨rfl, rfl, rfl, rfl, rfl, rfl, rfl, trivial⟩ rfl (fun β w' hs => ?_)
          exact hs.weaken (List.Sublist.refl _) (List.sublist_cons_self _ _)
        · have e : symL l1 l2 (k + 1) = symL l1 l2 k ++ [k + 1] := by rw [hsn]; rfl
          intro b3
          refine ⟨1, (symL l1 l2 k).length, (symL l1 l2 k).length + 1, ints (symL l1 l2 k), ints [k + 1], ints (symL l1 l2 k ++ [k + 1]), rfl, fun β w hs => row_rd (hs.get 0 rfl), ints_one _, rfl, by simp [ints], by rw [maxLen_eq]; omega, by show ((symL l1 l2 k).length + 1) * 8 ≤ _; omega, ?_⟩
          intro A' c' q1 q2 q3
          have hA' : ∃ ad, A' = some ad := by
            cases A' with
            | none => exact absurd (q3 rfl).2 (by decide)
            | some ad => exact ⟨ad, rfl⟩
          refine ⟨((k + 1 + 1 : Nat) : Int), by rw [wrap_i64 (by omega) (by omega)]; rfl, ?_⟩
          refine ⟨(k + 1, A', c'), ⟨hkl, .inr hA'⟩, by show B.L.length - (k + 1) < B.L.length - k; omega, ?_⟩
          simp only [irowF, e, List.length_append, List.length_cons, List.length_nil, Nat.zero_add]
          refine Ent.mk' ⟨rfl, rfl, rfl, rfl, rfl, rfl, rfl, trivial⟩ rfl (fun β w' hs => ?_)
          exact hs.weaken (List.Sublist.refl _) (List.sublist_cons_self _ _)
        · have e : symL l1 l2 (k + 1) = symL l1 l2 k := by rw [hsn]; simp
          refine ⟨((k + 1 + 1 : Nat) : Int), by rw [wrap_i64 (by omega) (by omega)]; rfl, ?_⟩
          refine ⟨(k + 1, A, c), ⟨hkl, by rw [e]; exact hA⟩, by show B.L.length - (k + 1) < B.L.length - k; omega, ?_⟩
          simp only [e]
          exact Ent.same ⟨rfl, rfl, rfl, rfl, rfl, rfl, rfl, trivial⟩ rfl
      have hgt0 : ¬ ((k + 1 : Nat) : Int) ≤ (B.L.length : Int) := hgt
      obtain rfl : k = B.L.length := by omega
      have hmix := symL_mix nd1 nd2 rg1 rg2
      have hmem : ∀ n ∈ symL l1 l2 B.L.length, n ≤ 4096 := fun n hn => by
        have h3 := (List.mem_filter.1 hn).1
        rw [List.mem_range'_1] at h3
        omega
      have hR := turnB_raw (B := B) h1 h2
      have hO := fun n => turnB_one (B := B) (n := n) h1 h2
      have hT := turnB_tag (B := B) h1 h2
      rw [← hmix] at hR hO hT
      clear hmix
      generalize symL l1 l2 B.L.length = L at *
      have hxor := fun (w' : World) (h3 : Bs w' a2 m1) (h4 : Bs w' d2 m2) => rxor_c w' a2 d2 m1 m2 e2 f2 h3 h4 (by omega)
      rw [hx] at hxor
      generalize Bx.xorB m1 m2 = M at *
      refine call_con [] (fun β w' hs => hxor w' (hp1 w' (hs.get 3 rfl) (hs.get 2 rfl)).2 (hp2 w' (hs.get 3 rfl) (hs.get 1 rfl)).2) ?_
      rintro v Fs ⟨u2, g2, rfl, hg2, hgm, rfl⟩
      obtain ⟨n, ok, hnv, hnn⟩ := looks_v M
      refine call_pu (v := .tuple #[.int .i64 (n : Int), .bool ok]) (fun β w' hs => by
        have h := looks_c w' u2 M g2 (row_rd (hs.get 0 rfl)) (by omega) (by omega)
        rw [hnv, hx] at h
        exact h) ?_
      have hTs : TSz (turnT L M) := ⟨by show 4 < 1000; decide, by show 0 < 1000; decide, Nat.zero_le _, Nat.zero_le _, by show L.length ≤ 10000; omega, fun n hn => by have := hmem n hn; omega, by show M.length ≤ 1000000; omega⟩
      have htv : ∀ L : List Nat, termV (turnT L M) ⟨none, none, A, u2, 0, 0, c, g2⟩ = [.int .i64 ((4 : Nat) : Int), .slice none 0 0, .slice none 0 0, .int .i64 ((0 : Nat) : Int), .slice A L.length c, .slice u2 32 g2] := fun L => by
        simp only [termV, turnT, hx, List.length_nil]
      cases L with
      | nil =>
        cases hsym : B.sym with
        | false =>
          refine ⟨.bool false, fun β w' hs => bk_cell (rbx_bk (hs.get 4 rfl)) (o := 0) (by simp [rCells, hsym]), ?_⟩
          intro β w' hs
          rw [rturnOut_some (hR rfl (fun q => by rw [hsym] at q; cases q.1))]
          exact hs.fin [0, 4] ⟨u2, g2, y, rfl, hg2, hgm, hts, rfl⟩
        | true =>
          refine ⟨.bool true, fun β w' hs => bk_cell (rbx_bk (hs.get 4 rfl)) (o := 0) (by simp [rCells, hsym]), ?_⟩
          rcases hnn with ⟨rfl, hf, hn⟩ | ⟨rfl, hf⟩
          · skip
            refine call_con [4, 1, 0] (R := rtagOut b (B.tag (turnT [] M))) (fun β w' hs => by
              have h2 := hs.part2l [1, 0] (turnT [] M) ⟨none, none, A, u2, 0, 0, c, g2⟩ rfl rfl rfl
              have h3 := rtag_c w' b B y (turnT [] M) ⟨none, none, A, u2, 0, 0, c, g2⟩ hts hL hsz hTs (h2.mem.take (js := [3, 0]) rfl)
              rw [htv []] at h3
              exact Con.grow part_D h3) ?_ ⟨rfl, rfl, rfl, trivial⟩
            rintro v Fs ⟨A3, c3, y3, rfl, r1, r2, r3, rfl⟩
            intro β w' hs
            rw [rturnOut_some (hT (fun q => q.2 ⟨hsym, hf⟩) (fun q => by cases q.1))]
            exact hs.fin [0, 1] ⟨A3, c3, y3, rfl, r1, r2, r3, rfl⟩
          · intro β w' hs
            rw [rturnOut_some (hR rfl (fun q => hf ⟨hx, q.2⟩))]
            exact hs.fin [0, 4] ⟨u2, g2, y, rfl, hg2, hgm, hts, rfl⟩
      | cons n1 r =>
        cases r with
        | nil =>
          refine ⟨32, 32, rfl, rfl, Nat.le_refl _, by decide, by decide, ?_⟩
          intro b1
          refine call_pu (v := .bool (decide (M = Bx.noughts))) (fun β w' hs => by
            have h := pu_of (same_c w' u2 (some ⟨b1, 0, none⟩) M Bx.noughts g2 32 (row_rd (hs.get 1 rfl)) (row_rd (hs.get 0 rfl)))
            rw [hx] at h
            exact h) ?_
          refine BIf.dec (fun hz => ?_) (fun hz => ?_)
          · have hz0 : M = Bx.noughts := hz
            obtain ⟨ad, rfl⟩ : ∃ ad, A = some ad := hA.resolve_left (fun q => by cases q)
            have hn1 := hmem n1 List.mem_cons_self
            refine ⟨ad, 0, rfl, rfl, Nat.lt_succ_self 0, _, fun β w' hs => Rd.cell1 (row_rd (hs.get 2 rfl)) rfl, ?_⟩
            refine call_con [] (fun β w' hs => rhandle_c w' n1 (by omega)) ?_
            rintro v Fs ⟨A3, c3, rfl, q1, q2, rfl⟩
            intro β w' hs
            rw [rturnOut_some (hO n1 rfl hz0)]
            exact hs.fin [0, 6] ⟨A3, c3, y, rfl, q1, q2, hts, rfl⟩
          · have hz0 : ¬ M = Bx.noughts := hz
            refine call_con [5, 2, 1] (R := rtagOut b (B.tag (turnT [n1] M))) (fun β w' hs => by
              have h2 := hs.part2l [2, 1] (turnT [n1] M) ⟨none, none, A, u2, 0, 0, c, g2⟩ rfl rfl rfl
              have h3 := rtag_c w' b B y (turnT [n1] M) ⟨none, none, A, u2, 0, 0, c, g2⟩ hts hL hsz hTs (h2.mem.take (js := [4, 0]) rfl)
              rw [htv [n1]] at h3
              exact Con.grow part_D h3) ?_ ⟨rfl, rfl, rfl, trivial⟩
            rintro v Fs ⟨A3, c3, y3, rfl, r1, r2, r3, rfl⟩
            intro β w' hs
            rw [rturnOut_some (hT (fun q => by cases q.1) (fun q => hz0 q.2))]
            exact hs.fin [0, 1] ⟨A3, c3, y3, rfl, r1, r2, r3, rfl⟩
        | cons n2 r2 =>
          refine call_con [4, 1, 0] (R := rtagOut b (B.tag (turnT (n1 :: n2 :: r2) M))) (fun β w' hs => by
            have h2 := hs.part2l [1, 0] (turnT (n1 :: n2 :: r2) M) ⟨none, none, A, u2, 0, 0, c, g2⟩ rfl rfl rfl
            have h3 := rtag_c w' b B y (turnT (n1 :: n2 :: r2) M) ⟨none, none, A, u2, 0, 0, c, g2⟩ hts hL hsz hTs (h2.mem.take (js := [3, 0]) rfl)
            rw [htv (n1 :: n2 :: r2)] at h3
            exact Con.grow part_D h3) ?_ ⟨rfl, rfl, rfl, trivial⟩
          rintro v Fs ⟨A3, c3, y3, rfl, r1, r2, r3, rfl⟩
          intro β w' hs
          rw [rturnOut_some (hT (fun q => by cases q.1) (fun q => by cases q.1))]
          exact hs.fin [0, 1] ⟨A3, c3, y3, rfl, r1, r2, r3, rfl⟩
end Go.Proofs.YthkjfepbmnabkaaGreatDoor.Sx

/- The law's two boxes and the tags that they told: a tag picked. -/
namespace Go.Proofs.YthkjfepbmnabkaaGreatDoor.Sx
open Go
attribute [local irreducible] Calls

theorem u8_bits (op : BinOp) (x y : Int) : ∃ b : UInt8, bits op .u8 x y = (b.toNat : Int) := by
  have h : ∀ z : Int, ∃ b : UInt8, IntKind.u8.wrap z = (b.toNat : Int) := fun z => by
    refine ⟨UInt8.ofNat (z % 256).toNat, ?_⟩
    rw [UInt8.toNat_ofNat', wrap_u8]
    omega
  unfold bits
  split <;> exact h _
/-- All bytes are turned in place. -/
theorem flip_c (w : World) (A : Option Addr) (l : List UInt8) (c : Nat) (hm : Mem w [browF ty_uint8 A l c]) (hn : l.length ≤ lim) :
    Con Tryz.prog n_ostiaryref01_Flip #[.slice A l.length c] w [browF ty_uint8 A l c] (fun _ Fs => ∃ l', l'.length = l.length ∧ Fs = [browF ty_uint8 A l' c]) := by
  have g := good_ostiaryref01_Flip w (Un [browF ty_uint8 A l c])
  refine con_of_sx (cx := cx_ostiaryref01_Flip w (Un [browF ty_uint8 A l c])) g b_ostiaryref01_Flip rfl rfl (β := Va.z) [.c (.v (.slice A l.length c))] 0 [] [browF ty_uint8 A l c] rfl rfl (hm.sat0 rfl (fun f hf _ k hk => ⟨f, hf, hk⟩)) ?_
  rw [lim_eq] at hn
  have hA : 0 < l.length → ∃ b, A = some ⟨b, 0, none⟩ := fun h0 => by
    rcases (hm.fact (browF ty_uint8 A l c) List.mem_cons_self).2 with ⟨_, q⟩ | ⟨g, cap, cur, hv, _⟩
    · omega
    · exact ⟨g, by injection hv⟩
  refine loop_rule (ι := List UInt8 × Nat) 0 (fun i => [(0, .c (.v (.slice A l.length c))), (4, .c (.v (.int .i64 (l.length : Int)))), (5, .c (.v (.int .i64 (i.2 : Int))))]) (fun _ => []) (fun i => [rowF ty_uint8 1 (.slice A l.length c) l.length (i.1.map byte)])
    (fun i => i.1.length = l.length ∧ i.2 ≤ l.length) (fun i => l.length - i.2) (l, 0) ⟨rfl, Nat.zero_le _⟩ (Ent.same ⟨rfl, rfl, rfl, trivial⟩ rfl) g ?_
  rintro ⟨p, i⟩ ⟨hpl, hi⟩
  simp only at hpl hi
  refine BIf.dec (fun h0 => ?_) (fun h0 => ?_)
  · have hi' : i < l.length := by omega
    obtain ⟨b, rfl⟩ := hA (by omega)
    have hip : i < p.length := by omega
    obtain ⟨y, hy⟩ := u8_bits .xor (p[i].toNat : Int) 90
    refine ⟨_, i, rfl, rfl, hi', byte p[i], fun β w hs => ?_, ?_⟩
    · have h1 : Rd 1 (some ⟨b, 0, none⟩) l.length (p.map byte) w := row_rd (hs.get 0 rfl)
      rw [← hpl] at h1
      exact Bs.cell h1 rfl hip
    refine ⟨_, hy, ?_⟩
    refine ⟨_, i, rfl, rfl, hi', ?_⟩
    refine ⟨_, fun β w hs => hs.rowSet (j := 0) (us := [byte y]) rfl (by show i * 1 + 1 ≤ l.length * 1; omega) (fun u hu => by obtain rfl := List.mem_singleton.1 hu; rfl), ?_⟩
    refine ⟨((i + 1 : Nat) : Int), by rw [wrap_i64] <;> omega, ?_⟩
    refine ⟨(p.set i y, i + 1), ⟨by simp [hpl], hi'⟩, by show l.length - (i + 1) < l.length - i; omega, ?_⟩
    have e : putAll (p.map byte) (i * 1) [byte y] = (p.set i y).map byte := by rw [putAll, putAll, putAt_eq, Nat.mul_one, List.map_set]
    show Ent _ _ _ _ (rowF _ _ _ _ (putAll (p.map byte) (i * 1) [byte y]) :: _) _ _ _ _
    rw [e]
    exact Ent.same ⟨rfl, rfl, rfl, trivial⟩ rfl
  · intro β w' hs
    exact hs.fin [0] ⟨p, hpl, by show _ = [rowF _ _ _ _ _]; rw [← hpl]; rfl⟩

/-- Tags that were told. -/
def tgF (ts : List Part) : Fact where
  own := true
  D := fun k => ∃ p ∈ ts, (bsF p.1 p.2.1).D k
  p := fun w => ∀ p ∈ ts, Bs w p.1 p.2.1
  st := fun w w' hs h p hp => (bsF p.1 p.2.1).st w w' (fun k hk => hs k ⟨p, hp, hk⟩) (h p hp)
def tdCells (b rb : Nat) (T : Option Addr) (c : Nat) (ts : List Part) : List Value := [ptrB b, ptrB rb, .slice T ts.length c]
def tdFs (tb b rb : Nat) (T : Option Addr) (c : Nat) (ts : List Part) : List Fact := [bkF tb ty_ostiarylaw05_told (tdCells b rb T c ts), rowF ty_sl_uint8 1 (.slice T ts.length c) ts.length (ts.map partV), tgF ts]
/-- Both boxes' pointers and the tags. -/
def tdF (tb b rb : Nat) (T : Option Addr) (c : Nat) (ts : List Part) : Fact := sepF (tdFs tb b rb T c ts)
theorem td_bk {tb b rb : Nat} {T : Option Addr} {c : Nat} {ts : List Part} {w : World} (h : (tdF tb b rb T c ts).p w) : (bkF tb ty_ostiarylaw05_told (tdCells b rb T c ts)).p w := h.1 _ (by simp [tdFs])
theorem td_rd {tb b rb : Nat} {T : Option Addr} {c : Nat} {ts : List Part} {w : World} (h : (tdF tb b rb T c ts).p w) : Rd 1 T ts.length (ts.map partV) w := row_rd (h.1 (rowF ty_sl_uint8 1 (.slice T ts.length c) ts.length (ts.map partV)) (by simp [tdFs]))
theorem td_tg {tb b rb : Nat} {T : Option Addr} {c : Nat} {ts : List Part} {w : World} (h : (tdF tb b rb T c ts).p w) : ∀ p ∈ ts, Bs w p.1 p.2.1 := h.1 (tgF ts) (by simp [tdFs])
def picked (ts : List Part) (n : Int) (p : List UInt8) : Prop := ((ts = [] ∨ n < 0) ∧ p = []) ∨ (¬ (ts = [] ∨ n < 0) ∧ ∃ q ∈ ts, p = q.2.1)
theorem pick_c (w : World) (tb b rb : Nat) (T : Option Addr) (c : Nat) (ts : List Part) (n : Int) (hb : (tdF tb b rb T c ts).p w) (hbD : ∀ k, (tdF tb b rb T c ts).D k → k < w.heap.size) (hsz : ∀ p ∈ ts, p.2.1.length ≤ 1000000) :
    Con Tryz.prog n_ostiarylaw05_told_pick #[ptrB tb, .int .i64 n] w [] fun v Fs => ∃ A p c, picked ts n p ∧ v = .slice A p.length c ∧ p.length ≤ c ∧ Fs = [browF ty_uint8 A p c] := by
  have g := good_ostiarylaw05_told_pick w (Un [])
  refine con_of_sx (cx := cx_ostiarylaw05_told_pick w (Un [])) g b_ostiarylaw05_told_pick rfl rfl (β := Va.z) [.c (.v (ptrB tb)), .c (.v (.int .i64 n))] 0 [] [oldF w] rfl rfl (old_sat rfl) ?_
  have hbx : ∀ w', (oldF w).p w' → (tdF tb b rb T c ts).p w' := fun w' ho => fact_old hb hbD ho
  have none_ : (ts = [] ∨ n < 0) → ∀ {m : Nat} {H : List Bk} {F : List Fact} (β : Va) (w' : World), Sat (cx_ostiarylaw05_told_pick w (Un [])) β m H F w' → Fin w [] (fun v Fs => ∃ A p c, picked ts n p ∧ v = .slice A p.length c ∧ p.length ≤ c ∧ Fs = [browF ty_uint8 A p c]) (.slice none 0 0) w' := by
    intro h m H F β w' hs
    exact ((hs.keepB (List.nil_sublist _)).nilRow ty_uint8 1).fin [0] ⟨none, [], 0, .inl ⟨h, rfl⟩, rfl, Nat.le_refl _, rfl⟩
  refine ⟨.slice T ts.length c, fun β w' hs => bk_cell (td_bk (hbx w' (hs.get 0 rfl))) (o := 2) rfl, ?_⟩
  refine BIf.dec (fun h0 => ?_) (fun h0 => ?_)
  · have h00 : (ts.length : Int) = 0 := h0
    exact fun β w' hs => none_ (.inl (List.eq_nil_of_length_eq_zero (by omega))) β w' hs
  have h00 : ¬ (ts.length : Int) = 0 := h0
  refine BIf.dec (fun h1 => ?_) (fun h1 => ?_)
  · have h10 : n < 0 := h1
    exact fun β w' hs => none_ (.inr h10) β w' hs
  have h10 : ¬ n < 0 := h1
  obtain ⟨k, rfl⟩ : ∃ k : Nat, n = (k : Int) := ⟨n.toNat, by omega⟩
  have hlt : k % ts.length < ts.length := Nat.mod_lt _ (by omega)
  obtain ⟨q, hq, hqm⟩ := at_lt hlt
  obtain ⟨ad, hA, _⟩ := (td_rd hb).2 (by omega)
  have hqs := hsz q hqm
  refine draw_rule g p_ostiarylaw05_told_pick_3 (by kernel_rfl) [] [oldF w] Sub.refl ?_
  refine ⟨.slice T ts.length c, fun β w' hs => bk_cell (td_bk (hbx w' (hs.get 0 rfl))) (o := 2) rfl, ?_⟩
  refine ⟨.slice T ts.length c, fun β w' hs => bk_cell (td_bk (hbx w' (hs.get 0 rfl))) (o := 2) rfl, ?_⟩
  refine ⟨h00, ((k % ts.length : Nat) : Int), Int.ofNat_tmod _ _, ?_⟩
  refine ⟨ad, k % ts.length, hA, rfl, hlt, partV q, fun β w' hs => Rd.cell1 (by have h := td_rd (hbx w' (hs.get 0 rfl)); rw [hA] at h; exact h) (by rw [List.getElem?_map, hq]; rfl), ?_⟩
  refine call_con [] (fun β w' hs => copyC w' q.1 q.2.1 q.2.2 (td_tg (hbx w' (hs.get 0 rfl)) q hqm) (by rw [lim_eq]; omega)) ?_
  rintro v Fs ⟨A1, c1, rfl, q1, q2, rfl⟩
  refine ⟨subPerm [1], ?_⟩
  intro β w' hs
  exact hs.fin [0] ⟨A1, q.2.1, c1, .inr ⟨fun h => by rcases h with h | h; exact h00 (by rw [h]; rfl); exact h10 h, q, hqm, rfl⟩, rfl, q1, rfl⟩
end Go.Proofs.YthkjfepbmnabkaaGreatDoor.Sx

/- What a box holds, plainly: tags that are opened have one form; turned, they have it still. -/
namespace Go.Proofs.YthkjfepbmnabkaaGreatDoor.Sx
open Go
attribute [local irreducible] Calls

/-- A sum that may be turned. -/
structure Nf (B : Bx.Box) (l : List Nat) (m : List UInt8) : Prop where
  mask : m.length = 32
  sorted : l.Pairwise (· < ·)
  nums : ∀ n ∈ l, 1 ≤ n ∧ n ≤ B.L.length
  base : ∀ n ∈ l, ∀ u, B.L[n - 1]? = some u → u.kind ≠ 4
structure K4 (B : Bx.Box) (t : Bx.Term) : Prop where
  nf : Nf B t.list t.mask
  form : t = turnT t.list t.mask
  one : ¬ (t.list.length = 1 ∧ t.mask = Bx.noughts)
  raw : ¬ (t.list = [] ∧ ¬ t.mask.take 28 = Bx.front)
structure BInv (B : Bx.Box) : Prop where
  sz : ∀ t ∈ B.L, TSz t
  nodup : B.L.Nodup
  k4 : ∀ t ∈ B.L, t.kind = 4 → K4 B t
  plain : B.sym = false → B.L = []
  len : B.L.length ≤ 4096
structure Ext (B B' : Bx.Box) : Prop where
  sym : B'.sym = B.sym
  full : B'.full = B.full
  len : B'.L.length ≤ B.L.length + 1
  inv : BInv B'
  mono : ∀ h r, B.opens h = some r → B'.opens h = some r
theorem Ext.refl {B : Bx.Box} (h : BInv B) : Ext B B := ⟨rfl, rfl, Nat.le_succ _, h, fun _ _ h => h⟩
theorem Nf.grow {B : Bx.Box} {l : List Nat} {m : List UInt8} (t : Bx.Term) (h : Nf B l m) : Nf { B with L := B.L ++ [t] } l m := by
  refine ⟨h.mask, h.sorted, fun n hn => ?_, fun n hn u hu => ?_⟩
  · have := h.nums n hn
    simp only [List.length_append, List.length_cons, List.length_nil]
    omega
  · have := h.nums n hn
    refine h.base n hn u ?_
    simp only at hu
    rw [List.getElem?_append_left (by omega)] at hu
    exact hu
theorem Nf.ok {B : Bx.Box} {l : List Nat} {m : List UInt8} (hi : BInv B) (h : Nf B l m) : OkN B l m := by
  have hnd : l.Nodup := h.sorted.imp (fun q => Nat.ne_of_lt q)
  refine ⟨⟨?_, fun n hn => ?_, h.mask⟩, hnd, h.nums⟩
  · have e := symL_mix (l2 := []) hnd List.nodup_nil h.nums (fun n hn => (by cases hn))
    have e2 : (mixL l []).length = l.length := by
      rw [mixL, sortN_len]
      have e3 : notIn l [] = l := List.filter_eq_self.2 (fun a _ => by simp)
      rw [e3]
      simp [notIn]
    have := symL_len l [] B.L.length
    rw [e, e2] at this
    have := hi.len
    omega
  · have := h.nums n hn
    have := hi.len
    omega
theorem opens_grow {B : Bx.Box} {t : Bx.Term} {h : List UInt8} {r : List Nat × List UInt8} (h0 : B.opens h = some r) : ({ B with L := B.L ++ [t] } : Bx.Box).opens h = some r := by
  unfold Bx.Box.opens at h0 ⊢
  split at h0
  · rename_i h32
    rw [if_pos h32]
    split at h0
    · rename_i hs
      rw [if_pos hs]
      split at h0
      · cases h0
      · rename_i hn
        have hn' : ¬ (Bx.num (h.drop 28) < 1 ∨ (B.L ++ [t]).length < Bx.num (h.drop 28)) := by
          rw [List.length_append]
          omega
        rw [if_neg hn']
        simp only
        rw [List.getElem?_append_left (by omega)]
        exact h0
    · rename_i hs
      rw [if_neg hs]
      exact h0
  · cases h0
theorem be4_of_num {l : List UInt8} (h : l.length = 4) : Bx.be4 (Bx.num l) = l := by
  have key : ∀ (x : Nat) (u : UInt8), x % 256 = u.toNat → UInt8.ofNat x = u := fun x u h => by
    apply UInt8.toNat_inj.1
    rw [UInt8.toNat_ofNat']
    exact h
  match l, h with
  | [a, b, c, d], _ =>
    have ha := a.toNat_lt
    have hb := b.toNat_lt
    have hc := c.toNat_lt
    have hd := d.toNat_lt
    simp only [Bx.num, List.foldl, Bx.be4]
    rw [key _ a (by omega), key _ b (by omega), key _ c (by omega), key _ d (by omega)]
/-- What an open tag is. -/
theorem opens_nf {B : Bx.Box} (hi : BInv B) {x : List UInt8} {l : List Nat} {m : List UInt8} (h : B.opens x = some (l, m)) :
    x.length = 32 ∧ Nf B l m ∧ ((l = [] ∧ m = x ∧ ¬ (B.sym = true ∧ m.take 28 = Bx.front)) ∨ (∃ n, l = [n] ∧ m = Bx.noughts ∧ x = Bx.handle n ∧ B.sym = true) ∨ (∃ k t, B.sym = true ∧ B.L[k]? = some t ∧ t = turnT l m ∧ K4 B t ∧ x = Bx.handle (k + 1))) := by
  unfold Bx.Box.opens at h
  split at h
  · rename_i h32
    refine ⟨h32, ?_⟩
    split at h
    · rename_i hs
      split at h
      · cases h
      · rename_i hn
        have hx : x = Bx.handle (Bx.num (x.drop 28)) := by
          have h1 := num4 h32
          have h2 : x = Bx.front ++ x.drop 28 := by rw [← hs.2, List.take_append_drop]
          rw [Bx.handle]
          rw [be4_of_num (by rw [List.length_drop, h32])]
          exact h2
        generalize hN : Bx.num (x.drop 28) = N at h hn hx
        split at h
        · rename_i t ht
          have htm : t ∈ B.L := List.mem_of_getElem? ht
          split at h
          · rename_i hk
            obtain ⟨rfl, rfl⟩ := Prod.mk.inj (Option.some.inj h)
            have h4 := hi.k4 t htm hk
            exact ⟨h4.nf, .inr (.inr ⟨N - 1, t, hs.1, ht, h4.form, h4, by rw [hx]; congr 1; omega⟩)⟩
          · rename_i hk
            obtain ⟨rfl, rfl⟩ := Prod.mk.inj (Option.some.inj h)
            refine ⟨⟨rfl, List.pairwise_singleton _ _, fun n hn' => ?_, fun n hn' u hu => ?_⟩, .inr (.inl ⟨N, rfl, rfl, hx, hs.1⟩)⟩
            · obtain rfl := List.mem_singleton.1 hn'
              omega
            · obtain rfl := List.mem_singleton.1 hn'
              rw [ht] at hu
              obtain rfl := Option.some.inj hu
              exact hk
        · cases h
    · rename_i hs
      obtain ⟨rfl, rfl⟩ := Prod.mk.inj (Option.some.inj h)
      exact ⟨⟨h32, List.Pairwise.nil, fun _ q => (by cases q), fun _ q => (by cases q)⟩, .inl ⟨rfl, rfl, hs⟩⟩
  · cases h
end Go.Proofs.YthkjfepbmnabkaaGreatDoor.Sx

/- A sum's one tag. -/
namespace Go.Proofs.YthkjfepbmnabkaaGreatDoor.Sx
open Go
attribute [local irreducible] Calls

open Classical in
/-- A sum's tag; the box behind it. -/
noncomputable def canon (B : Bx.Box) (l : List Nat) (m : List UInt8) : List UInt8 × Bx.Box :=
  if l = [] ∧ ¬ (B.sym = true ∧ m.take 28 = Bx.front) then (m, B)
  else match l, decide (m = Bx.noughts) with
    | [n], true => (Bx.handle n, B)
    | L, _ => B.tag (turnT L m)
theorem canon_raw {B : Bx.Box} {l : List Nat} {m : List UInt8} (h : l = [] ∧ ¬ (B.sym = true ∧ m.take 28 = Bx.front)) : canon B l m = (m, B) := by unfold canon; rw [if_pos h]
theorem canon_one {B : Bx.Box} {n : Nat} : canon B [n] Bx.noughts = (Bx.handle n, B) := by
  unfold canon
  rw [if_neg (fun q => by cases q.1), decide_eq_true rfl]
theorem canon_tag {B : Bx.Box} {l : List Nat} {m : List UInt8} (h : ¬ (l = [] ∧ ¬ (B.sym = true ∧ m.take 28 = Bx.front))) (h1 : ¬ (l.length = 1 ∧ m = Bx.noughts)) : canon B l m = B.tag (turnT l m) := by
  unfold canon
  rw [if_neg h]
  split
  · rename_i n h4
    exact absurd ⟨rfl, of_decide_eq_true h4⟩ h1
  · rfl
theorem turnB_canon {B : Bx.Box} {s t : List UInt8} {l1 l2 : List Nat} {m1 m2 : List UInt8} (h1 : B.opens s = some (l1, m1)) (h2 : B.opens t = some (l2, m2)) : turnB B s t = (some (canon B (mixL l1 l2) (Bx.xorB m1 m2)).1, (canon B (mixL l1 l2) (Bx.xorB m1 m2)).2) := by
  by_cases q1 : mixL l1 l2 = [] ∧ ¬ (B.sym = true ∧ (Bx.xorB m1 m2).take 28 = Bx.front)
  · rw [turnB_raw h1 h2 q1.1 q1.2, canon_raw q1]
  by_cases q2 : (mixL l1 l2).length = 1 ∧ Bx.xorB m1 m2 = Bx.noughts
  · obtain ⟨n, hn⟩ := List.length_eq_one_iff.1 q2.1
    rw [turnB_one h1 h2 hn q2.2, hn, q2.2, canon_one]
  · rw [turnB_tag h1 h2 q1 q2, canon_tag q1 q2]
theorem place_self {B : Bx.Box} (hi : BInv B) {k : Nat} {t : Bx.Term} (h : B.L[k]? = some t) : Bx.place t B.L = some k := by
  refine place_at h (fun q => ?_)
  obtain ⟨j, hj, he⟩ := List.mem_take_iff_getElem.1 q
  obtain ⟨hk, hke⟩ := List.getElem?_eq_some_iff.1 h
  have hjk : j < k := by omega
  have := (List.pairwise_iff_getElem.1 hi.nodup) j k (by omega) hk hjk
  exact this (he.trans hke.symm)
theorem opens_canon {B : Bx.Box} (hi : BInv B) {x : List UInt8} {l : List Nat} {m : List UInt8} (h : B.opens x = some (l, m)) : canon B l m = (x, B) := by
  obtain ⟨_, _, hc⟩ := opens_nf hi h
  rcases hc with ⟨rfl, rfl, hno⟩ | ⟨n, rfl, rfl, rfl, _⟩ | ⟨k, t, hs, hk, ht, h4, rfl⟩
  · exact canon_raw ⟨rfl, hno⟩
  · exact canon_one
  · have e1 : t.list = l := by rw [ht]; rfl
    have e2 : t.mask = m := by rw [ht]; rfl
    have h5 := h4.raw
    have h6 := h4.one
    rw [e1, e2] at h5 h6
    rw [canon_tag (fun q => h5 ⟨q.1, fun f => q.2 ⟨hs, f⟩⟩) h6]
    unfold Bx.Box.tag
    rw [← ht, place_self hi hk]
theorem K4.grow {B : Bx.Box} {t : Bx.Term} (u : Bx.Term) (h : K4 B t) : K4 { B with L := B.L ++ [u] } t := ⟨h.nf.grow u, h.form, h.one, h.raw⟩
theorem tag_ext {B : Bx.Box} (hi : BInv B) (hs : B.sym = true) (hl : B.L.length < 4096) {t : Bx.Term} (hz : TSz t) (h4 : t.kind = 4 → K4 B t) : Ext B (B.tag t).2 ∧ ∃ k, (B.tag t).1 = Bx.handle (k + 1) ∧ (B.tag t).2.L[k]? = some t := by
  unfold Bx.Box.tag
  cases hp : Bx.place t B.L with
  | some i => exact ⟨Ext.refl hi, i, rfl, Bx.place_some hp⟩
  | none =>
    simp only
    rw [if_neg (by omega)]
    refine ⟨⟨rfl, rfl, by simp, ⟨fun u hu => ?_, ?_, fun u hu hk => ?_, fun q => ?_, ?_⟩, fun h r q => opens_grow q⟩, B.L.length, rfl, by simp⟩
    · rcases List.mem_append.1 hu with hu | hu
      · exact hi.sz u hu
      · obtain rfl := List.mem_singleton.1 hu
        exact hz
    · refine List.nodup_append.2 ⟨hi.nodup, List.nodup_cons.2 ⟨fun q => (by cases q), List.nodup_nil⟩, fun a ha b hb q => ?_⟩
      obtain rfl := List.mem_singleton.1 hb
      exact Bx.place_none hp (q ▸ ha)
    · rcases List.mem_append.1 hu with hu | hu
      · exact (hi.k4 u hu hk).grow t
      · obtain rfl := List.mem_singleton.1 hu
        exact (h4 hk).grow u
    · rw [show ({ B with L := B.L ++ [t] } : Bx.Box).sym = B.sym from rfl, hs] at q
      cases q
    · simp only [List.length_append, List.length_cons, List.length_nil]
      omega
theorem turnT_sz {B : Bx.Box} (hi : BInv B) {l : List Nat} {m : List UInt8} (h : Nf B l m) : TSz (turnT l m) := by
  obtain ⟨h1, _, _⟩ := h.ok hi
  have := h1.len
  have := h1.mask
  exact ⟨by show 4 < 1000; decide, by show 0 < 1000; decide, Nat.zero_le _, Nat.zero_le _, by show l.length ≤ 10000; omega, fun n hn => by have := h1.nums n hn; omega, by show m.length ≤ 1000000; omega⟩
theorem canon_ext {B : Bx.Box} (hi : BInv B) (hl : B.L.length < 4096) {l : List Nat} {m : List UInt8} (h : Nf B l m) : Ext B (canon B l m).2 ∧ (canon B l m).1.length = 32 ∧ (canon B l m).2.opens (canon B l m).1 = some (l, m) := by
  have hsym : l ≠ [] → B.sym = true := fun hne => by
    cases hs : B.sym with
    | true => rfl
    | false =>
      obtain ⟨n, r, rfl⟩ := List.exists_cons_of_ne_nil hne
      have := h.nums n List.mem_cons_self
      rw [hi.plain hs] at this
      have h0 : n ≤ 0 := this.2
      omega
  by_cases h1 : l = [] ∧ ¬ (B.sym = true ∧ m.take 28 = Bx.front)
  · rw [canon_raw h1]
    refine ⟨Ext.refl hi, h.mask, ?_⟩
    rw [h1.1]
    exact Bx.opens_raw h.mask h1.2
  by_cases h2 : l.length = 1 ∧ m = Bx.noughts
  · obtain ⟨h2, rfl⟩ := h2
    obtain ⟨n, rfl⟩ := List.length_eq_one_iff.1 h2
    have hs := hsym (fun q => by cases q)
    rw [canon_one]
    refine ⟨Ext.refl hi, rfl, ?_⟩
    have hn := h.nums n List.mem_cons_self
    obtain ⟨u, hu, _⟩ := at_lt (l := B.L) (k := n - 1) (by omega)
    have hb := h.base n List.mem_cons_self u hu
    exact (opens_h hs (by omega) hn.1 hn.2 hu).trans (if_neg hb)
  · rw [canon_tag h1 h2]
    have hs : B.sym = true := by
      by_cases hne : l = []
      · cases hs : B.sym with
        | true => rfl
        | false => exact absurd ⟨hne, fun q => by rw [hs] at q; cases q.1⟩ h1
      · exact hsym hne
    obtain ⟨he, k, hk, hkt⟩ := tag_ext hi hs hl (turnT_sz hi h) (fun _ => ⟨h, rfl, h2, fun q => h1 ⟨q.1, fun f => q.2 f.2⟩⟩)
    refine ⟨he, by rw [hk]; rfl, ?_⟩
    rw [hk]
    have hlen := he.inv.len
    have hlt := (List.getElem?_eq_some_iff.1 hkt).1
    exact (opens_h (he.sym.trans hs) (by omega) (by omega) (by omega) hkt).trans (if_pos rfl)
theorem mem_mix {l1 l2 : List Nat} {n : Nat} (h : n ∈ mixL l1 l2) : n ∈ l1 ∨ n ∈ l2 := by
  have h3 : n ∈ notIn l1 l2 ++ notIn l2 l1 := (List.mergeSort_perm _ _).mem_iff.1 h
  rcases List.mem_append.1 h3 with q | q
  · exact .inl (List.mem_filter.1 q).1
  · exact .inr (List.mem_filter.1 q).1
theorem Nf.mix {B : Bx.Box} {l1 l2 : List Nat} {m1 m2 : List UInt8} (h1 : Nf B l1 m1) (h2 : Nf B l2 m2) : Nf B (mixL l1 l2) (Bx.xorB m1 m2) := by
  have d1 : l1.Nodup := h1.sorted.imp (fun q => Nat.ne_of_lt q)
  have d2 : l2.Nodup := h2.sorted.imp (fun q => Nat.ne_of_lt q)
  refine ⟨by rw [xorB_len, h1.mask, h2.mask]; exact Nat.min_self _, ?_, fun n hn => ?_, fun n hn => ?_⟩
  · rw [← symL_mix d1 d2 h1.nums h2.nums]
    exact (List.pairwise_lt_range' 1).sublist List.filter_sublist
  · rcases mem_mix hn with q | q
    · exact h1.nums n q
    · exact h2.nums n q
  · rcases mem_mix hn with q | q
    · exact h1.base n q
    · exact h2.base n q
theorem turn_ext {B : Bx.Box} (hi : BInv B) (hl : B.L.length < 4096) {s t : List UInt8} {l1 l2 : List Nat} {m1 m2 : List UInt8} (h1 : B.opens s = some (l1, m1)) (h2 : B.opens t = some (l2, m2)) :
    ∃ h B', turnB B s t = (some h, B') ∧ Ext B B' ∧ h.length = 32 ∧ B'.opens h = some (mixL l1 l2, Bx.xorB m1 m2) := by
  obtain ⟨_, n1, _⟩ := opens_nf hi h1
  obtain ⟨_, n2, _⟩ := opens_nf hi h2
  obtain ⟨e1, e2, e3⟩ := canon_ext hi hl (n1.mix n2)
  exact ⟨_, _, turnB_canon h1 h2, e1, e2, e3⟩
theorem sorted_ext {l m : List Nat} (hl : l.Pairwise (· < ·)) (hm : m.Pairwise (· < ·)) (h : ∀ a, a ∈ l ↔ a ∈ m) : l = m :=
  List.Perm.eq_of_pairwise (le := fun a b => a ≤ b) (fun a b _ _ p q => Nat.le_antisymm p q) (hl.imp (fun h => Nat.le_of_lt h)) (hm.imp (fun h => Nat.le_of_lt h)) ((List.perm_ext_iff_of_nodup (hl.imp (fun q => Nat.ne_of_lt q)) (hm.imp (fun q => Nat.ne_of_lt q))).2 h)
theorem mem_mix_iff {l1 l2 : List Nat} {n : Nat} : n ∈ mixL l1 l2 ↔ (n ∈ l1 ∧ n ∉ l2) ∨ (n ∈ l2 ∧ n ∉ l1) := by
  rw [mixL, sortN, (List.mergeSort_perm _ _).mem_iff, List.mem_append]
  simp [notIn, List.mem_filter]
theorem xor_comm (a b : List UInt8) : Bx.xorB a b = Bx.xorB b a := by
  unfold Bx.xorB
  rw [List.zipWith_comm]
  congr 1
  funext x y
  exact UInt8.xor_comm _ _
theorem xor_back : ∀ (a b : List UInt8), a.length = b.length → Bx.xorB (Bx.xorB a b) b = a
  | [], _, _ => rfl
  | a :: r, b :: t, h => by
    have ih := xor_back r t (by simpa using h)
    unfold Bx.xorB at ih ⊢
    simp only [List.zipWith_cons_cons, ih]
    rw [UInt8.xor_assoc, UInt8.xor_self, UInt8.xor_zero]
  | _ :: _, [], h => by cases h
theorem xor_same : ∀ a : List UInt8, Bx.xorB a a = List.replicate a.length 0
  | [] => rfl
  | a :: r => by
    have ih := xor_same r
    unfold Bx.xorB at ih ⊢
    simp only [List.zipWith_cons_cons, ih, UInt8.xor_self, List.length_cons, List.replicate_succ]
theorem mix_same (l : List Nat) : mixL l l = [] := by
  apply List.eq_nil_iff_forall_not_mem.2
  intro n hn
  rcases mem_mix_iff.1 hn with ⟨a, b⟩ | ⟨a, b⟩ <;> exact b a
theorem noughts_raw : ¬ Bx.noughts.take 28 = Bx.front := by decide
/-- Turned by a tag, and by it once more; by itself; the other way round. -/
theorem turns_plain {B : Bx.Box} (hi : BInv B) (hl : B.L.length < 4096) {x y : List UInt8} {rx ry : List Nat × List UInt8} (hx : B.opens x = some rx) (hy : B.opens y = some ry) :
    ∃ a B1, turnB B x y = (some a, B1) ∧ turnB B1 y x = (some a, B1) ∧ turnB B1 a y = (some x, B1) ∧ turnB B1 x x = (some Bx.noughts, B1) ∧ Ext B B1 ∧ a.length = 32 ∧ ∃ r, B1.opens a = some r := by
  obtain ⟨l1, m1⟩ := rx
  obtain ⟨l2, m2⟩ := ry
  obtain ⟨a, B1, e1, e2, e3, e4⟩ := turn_ext hi hl hx hy
  obtain ⟨_, n1, _⟩ := opens_nf e2.inv (e2.mono _ _ hx)
  obtain ⟨_, n2, _⟩ := opens_nf e2.inv (e2.mono _ _ hy)
  have hc : mixL l2 l1 = mixL l1 l2 := sorted_ext (n2.mix n1).sorted (n1.mix n2).sorted (fun n => by rw [mem_mix_iff, mem_mix_iff]; exact Or.comm)
  have hb : mixL (mixL l1 l2) l2 = l1 := sorted_ext ((n1.mix n2).mix n2).sorted n1.sorted (fun n => by
    rw [mem_mix_iff, mem_mix_iff]
    by_cases a : n ∈ l1 <;> by_cases b : n ∈ l2 <;> simp [a, b])
  refine ⟨a, B1, e1, ?_, ?_, ?_, e2, e3, _, e4⟩
  · rw [turnB_canon (e2.mono _ _ hy) (e2.mono _ _ hx), hc, xor_comm, opens_canon e2.inv e4]
  · rw [turnB_canon e4 (e2.mono _ _ hy), hb, xor_back _ _ (n1.mask.trans n2.mask.symm), opens_canon e2.inv (e2.mono _ _ hx)]
  · rw [turnB_canon (e2.mono _ _ hx) (e2.mono _ _ hx), mix_same, xor_same, n1.mask]
    have h : canon B1 [] Bx.noughts = (Bx.noughts, B1) := canon_raw ⟨rfl, fun q => noughts_raw q.2⟩
    exact congrArg (fun p : List UInt8 × Bx.Box => (some p.1, p.2)) h
end Go.Proofs.YthkjfepbmnabkaaGreatDoor.Sx

/- The law's calls on both boxes. -/
namespace Go.Proofs.YthkjfepbmnabkaaGreatDoor.Sx
open Go
attribute [local irreducible] Calls

theorem cutC (w : World) (A : Option Addr) (l : List UInt8) (c k : Nat) (hr : Bs w A l) (hc : l.length ≤ c) (hn : k ≤ lim) :
    Con Tryz.prog n_ostiaryref01_Cut #[.slice A l.length c, .int .i64 k] w [] fun v Fs => ∃ A' c', v = .slice A' (l.take k).length c' ∧ (l.take k).length ≤ c' ∧ c' ≤ maxLen ∧ Fs = [browF ty_uint8 A' (l.take k) c'] := con_row (cut_c w A l c k hr hc hn)
theorem cut_D {A : Option Addr} {l m : List UInt8} {c i k : Nat} (hm : m.length ≤ l.length) (h : (bsF (cutA A c i 1) m).D k) : (bsF A l).D k := by
  obtain ⟨h0, ad, hA, rfl⟩ := h
  have h0' : 0 < m.length * 1 := h0
  unfold cutA at hA
  split at hA
  · exact ⟨by show 0 < l.length * 1; omega, ad, hA, rfl⟩
  · cases A with
    | none => cases hA
    | some a =>
      have hA' : a.add (i * 1) = ad := by simpa using hA
      exact ⟨by show 0 < l.length * 1; omega, a, rfl, by rw [← hA']; unfold Addr.add; split <;> rfl⟩
/-- What a call of a box is told: new, open, and nothing else is shut. -/
def GoodT (B : Bx.Box) (r : List UInt8 × Bx.Box) : Prop := Ext B r.2 ∧ r.1.length = 32 ∧ ∃ q, r.2.opens r.1 = some q
theorem tag_good {B : Bx.Box} (hi : BInv B) (hs : B.sym = true) (hl : B.L.length < 4096) {t : Bx.Term} (hz : TSz t) (h4 : t.kind ≠ 4) : GoodT B (B.tag t) := by
  obtain ⟨he, k, hk, hkt⟩ := tag_ext hi hs hl hz (fun q => absurd q h4)
  refine ⟨he, by rw [hk]; rfl, ?_⟩
  rw [hk]
  have hlen := he.inv.len
  have hlt := (List.getElem?_eq_some_iff.1 hkt).1
  exact ⟨_, (opens_h (he.sym.trans hs) (by omega) (by omega) (by omega) hkt).trans (if_neg h4)⟩
theorem raw_good {B : Bx.Box} (hi : BInv B) (hs : B.sym = false) {h : List UInt8} (hh : h.length = 32) : GoodT B (h, B) :=
  ⟨Ext.refl hi, hh, _, Bx.opens_raw hh (fun q => by rw [hs] at q; cases q.1)⟩
theorem hash_good {B : Bx.Box} (hi : BInv B) (hl : B.L.length < 4096) {t : List UInt8} (ht : t.length ≤ 1000000) : GoodT B (hashB B t) := by
  cases hs : B.sym with
  | true => rw [show hashB B t = B.tag (hashT t) by unfold hashB; rw [hs]; rfl]; exact tag_good hi hs hl (hashT_sz ht) (by show ¬ 1 = 4; decide)
  | false => rw [show hashB B t = (Sha.sum t, B) by unfold hashB; rw [hs]; rfl]; exact raw_good hi hs (sum_len t)
theorem mac_good {B : Bx.Box} (hi : BInv B) (hl : B.L.length < 4096) {k t : List UInt8} (hk : k.length ≤ 1000000) (ht : t.length ≤ 1000000) : GoodT B (macB B k t) := by
  cases hs : B.sym with
  | true => rw [show macB B k t = B.tag (macT k t) by unfold macB; rw [hs]; rfl]; exact tag_good hi hs hl (macT_sz hk ht) (by show ¬ 2 = 4; decide)
  | false => rw [show macB B k t = (hmL k t, B) by unfold macB; rw [hs]; rfl]; exact raw_good hi hs (hmL_len k t)
theorem str_good {B : Bx.Box} (hi : BInv B) (hl : B.L.length < 4096) {k t : List UInt8} {r : Nat} (hk : k.length ≤ 1000000) (ht : t.length ≤ 1000000) (hr : r ≤ 64) : GoodT B (strB B k t r) := by
  cases hs : B.sym with
  | true => rw [show strB B k t r = B.tag (strT k t r) by unfold strB; rw [hs]; rfl]; exact tag_good hi hs hl (strT_sz hk ht hr) (by show ¬ 3 = 4; decide)
  | false => rw [show strB B k t r = (stretchL k t r, B) by unfold strB; rw [hs]; rfl]; exact raw_good hi hs (strX_len _ _ _)
theorem turn_cases {B : Bx.Box} (hi : BInv B) (hl : B.L.length < 4096) (s t : List UInt8) : turnB B s t = (none, B) ∨ ∃ h B', turnB B s t = (some h, B') ∧ GoodT B (h, B') := by
  cases h1 : B.opens s with
  | none => exact .inl (turnB_none1 h1)
  | some p =>
    cases h2 : B.opens t with
    | none => exact .inl (turnB_none2 h2)
    | some q =>
      obtain ⟨h, B', e1, e2, e3, e4⟩ := turn_ext hi hl h1 h2
      exact .inr ⟨h, B', e1, e2, e3, _, e4⟩
/-- A call of the script. -/
structure OpA where
  d : UInt8
  p : Int
  q : Int
  K : Option Addr
  key : List UInt8
  cK : Nat
  X : Option Addr
  text : List UInt8
  cX : Nat
  r : Int
  raw : Bool
def OpA.cells (o : OpA) : List Value := [.int .u8 o.d.toNat, .int .i64 o.p, .int .i64 o.q, .slice o.K o.key.length o.cK, .slice o.X o.text.length o.cX, .int .i64 o.r, .bool o.raw]
def OpA.sl (o : OpA) : List SL := o.cells.map SL.v
/-- What a call of both boxes leaves. -/
structure DJ where
  h : List UInt8
  n : Nat
  A9 : Option Addr
  c9 : Nat
  A10 : Option Addr
  c10 : Nat
  e : Int
  B : Bx.Box
  y : Lay
  z : Lay
/-- What was told stays open. -/
structure TOk (B : Bx.Box) (ts : List Part) : Prop where
  inv : BInv B
  n : ts.length ≤ 1000
  tg : ∀ p ∈ ts, p.2.1.length = 32 ∧ ∃ r, B.opens p.2.1 = some r
structure Lo (B : Bx.Box) (y z : Lay) : Prop where
  y : y.ts.map (·.1) = B.L
  z : z.ts.map (·.1) = B.L
abbrev tlF (tb b rb : Nat) (B : Bx.Box) (y z : Lay) (T : Option Addr) (c : Nat) (ts : List Part) : List Fact := [bxF b B y, rbxF rb B z, tdF tb b rb T c ts]
abbrev tabF : List Fact := [oddF 2, firstF 0, oddF 3]
def doOut (tb b rb : Nat) (B : Bx.Box) (ts : List Part) (v : Value) (Fs : List Fact) : Prop :=
  ∃ B' y' z' T' c' ts', v = .bool true ∧ Ext B B' ∧ Lo B' y' z' ∧ TOk B' ts' ∧ ts'.length ≤ ts.length + 1 ∧ Fs = tlF tb b rb B' y' z' T' c' ts'
set_option maxHeartbeats 2000000 in
theorem do_c (w : World) (tb b rb : Nat) (B : Bx.Box) (y z : Lay) (T : Option Addr) (c : Nat) (ts : List Part) (o : OpA) (hlo : Lo B y z) (hok : TOk B ts) (hl : B.L.length < 4000) (hn : ts.length < 1000) (hcK : o.key.length ≤ o.cK) (hcX : o.text.length ≤ o.cX)
    (hm : Mem w (tlF tb b rb B y z T c ts ++ [bsF o.K o.key, bsF o.X o.text] ++ tabF)) :
    Con Tryz.prog n_ostiarylaw05_told_do #[ptrB tb, .agg o.cells.toArray] w (tlF tb b rb B y z T c ts) (doOut tb b rb B ts) := by
  have g := good_ostiarylaw05_told_do w (Un (tlF tb b rb B y z T c ts))
  have hs0 : Sat (cx_ostiarylaw05_told_do w (Un (tlF tb b rb B y z T c ts))) Va.z 0 [] (tlF tb b rb B y z T c ts ++ [bsF o.K o.key, bsF o.X o.text] ++ tabF) w := hm.sat0 rfl (ownIn (Gs := tlF tb b rb B y z T c ts) (fun f hf => by
    have hf' : f ∈ [bsF o.K o.key, bsF o.X o.text, oddF 2, firstF 0, oddF 3] := hf
    simp only [List.mem_cons, List.not_mem_nil, or_false] at hf'
    rcases hf' with rfl | rfl | rfl | rfl | rfl <;> rfl))
  obtain ⟨d, p, q, K, key, cK, X, text, cX, r, raw⟩ := o
  simp only at hcK hcX
  refine con_of_tri (cx := cx_ostiarylaw05_told_do w (Un (tlF tb b rb B y z T c ts))) g b_ostiarylaw05_told_do rfl rfl (β := Va.z) [.c (.v (ptrB tb)), .agg (OpA.sl ⟨d, p, q, K, key, cK, X, text, cX, r, raw⟩)] 0 [] _ rfl rfl hs0 ?_
  have hT32 : ∀ x ∈ ts, x.2.1.length ≤ 1000000 := fun x hx => by have := (hok.tg x hx).1; omega
  have hpk : ∀ {n : Int} {x : List UInt8}, picked ts n x → x.length ≤ 32 := fun h => by
    rcases h with ⟨_, rfl⟩ | ⟨_, u, hu, rfl⟩
    · exact Nat.zero_le _
    · exact Nat.le_of_eq (hok.tg u hu).1
  have hlim : 70 ≤ lim := by rw [lim_eq]; decide
  have hlim6 : 60 ≤ lim := by rw [lim_eq]; decide
  refine tri_seq g ?_
  refine tri_seq g ?_
  refine draw_rule g p_ostiarylaw05_told_do_1 (by kernel_rfl) [⟨0, ty_ostiarylaw05_Op, OpA.sl ⟨d, p, q, K, key, cK, X, text, cX, r, raw⟩⟩] [] (Sub.of (List.Sublist.refl _) (List.nil_sublist _)) ?_
  refine call_con [] (fun β w' hs => cutC w' K key cK 70 (hs.get 3 rfl) hcK hlim) ?_
  rintro v Fs ⟨A1, c1, rfl, q1, _, rfl⟩
  refine ⟨Sub.of (List.Sublist.refl _) (List.nil_sublist _), ?_⟩
  refine call_con [] (fun β w' hs => pick_c w' tb b rb T c ts p (hs.get 3 rfl) (fun k hk => hs.flt _ (List.mem_of_getElem? (i := 3) rfl) k hk) hT32) ?_
  rintro v Fs ⟨A2, x, c2, hx, rfl, q2, rfl⟩
  have hxl := hpk hx
  refine ⟨Sub.of (List.Sublist.refl _) (List.nil_sublist _), ?_⟩
  refine call_con [] (fun β w' hs => cutC w' X text cX 60 (hs.get 6 rfl) hcX hlim6) ?_
  rintro v Fs ⟨A3, c3, rfl, q3, _, rfl⟩
  refine ⟨Sub.of (List.Sublist.refl _) (List.nil_sublist _), ?_⟩
  have hx60 : (text.take 60).length ≤ 60 := by rw [List.length_take]; omega
  have hk70 : (key.take 70).length ≤ 70 := by rw [List.length_take]; omega
  have hml := maxLen_eq
  refine ⟨1, x.length, (x ++ text.take 60).length, x.map byte, (text.take 60).map byte, (x ++ text.take 60).map byte, rfl, fun β w' hs => row_rd (hs.get 0 rfl), bytes_one _, by rw [List.length_append], by rw [List.map_append], by rw [List.length_append]; omega, by show (x ++ text.take 60).length * 1 ≤ _; rw [List.length_append]; omega, ?_⟩
  intro A4 c4 q4 q5 q6
  refine ⟨Sub.of (List.Sublist.refl _) (List.nil_sublist _), ?_⟩
  have hz92 : (x ++ text.take 60).length ≤ 100 := by rw [List.length_append]; omega
  generalize x ++ text.take 60 = tx at *
  generalize key.take 70 = ky at *
  refine tri_seqJ (ι := Option Addr × List UInt8 × Nat) g (fun i => i.2.1.length ≤ 70) 1 (fun i => [(0, .c (.v (ptrB tb))), (3, .c (.p 0 0)), (5, .c (.v (.slice i.1 i.2.1.length i.2.2))), (6, .c (.v (.slice A4 tx.length c4)))])
    (fun _ => [⟨0, ty_ostiarylaw05_Op, OpA.sl ⟨d, p, q, K, key, cK, X, text, cX, r, raw⟩⟩]) (fun i => [browF ty_uint8 A4 tx c4, browF ty_uint8 i.1 i.2.1 i.2.2, bxF b B y, rbxF rb B z, tdF tb b rb T c ts, bsF X text] ++ tabF) ?_ ?_
  rotate_left
  · cases raw with
    | false => exact EntX.of (A1, ky, c1) hk70 (Ent.mk' ⟨rfl, rfl, rfl, rfl, trivial⟩ rfl (fun β w' hs => hs.perm [1, 2, 3, 4, 5, 7, 8, 9, 10]))
    | true =>
      refine call_con [] (fun β w' hs => pick_c w' tb b rb T c ts q (hs.get 5 rfl) (fun k hk => hs.flt _ (List.mem_of_getElem? (i := 5) rfl) k hk) hT32) ?_
      rintro v Fs ⟨A5, k5, c5, hk5, rfl, q7, rfl⟩
      have hk5l := hpk hk5
      exact EntX.of (A5, k5, c5) (by show k5.length ≤ 70; omega) (Ent.mk' ⟨rfl, rfl, rfl, rfl, trivial⟩ rfl (fun β w' hs => hs.perm [2, 0, 4, 5, 6, 8, 9, 10, 11]))
  clear hk70 q1
  rintro ⟨A5, k5, c5⟩ hk5
  simp only at hk5
  refine tri_seq g ?_
  refine call_con [] (fun β w' hs => copyC w' A5 k5 c5 (row_rd (hs.get 1 rfl)) (by rw [lim_eq]; omega)) ?_
  rintro v Fs ⟨A6, c6, rfl, q7, _, rfl⟩
  refine call_con [] (fun β w' hs => copyC w' A4 tx c4 (row_rd (hs.get 1 rfl)) (by rw [lim_eq]; omega)) ?_
  rintro v Fs ⟨A7, c7, rfl, q8, _, rfl⟩
  refine tri_seq g ?_
  refine tri_seq g ?_
  refine tri_seqJ (ι := DJ) g (fun j => Ext B j.B ∧ Lo j.B j.y j.z ∧ j.n = j.h.length ∧ (j.h = [] ∨ (j.h.length = 32 ∧ ∃ r, j.B.opens j.h = some r))) 0
    (fun j => [(0, .c (.v (ptrB tb))), (5, .c (.v (.slice A5 k5.length c5))), (6, .c (.v (.slice A4 tx.length c4))), (7, .c (.v (.slice A6 k5.length c6))), (8, .c (.v (.slice A7 tx.length c7))), (9, .c (.v (.slice j.A9 j.n j.c9))), (10, .c (.v (.slice j.A10 j.n j.c10))), (11, .c (.v (.int .i64 j.e))), (12, .c (.v (.int .i64 j.e)))])
    (fun _ => []) (fun j => [browF ty_uint8 j.A9 j.h j.c9, browF ty_uint8 j.A10 j.h j.c10, browF ty_uint8 A7 tx c7, browF ty_uint8 A6 k5 c6, browF ty_uint8 A4 tx c4, browF ty_uint8 A5 k5 c5, bxF b j.B j.y, rbxF rb j.B j.z, tdF tb b rb T c ts]) ?_ ?_
  · rintro ⟨h, nn, A9, c9, A10, c10, e, B', y', z'⟩ ⟨hext, hlo', hnn, hopen⟩
    simp only at hext hlo' hnn hopen
    subst hnn
    have hml := maxLen_eq
    have hhl : h.length ≤ 32 := by rcases hopen with rfl | q; exact Nat.zero_le _; exact Nat.le_of_eq q.1
    have hok' : TOk B' ts := ⟨hext.inv, hok.n, fun x hx => by obtain ⟨a1, r, a2⟩ := hok.tg x hx; exact ⟨a1, r, hext.mono _ _ a2⟩⟩
    refine tri_join (ι := Unit) (fun _ => True) 0 (fun _ => [(0, .c (.v (ptrB tb))), (5, .c (.v (.slice A5 k5.length c5))), (6, .c (.v (.slice A4 tx.length c4))), (7, .c (.v (.slice A6 k5.length c6))), (8, .c (.v (.slice A7 tx.length c7))), (9, .c (.v (.slice A9 h.length c9))), (10, .c (.v (.slice A10 h.length c10))), (11, .c (.v (.int .i64 e))), (12, .c (.v (.int .i64 e)))]) (fun _ => [])
      (fun _ => tdFs tb b rb T c ts ++ [browF ty_uint8 A9 h c9, browF ty_uint8 A10 h c10, browF ty_uint8 A7 tx c7, browF ty_uint8 A6 k5 c6, browF ty_uint8 A4 tx c4, browF ty_uint8 A5 k5 c5, bxF b B' y', rbxF rb B' z']) ?_ (EntX.of () trivial (Ent.mk' ⟨rfl, rfl, rfl, rfl, rfl, rfl, rfl, rfl, rfl, trivial⟩ rfl (fun β w' hs => (hs.perm [8, 0, 1, 2, 3, 4, 5, 6, 7]).unsep 0 rfl)))
    rintro ⟨⟩ -
    refine tri_seqJ (ι := Option Addr × Nat × List Part × Fact) g (fun i => i.2.2.2.own = true ∧ (∀ w, (tdF tb b rb i.1 i.2.1 i.2.2.1).p w → i.2.2.2.p w → Bs w A10 h) ∧ TOk B' i.2.2.1 ∧ i.2.2.1.length ≤ ts.length + 1) 0
      (fun _ => [(5, .c (.v (.slice A5 k5.length c5))), (6, .c (.v (.slice A4 tx.length c4))), (7, .c (.v (.slice A6 k5.length c6))), (8, .c (.v (.slice A7 tx.length c7))), (9, .c (.v (.slice A9 h.length c9))), (10, .c (.v (.slice A10 h.length c10))), (11, .c (.v (.int .i64 e))), (12, .c (.v (.int .i64 e)))]) (fun _ => [])
      (fun i => [browF ty_uint8 A9 h c9, browF ty_uint8 A7 tx c7, browF ty_uint8 A6 k5 c6, browF ty_uint8 A4 tx c4, browF ty_uint8 A5 k5 c5, bxF b B' y', rbxF rb B' z', tdF tb b rb i.1 i.2.1 i.2.2.1, i.2.2.2]) ?_ ?_
    · rintro ⟨T2, c2', ts2, W⟩ ⟨hWo, hW, hok2, hlen2⟩
      simp only at hWo hW hok2 hlen2
      refine tri_of g ?_
      refine call_pu (v := .bool true) (fun β w' hs => by
        have k1 := pu_of (same_c w' A9 A10 h h c9 c10 (row_rd (hs.get 0 rfl)) (hW w' (hs.get 7 rfl) (hs.get 8 rfl)))
        rw [decide_eq_true rfl] at k1
        exact k1) ?_
      conv => whnf
      generalize hee : decide (e = e) = b1
      cases b1 with
      | false => exact absurd rfl (of_decide_eq_false hee)
      | true =>
      refine call_pu (v := .bool true) (fun β w' hs => by
        have k1 := pu_of (same_c w' A6 A5 k5 k5 c6 c5 (row_rd (hs.get 2 rfl)) (row_rd (hs.get 4 rfl)))
        rw [decide_eq_true rfl] at k1
        exact k1) ?_
      refine call_pu (v := .bool true) (fun β w' hs => by
        have k1 := pu_of (same_c w' A7 A4 tx tx c7 c4 (row_rd (hs.get 1 rfl)) (row_rd (hs.get 3 rfl)))
        rw [decide_eq_true rfl] at k1
        exact k1) ?_
      refine call_con [2] (fun β w' hs => flip_c w' A6 k5 c6 (hs.mem.take (js := [2]) rfl) (by rw [lim_eq]; omega)) ?_
      rintro v Fs ⟨l1, hl1, rfl⟩
      refine call_con [2] (fun β w' hs => flip_c w' A7 tx c7 (hs.mem.take (js := [2]) rfl) (by rw [lim_eq]; omega)) ?_
      rintro v Fs ⟨l2, hl2, rfl⟩
      refine call_con [2] (fun β w' hs => flip_c w' A9 h c9 (hs.mem.take (js := [2]) rfl) (by rw [lim_eq]; omega)) ?_
      rintro v Fs ⟨l3, hl3, rfl⟩
      intro β w' hs
      exact (hs.keepB (List.nil_sublist _)).fin [5, 6, 7] ⟨B', y', z', T2, c2', ts2, rfl, hext, hlo', hok2, hlen2, rfl⟩ rfl rfl rfl ⟨rfl, rfl, rfl, trivial⟩
    · refine BIf.dec (fun h32 => ?_) (fun h32 => ?_)
      · have h320 : (h.length : Int) = 32 := h32
        have h32n : h.length = 32 := by omega
        refine ⟨.slice T ts.length c, fun β w' hs => bk_cell (hs.get 0 rfl) (o := 2) rfl, ?_⟩
        intro b1
        refine ⟨2, ts.length, ts.length + 1, ts.map partV, [.slice A10 h.length c10], (ts ++ [(A10, h, c10)]).map partV, rfl, fun β w' hs => row_rd (hs.get 0 rfl), one_mem rfl, rfl, by rw [List.map_append]; rfl, by omega, by show (ts.length + 1) * 24 ≤ _; omega, ?_⟩
        intro T' c' q1 q2 q3
        refine ⟨_, fun β w' hs => hs.bkSet 1 (o := 2) (us := [.slice T' (ts.length + 1) c']) rfl (by show 3 ≤ 3; decide) (one_mem rfl), ?_⟩
        have htd : tdF tb b rb T' c' (ts ++ [(A10, h, c10)]) = sepF [bkF tb ty_ostiarylaw05_told [ptrB b, ptrB rb, .slice T' (ts.length + 1) c'], rowF ty_sl_uint8 1 (.slice T' (ts.length + 1) c') (ts.length + 1) ((ts ++ [(A10, h, c10)]).map partV), tgF (ts ++ [(A10, h, c10)])] := by
          simp [tdF, tdFs, tdCells]
        have hop : h.length = 32 ∧ ∃ r, B'.opens h = some r := by
          rcases hopen with rfl | q
          · cases h32n
          · exact q
        refine EntX.of (T', c', ts ++ [(A10, h, c10)], nilO) ⟨rfl, fun w htp _ => td_tg htp (A10, h, c10) (by simp), ⟨hext.inv, by rw [List.length_append]; show ts.length + 1 ≤ _; omega, fun x hx => ?_⟩, by rw [List.length_append]; exact Nat.le_refl _⟩ (Ent.mk' ⟨rfl, rfl, rfl, rfl, rfl, rfl, rfl, rfl, trivial⟩ rfl (fun β w' hs => ?_))
        · rcases List.mem_append.1 hx with hx | hx
          · exact hok'.tg x hx
          · obtain rfl := List.mem_singleton.1 hx
            exact hop
        · have h1 := hs.fuse [3, 5] (tgF (ts ++ [(A10, h, c10)])) (fun w hm => ?_) (fun k hk => ?_) rfl ⟨rfl, rfl, trivial⟩
          · have h2 := (h1.sep [2, 3, 0] rfl ⟨rfl, rfl, rfl, trivial⟩).noMem nilO trivial (fun _ h => h)
            have h3 := h2.perm [3, 4, 5, 6, 7, 8, 9, 1, 0]
            show Sat _ _ _ _ [browF ty_uint8 A9 h c9, browF ty_uint8 A7 tx c7, browF ty_uint8 A6 k5 c6, browF ty_uint8 A4 tx c4, browF ty_uint8 A5 k5 c5, bxF b B' y', rbxF rb B' z', tdF tb b rb T' c' (ts ++ [(A10, h, c10)]), nilO] _
            rw [htd]
            exact h3
          · have hm' : Mem w [tgF ts, browF ty_uint8 A10 h c10] := hm
            intro x hx
            rcases List.mem_append.1 hx with hx | hx
            · exact hm'.fact (tgF ts) (by simp) x hx
            · obtain rfl := List.mem_singleton.1 hx
              exact row_rd (hm'.fact (browF ty_uint8 A10 h c10) (by simp))
          · show Un [tgF ts, browF ty_uint8 A10 h c10] k
            obtain ⟨x, hx, hk⟩ := hk
            rcases List.mem_append.1 hx with hx | hx
            · exact ⟨tgF ts, by simp, x, hx, hk⟩
            · obtain rfl := List.mem_singleton.1 hx
              exact ⟨browF ty_uint8 A10 h c10, by simp, row_D hk⟩
      · exact EntX.of (T, c, ts, browF ty_uint8 A10 h c10) ⟨rfl, fun w _ hp => row_rd hp, hok', Nat.le_succ _⟩ (Ent.mk' ⟨rfl, rfl, rfl, rfl, rfl, rfl, rfl, rfl, trivial⟩ rfl (fun β w' hs => (hs.sep [0, 1, 2] rfl ⟨rfl, rfl, rfl, trivial⟩).perm [1, 3, 4, 5, 6, 7, 8, 0, 2]))
  · refine ⟨by decide, ((d.toNat % 9 : Nat) : Int), Int.ofNat_tmod _ _, ?_⟩
    obtain ⟨m, hm⟩ : ∃ m, d.toNat % 9 = m := ⟨_, rfl⟩
    rw [hm]
    refine BIf.dec (fun h3 => ?c3) (fun h3 => ?n3)
    case' c3 => refine BIf.dec (fun _ => ?d3) (fun h => absurd h3 h)
    case' n3 => refine BIf.dec (fun h4 => ?d4) (fun h4 => ?n4)
    case' c3 | d4 =>
      obtain ⟨u, hu⟩ : ∃ u, tx.take (tx.length / 2) = u := ⟨_, rfl⟩
      obtain ⟨v, hv⟩ : ∃ v, tx.drop (tx.length / 2) = v := ⟨_, rfl⟩
      have huv : u ++ v = tx := by rw [← hu, ← hv, List.take_append_drop]
      have hul : u.length = tx.length / 2 := by rw [← hu, List.length_take]; omega
      have hvl : v.length = tx.length - u.length := by rw [← huv, List.length_append]; omega
      have hul2 : u.length ≤ tx.length := by omega
      refine ⟨by decide, (u.length : Int), by rw [wrap_i64 (by rw [Int.tdiv_eq_ediv_of_nonneg (by omega)]; omega) (by rw [Int.tdiv_eq_ediv_of_nonneg (by omega)]; omega), Int.tdiv_eq_ediv_of_nonneg (by omega)]; omega, ?_⟩
      refine draw_rule g p_ostiarylaw05_told_do_18 (by kernel_rfl) [⟨0, ty_ostiarylaw05_Op, OpA.sl ⟨d, p, q, K, key, cK, X, text, cX, r, raw⟩⟩] [tdF tb b rb T c ts] (subPerm [6]) ?_
      refine ⟨ptrB b, fun β w' hs => bk_cell (td_bk (hs.get 0 rfl)) (o := 0) rfl, ?_⟩
      refine ⟨c7, u.length, 0, u.length, c7, _, rfl, rfl, rfl, by omega, by omega, Nat.zero_le _, rfl, rfl, rfl, ?_⟩
      refine ⟨c7, tx.length, u.length, v.length, c7 - u.length, _, rfl, rfl, rfl, by omega, by omega, by omega, hvl.symm, rfl, rfl, ?_⟩
      refine ⟨ptrB rb, fun β w' hs => bk_cell (td_bk (hs.get 0 rfl)) (o := 1) rfl, ?_⟩
      intro bs
      refine ⟨subPerm [7], ?_⟩
      have hgood := hash_good hok.inv (B := B) (by omega) (t := tx) (by omega)
      refine call_con [5] (R := boxOut b (hashB B tx)) (fun β w' hs => by
        have h2 := (hs.rowRd 0 rfl).ro 1 rfl
        have h3 := h2.sub 1 rfl rfl (bsF (cutA A7 c7 0 1) u) rfl (Bs.cutB (h2.get 1 rfl) q8 (Nat.zero_le u.length) hul2 (by rw [List.drop_zero, Nat.sub_zero, ← huv]; exact List.take_left)) (fun k hk => cut_D hul2 hk)
        have h4 := h3.sub 2 rfl rfl (bsF (cutA A7 c7 u.length 1) v) rfl (Bs.cutB (h3.get 2 rfl) q8 hul2 (Nat.le_refl _) (by rw [← hvl, ← huv, List.drop_left]; exact List.take_length)) (fun k hk => cut_D (by omega) hk)
        have h5 := h4.part2 [2, 1, 0] rfl
        have e : partsT [(cutA A7 c7 0 1, u, c7), (cutA A7 c7 u.length 1, v, c7 - u.length)] = tx := by simp [partsT, huv]
        have k2 := hashP_c w' b B y bs [(cutA A7 c7 0 1, u, c7), (cutA A7 c7 u.length 1, v, c7 - u.length)] 2 hlo.y hok.inv.len (by simp) (Nat.le_refl _) (by show 2 ≤ 1000; decide) (by rw [e]; omega) (h5.mem.take (js := [8, 0, 12, 13]) rfl)
        rw [e] at k2
        exact k2) ?_
      rintro v Fs ⟨A9, c9, y1, rfl, r1, r2, r3, rfl⟩
      refine ⟨subPerm [8], ?_⟩
      refine call_con [7] (R := rtagOut rb (hashB B tx)) (fun β w' hs => by
        have h2 := hs.ro 5 rfl
        exact rhash_c w' rb B z A4 tx c4 hlo.z hok.inv.len hok.inv.sz (by omega) (h2.mem.take (js := [7, 5, 12]) rfl)) ?_
      rintro v Fs ⟨A10, c10, z1, rfl, r4, r5, r6, rfl⟩
      refine ⟨subPerm [9], ?_⟩
      exact EntX.of ⟨(hashB B tx).1, 32, A9, c9, A10, c10, 0, (hashB B tx).2, y1, z1⟩ ⟨hgood.1, ⟨r3, r6⟩, hgood.2.1.symm, .inr hgood.2⟩ (Ent.mk' ⟨rfl, rfl, rfl, rfl, rfl, rfl, rfl, rfl, rfl, trivial⟩ rfl (fun β w' hs => ((hs.keepB (List.nil_sublist _)).perm [2, 0, 5, 6, 7, 8, 3, 1, 9]).lower))
    refine BIf.dec (fun h5 => ?c5) (fun h5 => ?n5)
    case' c5 => refine BIf.dec (fun _ => ?d5) (fun h => absurd h5 h)
    case' n5 => refine BIf.dec (fun h6 => ?d6) (fun h6 => ?n6)
    case' c5 | d6 =>
      refine draw_rule g p_ostiarylaw05_told_do_21 (by kernel_rfl) [⟨0, ty_ostiarylaw05_Op, OpA.sl ⟨d, p, q, K, key, cK, X, text, cX, r, raw⟩⟩] [tdF tb b rb T c ts] (subPerm [6]) ?_
      refine ⟨ptrB b, fun β w' hs => bk_cell (td_bk (hs.get 0 rfl)) (o := 0) rfl, ?_⟩
      refine ⟨ptrB rb, fun β w' hs => bk_cell (td_bk (hs.get 0 rfl)) (o := 1) rfl, ?_⟩
      intro bs
      refine ⟨subPerm [7], ?_⟩
      have hgood := mac_good hok.inv (B := B) (by omega) (k := k5) (t := tx) (by omega) (by omega)
      refine call_con [5] (R := boxOut b (macB B k5 tx)) (fun β w' hs => by
        have h2 := ((hs.rowRd 0 rfl).ro 1 rfl).ro 2 rfl
        have h5 := h2.part1 (l := tx) [0, 1] rfl
        have e : partsT [(A7, tx, c7)] = tx := by simp [partsT]
        have k2 := macP_c w' b B y A6 k5 c6 bs [(A7, tx, c7)] 1 hlo.y hok.inv.len (by omega) (by simp) (Nat.le_refl _) (by show 1 ≤ 1000; decide) (by rw [e]; omega) (h5.mem.take (js := [6, 0, 3, 10, 11]) rfl)
        rw [e] at k2
        exact k2) ?_
      rintro v Fs ⟨A9, c9, y1, rfl, r1, r2, r3, rfl⟩
      refine ⟨subPerm [8], ?_⟩
      refine call_con [7] (R := rtagOut rb (macB B k5 tx)) (fun β w' hs => by
        have h2 := (hs.ro 5 rfl).ro 6 rfl
        exact rmac_c w' rb B z A5 A4 k5 tx c5 c4 hlo.z hok.inv.len hok.inv.sz (by omega) (by omega) (h2.mem.take (js := [7, 6, 5, 12]) rfl)) ?_
      rintro v Fs ⟨A10, c10, z1, rfl, r4, r5, r6, rfl⟩
      refine ⟨subPerm [9], ?_⟩
      exact EntX.of ⟨(macB B k5 tx).1, 32, A9, c9, A10, c10, 0, (macB B k5 tx).2, y1, z1⟩ ⟨hgood.1, ⟨r3, r6⟩, hgood.2.1.symm, .inr hgood.2⟩ (Ent.mk' ⟨rfl, rfl, rfl, rfl, rfl, rfl, rfl, rfl, rfl, trivial⟩ rfl (fun β w' hs => ((hs.keepB (List.nil_sublist _)).perm [2, 0, 5, 6, 7, 8, 3, 1, 9]).lower))
    refine BIf.dec (fun h7 => ?str) (fun h7 => ?turn)
    case' str =>
      refine BIf.dec (fun h8 => ?s1) (fun h8 => ?s2)
      case' s1 =>
        obtain ⟨x1, e1⟩ : ∃ x1, r.tmod 4 = x1 := ⟨_, rfl⟩
        refine ⟨by decide, x1, e1, ?_⟩
        obtain ⟨x2, e2⟩ : ∃ x2, IntKind.i64.wrap (r.tdiv 4) = x2 := ⟨_, rfl⟩
        refine ⟨by decide, x2, e2, ?_⟩
        obtain ⟨x3, e3⟩ : ∃ x3, x2.tmod 2 = x3 := ⟨_, rfl⟩
        refine ⟨by decide, x3, e3, ?_⟩
        obtain ⟨x4, e4⟩ : ∃ x4, IntKind.i64.wrap (x3 * 64) = x4 := ⟨_, rfl⟩
        refine ⟨x4, e4, ?_⟩
        obtain ⟨x5, e5⟩ : ∃ x5, max 0 x4 = x5 := ⟨_, rfl⟩
        refine ⟨x5, e5, ?_⟩
        obtain ⟨r', e6⟩ : ∃ r', IntKind.i64.wrap (x1 + x5) = r' := ⟨_, rfl⟩
        refine ⟨r', e6, ?_⟩
      case' s2 =>
        obtain ⟨r', rfl⟩ : ∃ r', r' = r := ⟨_, rfl⟩
      case' s1 | s2 =>
        refine ⟨ptrB b, fun β w' hs => bk_cell (td_bk (hs.get 6 rfl)) (o := 0) rfl, ?_⟩
        refine call_con [4] (R := strOut b B y k5 tx r') (fun β w' hs => by
          have h2 := (hs.ro 0 rfl).ro 1 rfl
          exact strP_c w' b B y A6 A7 k5 tx c6 c7 r' hlo.y hok.inv.len (by omega) (by omega) (h2.mem.take (js := [4, 1, 0, 8, 9]) rfl)) ?_
        by_cases hr : 1 ≤ r' ∧ r' ≤ 64
        · have es : strOut b B y k5 tx r' = fun v Fs => ∃ A c y', v = .tuple #[.slice A 32 c, .int .i64 0] ∧ 32 ≤ c ∧ c ≤ maxLen ∧ y'.ts.map (·.1) = (strB B k5 tx r'.toNat).2.L ∧ Fs = [browF ty_uint8 A (strB B k5 tx r'.toNat).1 c, bxF b (strB B k5 tx r'.toNat).2 y'] := by
            funext v Fs
            unfold strOut
            rw [if_pos hr]
          have er : rstrOut rb B z k5 tx r' = rtagOut rb (strB B k5 tx r'.toNat) := by
            funext v Fs
            unfold rstrOut
            rw [if_pos hr]
          have hgood := str_good hok.inv (B := B) (by omega) (k := k5) (t := tx) (r := r'.toNat) (by omega) (by omega) (by omega)
          rw [es]
          rintro v Fs ⟨A9, c9, y1, rfl, r1, r2, r3, rfl⟩
          refine ⟨ptrB rb, fun β w' hs => bk_cell (td_bk (hs.get 7 rfl)) (o := 1) rfl, ?_⟩
          refine call_con [6] (R := rtagOut rb (strB B k5 tx r'.toNat)) (fun β w' hs => by
            have h2 := (hs.ro 4 rfl).ro 5 rfl
            have k2 := rstr_c w' rb B z A5 A4 k5 tx c5 c4 r' hlo.z hok.inv.len hok.inv.sz (by omega) (by omega) (h2.mem.take (js := [6, 5, 4, 11]) rfl)
            rw [er] at k2
            exact k2) ?_
          rintro v Fs ⟨A10, c10, z1, rfl, r4, r5, r6, rfl⟩
          exact EntX.of ⟨(strB B k5 tx r'.toNat).1, 32, A9, c9, A10, c10, 0, (strB B k5 tx r'.toNat).2, y1, z1⟩ ⟨hgood.1, ⟨r3, r6⟩, hgood.2.1.symm, .inr hgood.2⟩ (Ent.mk' ⟨rfl, rfl, rfl, rfl, rfl, rfl, rfl, rfl, rfl, trivial⟩ rfl (fun β w' hs => ((hs.keepB (List.nil_sublist _)).perm [2, 0, 4, 5, 6, 7, 3, 1, 8]).lower))
        · have es : strOut b B y k5 tx r' = fun v Fs => v = .tuple #[.slice none 0 0, .int .i64 1] ∧ Fs = [bxF b B y] := by
            funext v Fs
            unfold strOut
            rw [if_neg hr]
          have er : rstrOut rb B z k5 tx r' = fun v Fs => v = .slice none 0 0 ∧ Fs = [rbxF rb B z] := by
            funext v Fs
            unfold rstrOut
            rw [if_neg hr]
          rw [es]
          rintro v Fs ⟨rfl, rfl⟩
          refine ⟨ptrB rb, fun β w' hs => bk_cell (td_bk (hs.get 6 rfl)) (o := 1) rfl, ?_⟩
          refine call_con [5] (R := rstrOut rb B z k5 tx r') (fun β w' hs => by
            have h2 := (hs.ro 3 rfl).ro 4 rfl
            exact rstr_c w' rb B z A5 A4 k5 tx c5 c4 r' hlo.z hok.inv.len hok.inv.sz (by omega) (by omega) (h2.mem.take (js := [5, 4, 3, 10]) rfl)) ?_
          rw [er]
          rintro v Fs ⟨rfl, rfl⟩
          exact EntX.of ⟨[], 0, none, 0, none, 0, 1, B, y, z⟩ ⟨Ext.refl hok.inv, hlo, rfl, .inl rfl⟩ (Ent.mk' ⟨rfl, rfl, rfl, rfl, rfl, rfl, rfl, rfl, rfl, trivial⟩ rfl (fun β w' hs => ((((hs.keepB (List.nil_sublist _)).nilRow ty_uint8 1).nilRow ty_uint8 1).perm [0, 1, 4, 5, 6, 7, 3, 2, 8]).lower))
    have hokS : ∀ tag l m, B.opens tag = some (l, m) → OkN B l m := fun tag l m h => (opens_nf hok.inv h).2.1.ok hok.inv
    refine draw_rule g p_ostiarylaw05_told_do_8 (by kernel_rfl) [⟨0, ty_ostiarylaw05_Op, OpA.sl ⟨d, p, q, K, key, cK, X, text, cX, r, raw⟩⟩] [] (Sub.of (List.Sublist.refl _) (List.nil_sublist _)) ?_
    refine call_con [] (fun β w' hs => pick_c w' tb b rb T c ts p (hs.get 6 rfl) (fun k hk => hs.flt _ (List.mem_of_getElem? (i := 6) rfl) k hk) hT32) ?_
    rintro v Fs ⟨A11, x, c11, hx, rfl, q9, rfl⟩
    have hxl := hpk hx
    refine ⟨Sub.of (List.Sublist.refl _) (List.nil_sublist _), ?_⟩
    refine call_con [] (fun β w' hs => pick_c w' tb b rb T c ts q (hs.get 7 rfl) (fun k hk => hs.flt _ (List.mem_of_getElem? (i := 7) rfl) k hk) hT32) ?_
    rintro v Fs ⟨A12, x2, c12, hx2, rfl, q10, rfl⟩
    have hx2l := hpk hx2
    clear hx2
    refine ⟨Sub.of (List.Sublist.refl _) (List.nil_sublist _), ?_⟩
    cases raw
    case' true =>
      refine call_con [] (fun β w' hs => cutC w' X text cX 32 (hs.get 9 rfl) hcX (by rw [lim_eq]; decide)) ?_
      rintro v Fs ⟨A13, c13, rfl, q11, _, rfl⟩
      have hx32 : (text.take 32).length ≤ 32 := by rw [List.length_take]; omega
      generalize text.take 32 = t32 at *
      refine ⟨0, t32.length, 32, (t32 ++ Bx.noughts).length, t32.map byte, Bx.noughts.map byte, (t32 ++ Bx.noughts).map byte, rfl, ⟨rfl, noughts_row.symm, fun u hu => by obtain rfl := List.mem_singleton.1 hu; rfl⟩, by rw [List.length_append]; rfl, by rw [List.map_append], by rw [List.length_append]; show t32.length + 32 ≤ _; omega, by show (t32 ++ Bx.noughts).length * 1 ≤ _; rw [List.length_append]; show (t32.length + 32) * 1 ≤ _; omega, ?_⟩
      intro A14 c14 q12 q13 q14
      refine call_conS [] (fun β w' hs => cutC w' A14 (t32 ++ Bx.noughts) c14 32 (row_rd (hs.get 0 rfl)) q12 (by rw [lim_eq]; decide)) ?_
      rintro v Fs ⟨A12, c12, rfl, q10, _, rfl⟩
      refine ⟨_, _, fun β w' hs => hs.perm [0, 3, 4, 5, 6, 7, 8, 9, 10, 11, 12, 13, 14], ?_⟩
      have hx2l : ((t32 ++ Bx.noughts).take 32).length ≤ 32 := by rw [List.length_take]; omega
      generalize (t32 ++ Bx.noughts).take 32 = x2 at *
    all_goals
      refine ⟨ptrB b, fun β w' hs => bk_cell (td_bk (hs.get 8 rfl)) (o := 0) rfl, ?_⟩
      refine call_con [6] (R := turnOut b B y x x2) (fun β w' hs => by
        have h2 := (hs.ro 0 rfl).ro 1 rfl
        exact turnB_c w' b B y A11 A12 x x2 c11 c12 hlo.y hok.inv.len hok.inv.sz (fun tag l m h => (hokS tag l m h).1) (h2.mem.take (js := [6, 1, 0]) rfl) q9 q10 (by omega) (by omega)) ?_
      rcases turn_cases hok.inv (B := B) (by omega) x x2 with e | ⟨h, B', e, hgood⟩
      · rw [turnOut_none e]
        rintro v Fs ⟨rfl, rfl⟩
        refine ⟨ptrB rb, fun β w' hs => bk_cell (td_bk (hs.get 8 rfl)) (o := 1) rfl, ?_⟩
        refine call_con [7] (R := rturnOut rb B z x x2) (fun β w' hs => by
          have h2 := (hs.ro 1 rfl).ro 2 rfl
          exact rturn_c w' rb B z A11 A12 x x2 c11 c12 hlo.z hok.inv.len hok.inv.sz hokS (h2.mem.take (js := [7, 2, 1]) rfl) q9 q10 (by omega) (by omega)) ?_
        rw [rturnOut_none e]
        rintro v Fs ⟨rfl, rfl⟩
        exact EntX.of ⟨[], 0, none, 0, none, 0, 4, B, y, z⟩ ⟨Ext.refl hok.inv, hlo, rfl, .inl rfl⟩ (Ent.mk' ⟨rfl, rfl, rfl, rfl, rfl, rfl, rfl, rfl, rfl, trivial⟩ rfl (fun β w' hs => ((((hs.keepB (List.nil_sublist _)).nilRow ty_uint8 1).nilRow ty_uint8 1).perm [0, 1, 6, 7, 8, 9, 3, 2, 10]).lower))
      · rw [turnOut_some e]
        rintro v Fs ⟨A9, c9, y1, rfl, r1, r2, r3, rfl⟩
        refine ⟨ptrB rb, fun β w' hs => bk_cell (td_bk (hs.get 9 rfl)) (o := 1) rfl, ?_⟩
        refine call_con [8] (R := rturnOut rb B z x x2) (fun β w' hs => by
          have h2 := (hs.ro 2 rfl).ro 3 rfl
          exact rturn_c w' rb B z A11 A12 x x2 c11 c12 hlo.z hok.inv.len hok.inv.sz hokS (h2.mem.take (js := [8, 3, 2]) rfl) q9 q10 (by omega) (by omega)) ?_
        rw [rturnOut_some e]
        rintro v Fs ⟨A10, c10, z1, rfl, r4, r5, r6, rfl⟩
        exact EntX.of ⟨h, 32, A9, c9, A10, c10, 0, B', y1, z1⟩ ⟨hgood.1, ⟨r3, r6⟩, hgood.2.1.symm, .inr hgood.2⟩ (Ent.mk' ⟨rfl, rfl, rfl, rfl, rfl, rfl, rfl, rfl, rfl, trivial⟩ rfl (fun β w' hs => ((hs.keepB (List.nil_sublist _)).perm [2, 0, 6, 7, 8, 9, 3, 1, 10]).lower))
end Go.Proofs.YthkjfepbmnabkaaGreatDoor.Sx

/- BoxTurns. -/
namespace Go.Proofs.YthkjfepbmnabkaaGreatDoor.Sx
open Go
attribute [local irreducible] Calls

def OpA.ok (w : World) (o : OpA) : Prop := (Bs w o.K o.key ∧ o.key.length ≤ o.cK) ∧ (Bs w o.X o.text ∧ o.text.length ≤ o.cX)
/-- Where a script stands. -/
structure LS where
  k : Nat
  B : Bx.Box
  y : Lay
  z : Lay
  T : Option Addr
  c : Nat
  ts : List Part
def LS.F (tb b rb : Nat) (i : LS) : List Fact := tlF tb b rb i.B i.y i.z i.T i.c i.ts
structure LS.Ok (i : LS) (n m : Nat) : Prop where
  k : i.k ≤ n
  lo : Lo i.B i.y i.z
  ok : TOk i.B i.ts
  bl : i.B.L.length ≤ min i.k m
  tl : i.ts.length ≤ min i.k m
def LS.start (sym : Bool) (y0 : Lay) : LS := ⟨0, ⟨sym, false, []⟩, y0, ⟨none, 0, 0, []⟩, none, 0, []⟩
theorem LS.start_ok {sym : Bool} {y0 : Lay} (h : y0.ts = []) (n m : Nat) : (LS.start sym y0).Ok n m :=
  ⟨Nat.zero_le _, ⟨by show y0.ts.map _ = []; rw [h]; rfl, rfl⟩, ⟨⟨fun _ q => (by cases q), List.nodup_nil, fun _ q => (by cases q), fun _ => rfl, Nat.zero_le _⟩, Nat.zero_le _, fun _ q => (by cases q)⟩, Nat.zero_le _, Nat.zero_le _⟩
theorem start_sat {cx : Cx} {β : Va} {n : Nat} {H : List Bk} {w W : World} {tb b rb : Nat} {sym : Bool} {y0 : Lay} (hs : Sat cx β n H [bkF tb ty_ostiarylaw05_told [ptrB b, ptrB rb, .slice none 0 0], bkF rb ty_ostiaryref05_Box [.bool sym, .slice none 0 0, .bool false], bxF b ⟨sym, false, []⟩ y0, oldF W] w) :
    Sat cx β n H (LS.F tb b rb (LS.start sym y0) ++ [oldF W]) w := by
  have h1 := (((hs.nilRow ty_ostiaryref05_Term 6).noMem (partsF []) (fun _ h => (by cases h)) (fun k hk => by obtain ⟨p, hp, _⟩ := hk; cases hp)).nilRow ty_sl_uint8 1).noMem (tgF []) (fun _ h => (by cases h)) (fun k hk => by obtain ⟨p, hp, _⟩ := hk; cases hp)
  exact (((h1.sep [4, 1, 0] rfl ⟨rfl, rfl, rfl, trivial⟩).sep [3, 2, 1] rfl ⟨rfl, rfl, rfl, trivial⟩).perm [2, 0, 1, 3])
theorem opRd {w : World} {ad : Addr} {ops : List OpA} (h : Rd 7 (some ad) ops.length (ops.flatMap OpA.cells) w) {k : Nat} {o : OpA} (ho : ops[k]? = some o) : ∀ j u, o.cells[j]? = some u → w.cell? ((ad.add (k * 7)).add j) = some u := by
  obtain ⟨hil, hie⟩ := List.getElem?_eq_some_iff.1 ho
  have h2 := Rd.elem (f := OpA.cells) (fun _ => rfl) h rfl hil
  rw [hie] at h2
  exact h2
/-- The call of the script, from what was there at the beginning. -/
theorem doL_c {cx : Cx} {β : Va} {n : Nat} {H : List Bk} {W w : World} (tb b rb : Nat) (i : LS) (o : OpA) (N m : Nat) (hm : m ≤ 100) (hi : i.Ok N m) (ho : o.ok W) (h1 : (oddF 2).p W) (h0 : (firstF 0).p W) (h2 : (oddF 3).p W)
    (hs : Sat cx β n H (LS.F tb b rb i ++ [oldF W]) w) : Con Tryz.prog n_ostiarylaw05_told_do #[ptrB tb, .agg o.cells.toArray] w (LS.F tb b rb i) (doOut tb b rb i.B i.ts) := by
  have hb := hi.bl
  have ht := hi.tl
  have hold : ∀ {j : Nat} {F : List Fact}, nth F j = some (oldF W) → ∀ {w'}, Sat cx β n H F w' → (oldF W).p w' := fun hj w' h => h.get _ hj
  have k1 := hs.sub 3 rfl rfl (bsF o.K o.key) rfl (Rd.old ho.1.1 (hs.get 3 rfl)) (rd_lt ho.1.1)
  have k2 := k1.sub 4 rfl rfl (bsF o.X o.text) rfl (Rd.old ho.2.1 (hs.get 3 rfl)) (rd_lt ho.2.1)
  have k3 := k2.sub 5 rfl rfl (oddF 2) rfl (Rd.old h1 (hs.get 3 rfl)) (rd_lt h1)
  have k4 := k3.sub 6 rfl rfl (firstF 0) rfl (Rd.old h0 (hs.get 3 rfl)) (rd_lt h0)
  have k5 := k4.sub 7 rfl rfl (oddF 3) rfl (Rd.old h2 (hs.get 3 rfl)) (rd_lt h2)
  exact do_c w tb b rb i.B i.y i.z i.T i.c i.ts o hi.lo hi.ok (by omega) (by omega) ho.1.2 ho.2.2 (k5.mem.take (js := [5, 6, 7, 4, 3, 2, 1, 0]) rfl)
theorem LS.Ok.next {i : LS} {n m : Nat} (h : i.Ok n m) (hk : i.k < n) (hm : i.k < m) {B' : Bx.Box} {y z : Lay} {T : Option Addr} {c : Nat} {ts' : List Part} (he : Ext i.B B') (hl : Lo B' y z) (ho : TOk B' ts') (ht : ts'.length ≤ i.ts.length + 1) : (LS.mk (i.k + 1) B' y z T c ts').Ok n m := by
  have h1 := h.bl
  have h2 := h.tl
  have h3 := he.len
  exact ⟨hk, hl, ho, by show B'.L.length ≤ min (i.k + 1) m; omega, by show ts'.length ≤ min (i.k + 1) m; omega⟩
set_option maxHeartbeats 1000000 in
theorem boxTurns_c (w : World) (sym : Bool) (A : Option Addr) (c : Nat) (ops : List OpA) (i0 j0 : Int) (hA : Rd 7 A ops.length (ops.flatMap OpA.cells) w) (hin : ∀ o ∈ ops, o.ok w) (hn : ops.length ≤ 9223372036854775807)
    (h1 : (oddF 2).p w) (h0 : (firstF 0).p w) (h2 : (oddF 3).p w) :
    Con Tryz.prog n_ostiarylaw05_BoxTurns #[.bool sym, .slice A ops.length c, .int .i64 i0, .int .i64 j0] w [] fun v Fs => v = .bool true ∧ Fs = [] := by
  have g := good_ostiarylaw05_BoxTurns w (Un [])
  refine con_of_sx (cx := cx_ostiarylaw05_BoxTurns w (Un [])) g b_ostiarylaw05_BoxTurns rfl rfl (β := Va.z) [.c (.v (.bool sym)), .c (.v (.slice A ops.length c)), .c (.v (.int .i64 i0)), .c (.v (.int .i64 j0))] 0 [] [oldF w] rfl rfl (old_sat rfl) ?_
  refine call_con [] (fun β w' hs => awake05_c w') ?_
  rintro v Fs ⟨rfl, rfl⟩
  refine call_con [] (fun β w' hs => newX_c w' sym) ?_
  rintro v Fs ⟨b, y0, rfl, hy0, rfl⟩
  refine reify_rule g 0 (fun _ => [.bool sym, .slice none 0 0, .bool false]) rfl rfl (fun _ => rfl) (fun rb => ?_)
  refine reify_rule g 1 (fun _ => [ptrB b, ptrB rb, .slice none 0 0]) rfl rfl (fun _ => rfl) (fun tb => ?_)
  refine loop_rule (ι := LS) 0 (fun i => [(2, .c (.v (.int .i64 i0))), (3, .c (.v (.int .i64 j0))), (9, .c (.v (ptrB tb))), (31, .c (.v (.slice A ops.length c))), (32, .c (.v (.int .i64 ops.length))), (33, .c (.v (.int .i64 i.k)))]) (fun _ => []) (fun i => LS.F tb b rb i ++ [oldF w])
    (fun i => i.Ok ops.length 15) (fun i => ops.length - i.k) (LS.start sym y0) (LS.start_ok hy0 _ _) (Ent.mk' ⟨rfl, rfl, rfl, rfl, rfl, rfl, trivial⟩ rfl (fun β w' hs => (start_sat hs).lower)) g ?_
  intro i hi
  have hik := hi.k
  refine BIf.dec (fun hlt => ?_) (fun hge => ?_)
  · have hlt0 : (i.k : Int) < ops.length := hlt
    have hkl : i.k < ops.length := by omega
    obtain ⟨o, ho, hom⟩ := at_lt hkl
    obtain ⟨ad, hA1, _⟩ := hA.2 (by omega)
    refine ⟨ad, i.k, hA1, rfl, hkl, o.cells, rfl, fun β w' hs => opRd (by have h := Rd.old hA (hs.get 3 rfl); rw [hA1] at h; exact h) ho, ?_⟩
    refine BIf.dec (fun hlt2 => ?_) (fun hge2 => ?_)
    · have hlt20 : (i.k : Int) < 15 := hlt2
      have hbl := hi.bl
      refine call_con [0, 1, 2] (R := doOut tb b rb i.B i.ts) (fun β w' hs => doL_c tb b rb i o ops.length 15 (by decide) hi (hin o hom) h1 h0 h2 hs) ?_ ⟨rfl, rfl, rfl, trivial⟩
      rintro v Fs ⟨B2, y2, z2, T2, c2, ts2, rfl, hext, hlo2, hok2, hlen2, rfl⟩
      refine ⟨((i.k + 1 : Nat) : Int), by rw [wrap_i64 (by omega) (by omega)]; rfl, ?_⟩
      exact ⟨⟨i.k + 1, B2, y2, z2, T2, c2, ts2⟩, hi.next hkl (by omega) hext hlo2 hok2 hlen2, by show ops.length - (i.k + 1) < ops.length - i.k; omega, Ent.mk' ⟨rfl, rfl, rfl, rfl, rfl, rfl, trivial⟩ rfl (fun β w' hs => (hs.keepB (List.nil_sublist _)).lower)⟩
    · refine ⟨((i.k + 1 : Nat) : Int), by rw [wrap_i64 (by omega) (by omega)]; rfl, ?_⟩
      have hb := hi.bl
      have ht := hi.tl
      exact ⟨⟨i.k + 1, i.B, i.y, i.z, i.T, i.c, i.ts⟩, ⟨hkl, hi.lo, hi.ok, by show i.B.L.length ≤ min (i.k + 1) 15; omega, by show i.ts.length ≤ min (i.k + 1) 15; omega⟩, by show ops.length - (i.k + 1) < ops.length - i.k; omega, Ent.mk' ⟨rfl, rfl, rfl, rfl, rfl, rfl, trivial⟩ rfl (fun β w' hs => (hs.keepB (List.nil_sublist _)).lower)⟩
  · have hbl := hi.bl
    have hok := hi.ok
    have hlo := hi.lo
    obtain ⟨k, B, y, z, T, cT, ts⟩ := i
    simp only at hbl hok hlo hik
    have hT32 : ∀ x ∈ ts, x.2.1.length ≤ 1000000 := fun x hx => by have := (hok.tg x hx).1; omega
    obtain ⟨i', ei⟩ : ∃ i', max i0 0 = i' := ⟨_, rfl⟩
    obtain ⟨j', ej⟩ : ∃ j', max j0 0 = j' := ⟨_, rfl⟩
    have hi0 : ¬ i' < 0 := by omega
    have hj0 : ¬ j' < 0 := by omega
    refine ⟨i', ei, ?_⟩
    refine call_con [] (fun β w' hs => pick_c w' tb b rb T cT ts i' (hs.get 2 rfl) (fun k hk => hs.flt _ (List.mem_of_getElem? (i := 2) rfl) k hk) hT32) ?_
    rintro v Fs ⟨A1, x, c1, hx, rfl, q1, rfl⟩
    refine ⟨j', ej, ?_⟩
    refine call_con [] (fun β w' hs => pick_c w' tb b rb T cT ts j' (hs.get 3 rfl) (fun k hk => hs.flt _ (List.mem_of_getElem? (i := 3) rfl) k hk) hT32) ?_
    rintro v Fs ⟨A2, x2, c2, hx2, rfl, q2, rfl⟩
    refine BIf.dec (fun hz => ?_) (fun hz => ?_)
    · intro β w' hs
      exact hs.fin [] ⟨rfl, rfl⟩
    have hz0 : ¬ (x.length : Int) = 0 := hz
    rcases hx with ⟨_, rfl⟩ | ⟨hne, u1, hu1, rfl⟩
    · exact absurd rfl hz0
    rcases hx2 with ⟨q, rfl⟩ | ⟨_, u2, hu2, rfl⟩
    · exact absurd (q.resolve_right hj0) (fun e => hne (.inl e))
    obtain ⟨hx32, rx, hrx⟩ := hok.tg u1 hu1
    obtain ⟨hy32, ry, hry⟩ := hok.tg u2 hu2
    generalize u1.2.1 = x at *
    generalize u2.2.1 = x2 at *
    obtain ⟨a, B1, t1, t2, t3, t4, hext, ha32, _⟩ := turns_plain hok.inv (by omega) hrx hry
    have hokS : ∀ {B : Bx.Box}, BInv B → ∀ tag l m, B.opens tag = some (l, m) → OkS l m := fun hi tag l m h => ((opens_nf hi h).2.1.ok hi).1
    refine ⟨ptrB b, fun β w' hs => bk_cell (td_bk (hs.get 4 rfl)) (o := 0) rfl, ?_⟩
    refine call_con [2] (R := turnOut b B y x x2) (fun β w' hs => by
      have k1 := (hs.ro 0 rfl).ro 1 rfl
      exact turnB_c w' b B y A1 A2 x x2 c1 c2 hlo.y hok.inv.len hok.inv.sz (hokS hok.inv) (k1.mem.take (js := [2, 1, 0]) rfl) q1 q2 (by omega) (by omega)) ?_
    rw [turnOut_some t1]
    rintro v Fs ⟨A3, c3, y1, rfl, r1, _, hy1, rfl⟩
    refine ⟨ptrB b, fun β w' hs => bk_cell (td_bk (hs.get 5 rfl)) (o := 0) rfl, ?_⟩
    refine call_con [1] (R := turnOut b B1 y1 x2 x) (fun β w' hs => by
      have k1 := (hs.ro 2 rfl).ro 3 rfl
      exact turnB_c w' b B1 y1 A2 A1 x2 x c2 c1 hy1 hext.inv.len hext.inv.sz (hokS hext.inv) (k1.mem.take (js := [1, 2, 3]) rfl) q2 q1 (by omega) (by omega)) ?_
    rw [turnOut_some t2]
    rintro v Fs ⟨A4, c4, y2, rfl, r2, _, hy2, rfl⟩
    refine ⟨ptrB b, fun β w' hs => bk_cell (td_bk (hs.get 6 rfl)) (o := 0) rfl, ?_⟩
    refine call_con [1] (R := turnOut b B1 y2 a x2) (fun β w' hs => by
      have k1 := (hs.ro 2 rfl).ro 3 rfl
      have k2 := turnB_c w' b B1 y2 A3 A2 a x2 c3 c2 hy2 hext.inv.len hext.inv.sz (hokS hext.inv) (k1.mem.take (js := [1, 2, 3]) rfl) (by omega) q2 (by omega) (by omega)
      rw [ha32] at k2
      exact k2) ?_
    rw [turnOut_some t3]
    rintro v Fs ⟨A5, c5, y3, rfl, r3, _, hy3, rfl⟩
    refine ⟨ptrB b, fun β w' hs => bk_cell (td_bk (hs.get 7 rfl)) (o := 0) rfl, ?_⟩
    refine call_con [1] (R := turnOut b B1 y3 x x) (fun β w' hs => by
      have k1 := (hs.ro 5 rfl).dupRo 5 rfl
      exact turnB_c w' b B1 y3 A1 A1 x x c1 c1 hy3 hext.inv.len hext.inv.sz (hokS hext.inv) (k1.mem.take (js := [2, 6, 0]) rfl) q1 q1 (by omega) (by omega)) ?_
    rw [turnOut_some t4]
    rintro v Fs ⟨A6, c6, y4, rfl, r4, _, hy4, rfl⟩
    refine call_pu (v := .bool true) (fun β w' hs => by
      have k1 := pu_of (same_c w' A3 A4 a a c3 c4 (row_rd (hs.get 4 rfl)) (row_rd (hs.get 3 rfl)))
      rw [ha32, decide_eq_true rfl] at k1
      exact k1) ?_
    refine call_pu (v := .bool true) (fun β w' hs => by
      have k1 := pu_of (same_c w' A5 A1 x x c5 c1 (row_rd (hs.get 2 rfl)) (row_rd (hs.get 6 rfl)))
      rw [decide_eq_true rfl] at k1
      have key : ∀ n, n = x.length → Pu Tryz.prog n_ostiaryref01_Same #[.slice A5 n c5, .slice A1 x.length c1] w' (.bool true) := by
        rintro n rfl
        exact k1
      exact key 32 hx32.symm) ?_
    refine ⟨32, 32, rfl, rfl, Nat.le_refl _, by decide, by decide, ?_⟩
    intro b1
    refine call_pu (v := .bool true) (fun β w' hs => by
      have k1 := pu_of (same_c w' A6 (some ⟨b1, 0, none⟩) Bx.noughts Bx.noughts c6 32 (row_rd (hs.get 1 rfl)) (row_rd (hs.get 0 rfl)))
      rw [decide_eq_true rfl] at k1
      exact k1) ?_
    intro β w' hs
    exact (hs.keepB (List.nil_sublist _)).fin [] ⟨rfl, rfl⟩
end Go.Proofs.YthkjfepbmnabkaaGreatDoor.Sx

/- A script, read. -/
namespace Go.Proofs.YthkjfepbmnabkaaGreatDoor.Sx
open Go
attribute [local irreducible] Calls

theorem len_cons {l : List Value} {n : Nat} (h : l.length = n + 1) : ∃ a r, l = a :: r ∧ r.length = n := by
  cases l with
  | nil => cases h
  | cons a r => exact ⟨a, r, rfl, by simpa using h⟩
theorem script_of {w : World} {m : Nat} {A : Option Addr} {n c : Nat} (ho : Opens Tryz.prog w m ty_sl_ostiarylaw05_Op [.slice A n c]) : ∃ ops : List OpA, ops.length = n ∧ Rd 7 A ops.length (ops.flatMap OpA.cells) w ∧ (∀ o ∈ ops, o.ok w) ∧ n ≤ maxLen := by
  obtain ⟨A', n', c', xs, m2, hcs, h1, h2, hxl, hnil, hlen, hr, hx⟩ := ho.slice ((ok56).real (d := .slice ty_ostiarylaw05_Op) rfl rfl)
  simp only [List.cons.injEq, and_true] at hcs
  injection hcs with e1 e2 e3
  subst e1 e2 e3
  have cO : Tryz.prog.cellsOf ty_ostiarylaw05_Op = 7 := by kernel_rfl
  have cU : Tryz.prog.cellsOf ty_uint8 = 1 := by kernel_rfl
  have cI : Tryz.prog.cellsOf ty_int = 1 := by kernel_rfl
  have cB : Tryz.prog.cellsOf ty_bool = 1 := by kernel_rfl
  have cS : Tryz.prog.cellsOf ty_sl_uint8 = 1 := by kernel_rfl
  obtain ⟨ops, hol, hfl, hok⟩ := list_choose (f := OpA.cells) (p := OpA.ok w) (xs := xs) (fun x hxm => by
    obtain ⟨m3, hl, hf⟩ := (hx x hxm).structT (ok62) rfl
    have f0 := hf 0 0 1 ty_uint8 rfl rfl
    have f1 := hf 1 1 1 ty_int rfl rfl
    have f2 := hf 2 2 1 ty_int rfl rfl
    have f3 := hf 3 3 1 ty_sl_uint8 rfl rfl
    have f4 := hf 4 4 1 ty_sl_uint8 rfl rfl
    have f5 := hf 5 5 1 ty_int rfl rfl
    have f6 := hf 6 6 1 ty_bool rfl rfl
    rw [cO] at hl
    rw [cU] at f0
    rw [cI] at f1 f2 f5
    rw [cS] at f3 f4
    rw [cB] at f6
    obtain ⟨x0, r0, rfl, k0⟩ := len_cons hl
    obtain ⟨x1, r1, rfl, k1⟩ := len_cons k0
    obtain ⟨x2, r2, rfl, k2⟩ := len_cons k1
    obtain ⟨x3, r3, rfl, k3⟩ := len_cons k2
    obtain ⟨x4, r4, rfl, k4⟩ := len_cons k3
    obtain ⟨x5, r5, rfl, k5⟩ := len_cons k4
    obtain ⟨x6, r6, rfl, k6⟩ := len_cons k5
    obtain rfl := List.eq_nil_of_length_eq_zero k6
    obtain ⟨d, hd⟩ := f0.u8 ((ok5).real (d := .int .u8) rfl rfl)
    obtain ⟨p, hp, _, _⟩ := f1.int ((ok3).real (d := .int .i64) rfl rfl)
    obtain ⟨q, hq, _, _⟩ := f2.int ((ok3).real (d := .int .i64) rfl rfl)
    obtain ⟨K, key, cK, hK, j1, _, j2⟩ := f3.bytes ((ok23).real (d := .slice ty_uint8) rfl rfl) ((ok5).real (d := .int .u8) rfl rfl) cU
    obtain ⟨X, text, cX, hX, j3, _, j4⟩ := f4.bytes ((ok23).real (d := .slice ty_uint8) rfl rfl) ((ok5).real (d := .int .u8) rfl rfl) cU
    obtain ⟨r, hr, _, _⟩ := f5.int ((ok3).real (d := .int .i64) rfl rfl)
    obtain ⟨raw, hw⟩ := f6.bool ((ok4).real (d := .bool) rfl rfl)
    simp at hd hp hq hK hX hr hw
    subst hd hp hq hK hX hr hw
    exact ⟨⟨d, p, q, K, key, cK, X, text, cX, r, raw⟩, rfl, ⟨j2, j1⟩, ⟨j4, j3⟩⟩)
  rw [cO, hfl] at hr
  rw [← hxl, ← hol] at hr
  exact ⟨ops, hol.trans hxl, hr, hok, Nat.le_trans h1 h2⟩
end Go.Proofs.YthkjfepbmnabkaaGreatDoor.Sx

/- The law's two boxes, compared: the program's small words on a box. -/
namespace Go.Proofs.YthkjfepbmnabkaaGreatDoor.Sx
open Go
attribute [local irreducible] Calls

theorem lenX_c (w : World) (b : Nat) (B : Bx.Box) (y : Lay) (hb : (bxF b B y).p w) (hbD : ∀ k, (bxF b B y).D k → k < w.heap.size) : Pu Tryz.prog n_box_Box_Len #[ptrB b] w (.int .i64 (B.L.length : Int)) := by
  have g := good_box_Box_Len w (Un [])
  refine con_of_sx (cx := cx_box_Box_Len w (Un [])) g b_box_Box_Len rfl rfl (β := Va.z) [.c (.v (ptrB b))] 0 [] [oldF w] rfl rfl (old_sat rfl) ?_
  refine ⟨.slice y.A B.L.length y.c, fun β w' hs => box_cell (bx_bk (fact_old hb hbD (hs.get 0 rfl))) (o := 2) rfl, ?_⟩
  intro β w' hs
  exact hs.fin [] ⟨rfl, rfl⟩
theorem fullX_c (w : World) (b : Nat) (B : Bx.Box) (y : Lay) (hb : (bxF b B y).p w) (hbD : ∀ k, (bxF b B y).D k → k < w.heap.size) : Pu Tryz.prog n_box_Box_Full #[ptrB b] w (.bool B.full) := by
  have g := good_box_Box_Full w (Un [])
  refine con_of_sx (cx := cx_box_Box_Full w (Un [])) g b_box_Box_Full rfl rfl (β := Va.z) [.c (.v (ptrB b))] 0 [] [oldF w] rfl rfl (old_sat rfl) ?_
  refine ⟨.bool B.full, fun β w' hs => box_cell (bx_bk (fact_old hb hbD (hs.get 0 rfl))) (o := 1) rfl, ?_⟩
  intro β w' hs
  exact hs.fin [] ⟨rfl, rfl⟩
theorem symX_c (w : World) (b : Nat) (B : Bx.Box) (y : Lay) (hb : (bxF b B y).p w) (hbD : ∀ k, (bxF b B y).D k → k < w.heap.size) : Pu Tryz.prog n_box_Box_Symbolic #[ptrB b] w (.bool B.sym) := by
  have g := good_box_Box_Symbolic w (Un [])
  refine con_of_sx (cx := cx_box_Box_Symbolic w (Un [])) g b_box_Box_Symbolic rfl rfl (β := Va.z) [.c (.v (ptrB b))] 0 [] [oldF w] rfl rfl (old_sat rfl) ?_
  refine ⟨.bool B.sym, fun β w' hs => box_cell (bx_bk (fact_old hb hbD (hs.get 0 rfl))) (o := 0) rfl, ?_⟩
  intro β w' hs
  exact hs.fin [] ⟨rfl, rfl⟩
def noTerm : Value := .agg #[.int .i64 0, .slice none 0 0, .slice none 0 0, .int .i64 0, .slice none 0 0, .slice none 0 0]
/-- A term by its number. -/
def termOut (B : Bx.Box) (n : Int) (v : Value) (Fs : List Fact) : Prop :=
  (∃ t a, 1 ≤ n ∧ B.L[n.toNat - 1]? = some t ∧ v = .tuple #[.agg (termV t a).toArray, .bool true] ∧ Fs = copyFs t a) ∨ ((n < 1 ∨ (B.L.length : Int) < n) ∧ v = .tuple #[noTerm, .bool false] ∧ Fs = [])
theorem termX_c (w : World) (b : Nat) (B : Bx.Box) (y : Lay) (n : Int) (hts : y.ts.map (·.1) = B.L) (hL : B.L.length ≤ 4096) (hsz : ∀ t ∈ B.L, TSz t) (hb : (bxF b B y).p w) (hbD : ∀ k, (bxF b B y).D k → k < w.heap.size) : Con Tryz.prog n_box_Box_Term #[ptrB b, .int .i64 n] w [] (termOut B n) := by
  have g := good_box_Box_Term w (Un [])
  have hbx : ∀ w', (oldF w).p w' → (bxF b B y).p w' := fun w' ho => fact_old hb hbD ho
  have hlen : y.ts.length = B.L.length := by rw [← hts, List.length_map]
  refine con_of_sx (cx := cx_box_Box_Term w (Un [])) g b_box_Box_Term rfl rfl (β := Va.z) [.c (.v (ptrB b)), .c (.v (.int .i64 n))] 0 [] [oldF w] rfl rfl (old_sat rfl) ?_
  refine BIf.dec (fun hn1 => ?_) (fun hn1 => ?_)
  · have hn10 : n < 1 := hn1
    intro β w' hs
    exact (hs.keepB (List.nil_sublist _)).fin [] (.inr ⟨.inl hn10, rfl, rfl⟩)
  have hn10 : ¬ n < 1 := hn1
  refine call_pu (fun β w' hs => lenX_c w' b B y (hbx w' (hs.get 0 rfl)) (fun k hk => Nat.lt_of_lt_of_le (hbD k hk) hs.chg.size)) ?_
  refine BIf.dec (fun hgt => ?_) (fun hgt => ?_)
  · have hgt0 : (B.L.length : Int) < n := hgt
    intro β w' hs
    exact (hs.keepB (List.nil_sublist _)).fin [] (.inr ⟨.inr hgt0, rfl, rfl⟩)
  have hgt0 : ¬ (B.L.length : Int) < n := hgt
  obtain ⟨m, rfl⟩ : ∃ m : Nat, n = ((m + 1 : Nat) : Int) := ⟨n.toNat - 1, by omega⟩
  obtain ⟨q, hq, hqm⟩ := at_lt (l := y.ts) (k := m) (by omega)
  have hqL : B.L[m]? = some q.1 := by rw [← hts, List.getElem?_map, hq]; rfl
  have hqs := hsz _ (List.mem_of_getElem? hqL)
  obtain ⟨ad, hA, _⟩ := (bx_rd hb).2 (by omega)
  refine ⟨.slice y.A B.L.length y.c, fun β w' hs => box_cell (bx_bk (hbx w' (hs.get 0 rfl))) (o := 2) rfl, ?_⟩
  refine ⟨(m : Int), by rw [wrap_i64 (by omega) (by omega)]; omega, ?_⟩
  refine ⟨ad, m, hA, rfl, by omega, termV q.1 q.2, rfl, fun β w' hs => ?_, ?_⟩
  · have h := bx_rd (hbx w' (hs.get 0 rfl))
    rw [← hlen] at h
    obtain ⟨hil, hie⟩ := List.getElem?_eq_some_iff.1 hq
    have h2 := Rd.elem (f := fun p : Bx.Term × TA => termV p.1 p.2) (fun _ => rfl) h hA hil
    rw [hie] at h2
    exact h2
  refine call_con [] (fun β w' hs => copyOf_c w' q.1 q.2 (bx_parts (hbx w' (hs.get 0 rfl)) q hqm) hqs) ?_
  rintro v Fs ⟨a', rfl, rfl⟩
  intro β w' hs
  exact (hs.keepB (List.nil_sublist _)).fin [0, 1, 2, 3] (.inl ⟨q.1, a', by omega, by rw [show ((m + 1 : Nat) : Int).toNat - 1 = m by omega]; exact hqL, rfl, rfl⟩) rfl rfl rfl ⟨rfl, rfl, rfl, rfl, trivial⟩
end Go.Proofs.YthkjfepbmnabkaaGreatDoor.Sx

/- The law's two boxes, compared. -/
namespace Go.Proofs.YthkjfepbmnabkaaGreatDoor.Sx
open Go
attribute [local irreducible] Calls

theorem back_c (w : World) (t : Bx.Term) (a : TA) : Pu Tryz.prog n_ostiarylaw05_back #[.agg (termV t a).toArray] w (.agg (termV t a).toArray) := by
  have g := good_ostiarylaw05_back w (Un [])
  refine con_of_sx (cx := cx_ostiarylaw05_back w (Un [])) g b_ostiarylaw05_back rfl rfl (β := Va.z) [.agg (termS t a)] 0 [] [oldF w] rfl rfl (old_sat rfl) ?_
  intro β w' hs
  exact (hs.keepB (List.nil_sublist _)).fin [] ⟨rfl, rfl⟩
open Classical in
set_option maxHeartbeats 1000000 in
theorem tsame_c (w : World) (tb b rb : Nat) (B : Bx.Box) (y z : Lay) (T : Option Addr) (c : Nat) (ts : List Part) (hlo : Lo B y z) (hi : BInv B) (hl : B.L.length < 4096) (hb : (bxF b B y).p w) (hbD : ∀ k, (bxF b B y).D k → k < w.heap.size) (hr : (rbxF rb B z).p w) (hrD : ∀ k, (rbxF rb B z).D k → k < w.heap.size) (ht : (tdF tb b rb T c ts).p w) (htD : ∀ k, (tdF tb b rb T c ts).D k → k < w.heap.size) :
    Pu Tryz.prog n_ostiarylaw05_told_same #[ptrB tb] w (.bool true) := by
  have g := good_ostiarylaw05_told_same w (Un [])
  have hlen : z.ts.length = B.L.length := by rw [← hlo.z, List.length_map]
  have ho1 : ∀ w', (oldF w).p w' → (bxF b B y).p w' := fun w' ho => fact_old hb hbD ho
  have ho2 : ∀ w', (oldF w).p w' → (rbxF rb B z).p w' := fun w' ho => fact_old hr hrD ho
  have ho3 : ∀ w', (oldF w).p w' → (tdF tb b rb T c ts).p w' := fun w' ho => fact_old ht htD ho
  refine con_of_sx (cx := cx_ostiarylaw05_told_same w (Un [])) g b_ostiarylaw05_told_same rfl rfl (β := Va.z) [.c (.v (ptrB tb))] 0 [] [oldF w] rfl rfl (old_sat rfl) ?_
  have ldB : ∀ {β : Va} {n : Nat} {H : List Bk} {F : List Fact} {w' : World} (j : Nat), Sat (cx_ostiarylaw05_told_same w (Un [])) β n H F w' → nth F j = some (oldF w) → w'.cell? ⟨tb, 0, none⟩ = some (ptrB b) := fun j hs hj => bk_cell (td_bk (ho3 _ (hs.get j hj))) (o := 0) rfl
  have ldX : ∀ {β : Va} {n : Nat} {H : List Bk} {F : List Fact} {w' : World} (j : Nat), Sat (cx_ostiarylaw05_told_same w (Un [])) β n H F w' → nth F j = some (oldF w) → w'.cell? ⟨tb, 1, none⟩ = some (ptrB rb) := fun j hs hj => bk_cell (td_bk (ho3 _ (hs.get j hj))) (o := 1) rfl
  have ldL : ∀ {β : Va} {n : Nat} {H : List Bk} {F : List Fact} {w' : World} (j : Nat), Sat (cx_ostiarylaw05_told_same w (Un [])) β n H F w' → nth F j = some (oldF w) → w'.cell? ⟨rb, 1, none⟩ = some (.slice z.A B.L.length z.c) := fun j hs hj => bk_cell (rbx_bk (ho2 _ (hs.get j hj))) (o := 1) rfl
  have dOf : ∀ {w'}, Chg (Un []) w w' → ∀ k, (bxF b B y).D k → k < w'.heap.size := fun hc k hk => Nat.lt_of_lt_of_le (hbD k hk) hc.size
  obtain ⟨fl, hfl⟩ : ∃ x, B.full = x := ⟨_, rfl⟩
  obtain ⟨sy, hsy⟩ : ∃ x, B.sym = x := ⟨_, rfl⟩
  obtain ⟨N, hN⟩ : ∃ N : Int, (B.L.length : Int) = N := ⟨_, rfl⟩
  refine draw_rule g p_ostiarylaw05_told_same_1 (by kernel_rfl) [] [oldF w] Sub.refl ?_
  refine ⟨ptrB b, fun β w' hs => ldB 0 hs rfl, ?_⟩
  refine ⟨ptrB rb, fun β w' hs => ldX 0 hs rfl, ?_⟩
  refine ⟨.slice z.A B.L.length z.c, fun β w' hs => ldL 0 hs rfl, ?_⟩
  refine call_pu (fun β w' hs => lenX_c w' b B y (ho1 w' (hs.get 0 rfl)) (dOf hs.chg)) ?_
  refine ⟨Sub.refl, ?_⟩
  rw [hN]
  conv => whnf
  generalize h1 : decide (N = N) = b1
  cases b1 with
  | false => exact absurd rfl (of_decide_eq_false h1)
  | true =>
  refine ⟨ptrB b, fun β w' hs => ldB 0 hs rfl, ?_⟩
  refine ⟨ptrB rb, fun β w' hs => ldX 0 hs rfl, ?_⟩
  refine ⟨.bool fl, fun β w' hs => bk_cell (rbx_bk (ho2 _ (hs.get 0 rfl))) (o := 2) (by simp [rCells, hfl]), ?_⟩
  refine call_pu (v := .bool fl) (fun β w' hs => by
    have k1 := fullX_c w' b B y (ho1 w' (hs.get 0 rfl)) (dOf hs.chg)
    rw [hfl] at k1
    exact k1) ?_
  refine ⟨Sub.refl, ?_⟩
  cases fl
  all_goals
    refine ⟨ptrB b, fun β w' hs => ldB 0 hs rfl, ?_⟩
    refine ⟨ptrB rb, fun β w' hs => ldX 0 hs rfl, ?_⟩
    refine ⟨.bool sy, fun β w' hs => bk_cell (rbx_bk (ho2 _ (hs.get 0 rfl))) (o := 0) (by simp [rCells, hsy]), ?_⟩
    refine call_pu (v := .bool sy) (fun β w' hs => by
      have k1 := symX_c w' b B y (ho1 w' (hs.get 0 rfl)) (dOf hs.chg)
      rw [hsy] at k1
      exact k1) ?_
    refine ⟨Sub.refl, ?_⟩
    cases sy
    all_goals
      refine ⟨ptrB rb, fun β w' hs => ldX 0 hs rfl, ?_⟩
      refine ⟨.slice z.A B.L.length z.c, fun β w' hs => ldL 0 hs rfl, ?_⟩
      refine loop_rule (ι := Nat) 0 (fun k => [(0, .c (.v (ptrB tb))), (61, .c (.v (.slice z.A B.L.length z.c))), (62, .c (.v (.int .i64 B.L.length))), (63, .c (.v (.int .i64 (k : Int))))]) (fun _ => []) (fun _ => [oldF w]) (fun k => k ≤ B.L.length) (fun k => B.L.length - k) 0 (Nat.zero_le _) (Ent.same ⟨rfl, rfl, rfl, rfl, trivial⟩ rfl) g ?_
      intro k hk
      refine BIf.dec (fun hlt => ?_) (fun hge => ?_)
      · have hlt0 : (k : Int) < B.L.length := hlt
        have hkl : k < B.L.length := by omega
        obtain ⟨q, hq, hqm⟩ := at_lt (l := z.ts) (k := k) (by omega)
        have hqL : B.L[k]? = some q.1 := by rw [← hlo.z, List.getElem?_map, hq]; rfl
        have hqs := hi.sz _ (List.mem_of_getElem? hqL)
        obtain ⟨ad, hA, _⟩ := (rbx_rd hr).2 (by omega)
        refine ⟨ad, k, hA, rfl, hkl, termV q.1 q.2, rfl, fun β w' hs => ?_, ?_⟩
        · have h := rbx_rd (ho2 w' (hs.get 0 rfl))
          rw [← hlen] at h
          obtain ⟨hil, hie⟩ := List.getElem?_eq_some_iff.1 hq
          have h2 := Rd.elem (f := fun p : Bx.Term × TA => termV p.1 p.2) (fun _ => rfl) h hA hil
          rw [hie] at h2
          exact h2
        refine ⟨ptrB b, fun β w' hs => ldB 0 hs rfl, ?_⟩
        refine ⟨((k + 1 : Nat) : Int), by rw [wrap_i64 (by omega) (by omega)]; rfl, ?_⟩
        refine call_con [] (R := termOut B ((k + 1 : Nat) : Int)) (fun β w' hs => termX_c w' b B y ((k + 1 : Nat) : Int) hlo.y hi.len hi.sz (ho1 w' (hs.get 0 rfl)) (dOf hs.chg)) ?_
        rintro v Fs (⟨t, a, _, ht1, rfl, rfl⟩ | ⟨q1, _, _⟩)
        · have ht2 : t = q.1 := by
            rw [show ((k + 1 : Nat) : Int).toNat - 1 = k by omega, hqL] at ht1
            exact (Option.some.inj ht1).symm
          subst ht2
          refine draw_rule g p_ostiarylaw05_told_same_7 (by kernel_rfl) [⟨1, ty_box_Term, termS q.1 a⟩, ⟨0, ty_ostiaryref05_Term, termS q.1 q.2⟩] [] (Sub.of (List.Sublist.refl _) (List.nil_sublist _)) ?_
          refine call_pu (fun β w' hs => back_c w' q.1 a) ?_
          refine ⟨Sub.of (List.Sublist.refl _) (List.nil_sublist _), ?_⟩
          refine call_pu (v := .bool true) (fun β w' hs => by
            have k1 := rterm_c w' q.1 q.1 a q.2 ⟨row_rd (hs.get 3 rfl), row_rd (hs.get 2 rfl), row_rd (hs.get 1 rfl), row_rd (hs.get 0 rfl)⟩ (rbx_parts (ho2 w' (hs.get 4 rfl)) q hqm) hqs
            rw [decide_eq_true rfl] at k1
            exact k1) ?_
          refine ⟨Sub.of (List.Sublist.refl _) (List.nil_sublist _), ?_⟩
          refine ⟨((k + 1 : Nat) : Int), by rw [wrap_i64 (by omega) (by omega)]; rfl, ?_⟩
          exact ⟨k + 1, hkl, by show B.L.length - (k + 1) < B.L.length - k; omega, Ent.mk' ⟨rfl, rfl, rfl, rfl, trivial⟩ rfl (fun β w' hs => ((hs.keepB (List.nil_sublist _)).perm [4]).lower)⟩
        · omega
      · refine ⟨ptrB b, fun β w' hs => ldB 0 hs rfl, ?_⟩
        refine call_con [] (R := termOut B 0) (fun β w' hs => termX_c w' b B y 0 hlo.y hi.len hi.sz (ho1 w' (hs.get 0 rfl)) (dOf hs.chg)) ?_
        rintro v Fs (⟨t, a, q1, _, _, _⟩ | ⟨_, rfl, rfl⟩)
        · omega
        refine draw_rule g p_ostiarylaw05_told_same_11 (by kernel_rfl) [] [oldF w] (Sub.of (List.nil_sublist _) (List.Sublist.refl _)) ?_
        refine ⟨ptrB b, fun β w' hs => ldB 0 hs rfl, ?_⟩
        refine ⟨ptrB rb, fun β w' hs => ldX 0 hs rfl, ?_⟩
        refine ⟨.slice z.A B.L.length z.c, fun β w' hs => ldL 0 hs rfl, ?_⟩
        refine ⟨((B.L.length + 1 : Nat) : Int), by rw [wrap_i64 (by omega) (by omega)]; rfl, ?_⟩
        refine ⟨?_, ?_⟩
        · refine call_con [] (R := termOut B ((B.L.length + 1 : Nat) : Int)) (fun β w' hs => termX_c w' b B y ((B.L.length + 1 : Nat) : Int) hlo.y hi.len hi.sz (ho1 w' (hs.get 0 rfl)) (dOf hs.chg)) ?_
          rintro v Fs (⟨t, a, _, q2, _, _⟩ | ⟨_, rfl, rfl⟩)
          · exfalso
            have := (List.getElem?_eq_some_iff.1 q2).1
            omega
          refine ⟨Sub.of (List.nil_sublist _) (List.Sublist.refl _), ?_⟩
          refine ⟨Sub.of (List.nil_sublist _) (List.Sublist.refl _), ?_⟩
          refine ⟨Sub.of (List.nil_sublist _) (List.Sublist.refl _), ?_⟩
          intro β w' hs
          exact (hs.keepB (List.nil_sublist _)).fin [] ⟨rfl, rfl⟩
        · refine ⟨Sub.of (List.nil_sublist _) (List.Sublist.refl _), ?_⟩
          refine call_con [] (R := termOut B ((B.L.length + 1 : Nat) : Int)) (fun β w' hs => termX_c w' b B y ((B.L.length + 1 : Nat) : Int) hlo.y hi.len hi.sz (ho1 w' (hs.get 0 rfl)) (dOf hs.chg)) ?_
          rintro v Fs (⟨t, a, _, q2, _, _⟩ | ⟨_, rfl, rfl⟩)
          · exfalso
            have := (List.getElem?_eq_some_iff.1 q2).1
            omega
          refine ⟨Sub.of (List.nil_sublist _) (List.Sublist.refl _), ?_⟩
          refine ⟨Sub.of (List.nil_sublist _) (List.Sublist.refl _), ?_⟩
          intro β w' hs
          exact (hs.keepB (List.nil_sublist _)).fin [] ⟨rfl, rfl⟩
end Go.Proofs.YthkjfepbmnabkaaGreatDoor.Sx

/- BoxOpaque. -/
namespace Go.Proofs.YthkjfepbmnabkaaGreatDoor.Sx
open Go
attribute [local irreducible] Calls

theorem tri_know {cx : Cx} {n : Nat} {env : Env} {H : List Bk} {F : List Fact} {c : Code} {Q : Exit → KT} {p : Prop} (h : ∀ β w, Sat cx β n H F w → p) (k : p → Tri cx c Q n env H F) : Tri cx c Q n env H F :=
  ⟨fun β a w hi => (k (h β w hi.sat)).run β a w hi⟩
theorem row_cap {e size n c : Nat} {A : Option Addr} {xs : List Value} {w : World} (h : (rowF e size (.slice A n c) n xs).p w) : n ≤ c := by
  rcases h.2 with ⟨_, h0⟩ | ⟨g, cap, cur, he, _, _, hnc, _⟩
  · omega
  · injection he with _ _ h3
    omega
theorem cutA_s0 (A : Option Addr) {m s : Nat} : cutA A m 0 s = A := by
  unfold cutA
  split
  · rfl
  · cases A with
    | none => rfl
    | some ad => simp [Addr.add]
theorem elem6 {w : World} {A : Option Addr} {ad : Addr} {n : Nat} {ts : List (Bx.Term × TA)} (h : Rd 6 A n (termsV ts) w) (hn : ts.length = n) (hA : A = some ad) {k : Nat} {q : Bx.Term × TA} (hq : ts[k]? = some q) : ∀ j u, (termV q.1 q.2)[j]? = some u → w.cell? ((ad.add (k * 6)).add j) = some u := by
  subst hn
  obtain ⟨hil, hie⟩ := List.getElem?_eq_some_iff.1 hq
  have h2 := Rd.elem (f := fun p : Bx.Term × TA => termV p.1 p.2) (fun _ => rfl) h hA hil
  rw [hie] at h2
  exact h2
open Classical in
set_option maxHeartbeats 1000000 in
theorem boxOpaque_c (w : World) (A : Option Addr) (c : Nat) (ops : List OpA) (hA : Rd 7 A ops.length (ops.flatMap OpA.cells) w) (hin : ∀ o ∈ ops, o.ok w) (hn : ops.length ≤ 9223372036854775807)
    (h1 : (oddF 2).p w) (h0 : (firstF 0).p w) (h2 : (oddF 3).p w) :
    Con Tryz.prog n_ostiarylaw05_BoxOpaque #[.slice A ops.length c] w [] fun v Fs => v = .bool true ∧ Fs = [] := by
  have g := good_ostiarylaw05_BoxOpaque w (Un [])
  refine con_of_sx (cx := cx_ostiarylaw05_BoxOpaque w (Un [])) g b_ostiarylaw05_BoxOpaque rfl rfl (β := Va.z) [.c (.v (.slice A ops.length c))] 0 [] [oldF w] rfl rfl (old_sat rfl) ?_
  refine call_con [] (fun β w' hs => awake05_c w') ?_
  rintro v Fs ⟨rfl, rfl⟩
  refine call_con [] (fun β w' hs => newX_c w' true) ?_
  rintro v Fs ⟨b, y0, rfl, hy0, rfl⟩
  refine reify_rule g 0 (fun _ => [.bool true, .slice none 0 0, .bool false]) rfl rfl (fun _ => rfl) (fun rb => ?_)
  refine reify_rule g 1 (fun _ => [ptrB b, ptrB rb, .slice none 0 0]) rfl rfl (fun _ => rfl) (fun tb => ?_)
  refine loop_rule (ι := LS) 0 (fun i => [(3, .c (.v (ptrB tb))), (18, .c (.v (.slice A ops.length c))), (19, .c (.v (.int .i64 ops.length))), (20, .c (.v (.int .i64 i.k)))]) (fun _ => []) (fun i => LS.F tb b rb i ++ [oldF w])
    (fun i => i.Ok ops.length 20) (fun i => ops.length - i.k) (LS.start true y0) (LS.start_ok hy0 _ _) (Ent.mk' ⟨rfl, rfl, rfl, rfl, trivial⟩ rfl (fun β w' hs => (start_sat hs).lower)) g ?_
  intro i hi
  have hik := hi.k
  refine BIf.dec (fun hlt => ?_) (fun hge => ?_)
  · have hlt0 : (i.k : Int) < ops.length := hlt
    have hkl : i.k < ops.length := by omega
    obtain ⟨o, ho, hom⟩ := at_lt hkl
    obtain ⟨ad, hA1, _⟩ := hA.2 (by omega)
    refine ⟨ad, i.k, hA1, rfl, hkl, o.cells, rfl, fun β w' hs => opRd (by have h := Rd.old hA (hs.get 3 rfl); rw [hA1] at h; exact h) ho, ?_⟩
    refine BIf.dec (fun hlt2 => ?_) (fun hge2 => ?_)
    · have hlt20 : (i.k : Int) < 20 := hlt2
      have hbl := hi.bl
      refine call_con [0, 1, 2] (R := doOut tb b rb i.B i.ts) (fun β w' hs => doL_c tb b rb i o ops.length 20 (by decide) hi (hin o hom) h1 h0 h2 hs) ?_ ⟨rfl, rfl, rfl, trivial⟩
      rintro v Fs ⟨B2, y2, z2, T2, c2, ts2, rfl, hext, hlo2, hok2, hlen2, rfl⟩
      refine ⟨((i.k + 1 : Nat) : Int), by rw [wrap_i64 (by omega) (by omega)]; rfl, ?_⟩
      exact ⟨⟨i.k + 1, B2, y2, z2, T2, c2, ts2⟩, hi.next hkl (by omega) hext hlo2 hok2 hlen2, by show ops.length - (i.k + 1) < ops.length - i.k; omega, Ent.mk' ⟨rfl, rfl, rfl, rfl, trivial⟩ rfl (fun β w' hs => (hs.keepB (List.nil_sublist _)).lower)⟩
    · refine ⟨((i.k + 1 : Nat) : Int), by rw [wrap_i64 (by omega) (by omega)]; rfl, ?_⟩
      have hb := hi.bl
      have ht := hi.tl
      exact ⟨⟨i.k + 1, i.B, i.y, i.z, i.T, i.c, i.ts⟩, ⟨hkl, hi.lo, hi.ok, by show i.B.L.length ≤ min (i.k + 1) 20; omega, by show i.ts.length ≤ min (i.k + 1) 20; omega⟩, by show ops.length - (i.k + 1) < ops.length - i.k; omega, Ent.mk' ⟨rfl, rfl, rfl, rfl, trivial⟩ rfl (fun β w' hs => (hs.keepB (List.nil_sublist _)).lower)⟩
  · have hbl := hi.bl
    have hok := hi.ok
    have hlo := hi.lo
    obtain ⟨k0, B, y, z, T, cT, ts⟩ := i
    simp only at hbl hok hlo hik
    clear hi
    have hlen : z.ts.length = B.L.length := by rw [← hlo.z, List.length_map]
    have ldX : ∀ {β : Va} {n : Nat} {H : List Bk} {F : List Fact} {w' : World} (j : Nat), Sat (cx_ostiarylaw05_BoxOpaque w (Un [])) β n H F w' → nth F j = some (tdF tb b rb T cT ts) → w'.cell? ⟨tb, 1, none⟩ = some (ptrB rb) := fun j hs hj => bk_cell (td_bk (hs.get j hj)) (o := 1) rfl
    have ldL : ∀ {β : Va} {n : Nat} {H : List Bk} {F : List Fact} {w' : World} (j : Nat), Sat (cx_ostiarylaw05_BoxOpaque w (Un [])) β n H F w' → nth F j = some (rbxF rb B z) → w'.cell? ⟨rb, 1, none⟩ = some (.slice z.A B.L.length z.c) := fun j hs hj => bk_cell (rbx_bk (hs.get j hj)) (o := 1) rfl
    refine ⟨ptrB rb, fun β w' hs => ldX 2 hs rfl, ?_⟩
    refine ⟨.slice z.A B.L.length z.c, fun β w' hs => ldL 1 hs rfl, ?_⟩
    refine tri_know (p := B.L.length ≤ z.c ∧ (0 < B.L.length → ∃ ad, z.A = some ad)) (fun β w' hs => ⟨row_cap ((hs.get 1 rfl : (rbxF rb B z).p w').1 (rowF ty_ostiaryref05_Term 6 (.slice z.A B.L.length z.c) B.L.length (termsV z.ts)) (by simp [rbxFs])), fun hp => by obtain ⟨ad, q, _⟩ := (rbx_rd (hs.get 1 rfl)).2 (by omega); exact ⟨ad, q⟩⟩) ?_
    rintro ⟨hcap, hzA⟩
    refine loop_rule (ι := Nat) 0 (fun k => [(3, .c (.v (ptrB tb))), (40, .c (.v (.slice z.A B.L.length z.c))), (41, .c (.v (.int .i64 B.L.length))), (42, .c (.v (.int .i64 (k : Int))))]) (fun _ => []) (fun _ => tlF tb b rb B y z T cT ts ++ [oldF w]) (fun k => k ≤ B.L.length) (fun k => B.L.length - k) 0 (Nat.zero_le _) (Ent.same ⟨rfl, rfl, rfl, rfl, trivial⟩ rfl) g ?_
    intro k hk
    refine BIf.dec (fun hlt => ?_) (fun hge => ?_)
    · have hlt0 : (k : Int) < B.L.length := hlt
      have hkl : k < B.L.length := by omega
      obtain ⟨q, hq, hqm⟩ := at_lt (l := z.ts) (k := k) (by omega)
      have hqL : B.L[k]? = some q.1 := by rw [← hlo.z, List.getElem?_map, hq]; rfl
      have hqs := hok.inv.sz _ (List.mem_of_getElem? hqL)
      obtain ⟨ad, hAd⟩ := hzA (by omega)
      refine ⟨ad, k, hAd, rfl, hkl, termV q.1 q.2, rfl, fun β w' hs => elem6 (rbx_rd (hs.get 1 rfl)) hlen hAd hq, ?_⟩
      refine ⟨ptrB rb, fun β w' hs => ldX 2 hs rfl, ?_⟩
      refine ⟨.slice z.A B.L.length z.c, fun β w' hs => ldL 1 hs rfl, ?_⟩
      refine ⟨z.c, k, 0, k, z.c, z.A, rfl, rfl, rfl, Nat.le_refl _, by omega, Nat.zero_le _, rfl, rfl, cutA_s0 _, ?_⟩
      refine loop_rule (ι := Nat) 1 (fun j => [(3, .c (.v (ptrB tb))), (40, .c (.v (.slice z.A B.L.length z.c))), (41, .c (.v (.int .i64 B.L.length))), (42, .c (.v (.int .i64 (k : Int)))), (7, .c (.p 0 0)), (55, .c (.v (.slice z.A k z.c))), (56, .c (.v (.int .i64 (k : Int)))), (57, .c (.v (.int .i64 (j : Int))))]) (fun _ => [⟨0, ty_ostiaryref05_Term, termS q.1 q.2⟩]) (fun _ => tlF tb b rb B y z T cT ts ++ [oldF w]) (fun j => j ≤ k) (fun j => k - j) 0 (Nat.zero_le _) (Ent.same ⟨rfl, rfl, rfl, rfl, rfl, rfl, rfl, rfl, trivial⟩ rfl) g ?_
      intro j hj
      refine BIf.dec (fun hlt => ?_) (fun hge => ?_)
      · have hlt1 : (j : Int) < (k : Int) := hlt
        have hjk : j < k := by omega
        obtain ⟨p, hp, hpm⟩ := at_lt (l := z.ts) (k := j) (by omega)
        have hpL : B.L[j]? = some p.1 := by rw [← hlo.z, List.getElem?_map, hp]; rfl
        have hne : ¬ q.1 = p.1 := fun e => by
          obtain ⟨a1, a2⟩ := List.getElem?_eq_some_iff.1 hqL
          obtain ⟨b1, b2⟩ := List.getElem?_eq_some_iff.1 hpL
          exact (List.pairwise_iff_getElem.1 hok.inv.nodup) j k b1 a1 hjk (b2.trans (e.symm.trans a2.symm))
        refine ⟨ad, j, hAd, rfl, hjk, termV p.1 p.2, rfl, fun β w' hs => elem6 (rbx_rd (hs.get 1 rfl)) hlen hAd hp, ?_⟩
        refine call_pu (v := .bool false) (fun β w' hs => by
          have k1 := rterm_c w' q.1 p.1 q.2 p.2 (rbx_parts (hs.get 1 rfl) q hqm) (rbx_parts (hs.get 1 rfl) p hpm) hqs
          rw [decide_eq_false hne] at k1
          exact k1) ?_
        refine ⟨((j + 1 : Nat) : Int), by rw [wrap_i64 (by omega) (by omega)]; rfl, ?_⟩
        exact ⟨j + 1, hjk, by show k - (j + 1) < k - j; omega, Ent.mk' ⟨rfl, rfl, rfl, rfl, rfl, rfl, rfl, rfl, trivial⟩ rfl (fun β w' hs => (hs.keepB (List.sublist_cons_self _ _)).lower)⟩
      · refine ⟨((k + 1 : Nat) : Int), by rw [wrap_i64 (by omega) (by omega)]; rfl, ?_⟩
        exact ⟨k + 1, hkl, by show B.L.length - (k + 1) < B.L.length - k; omega, Ent.mk' ⟨rfl, rfl, rfl, rfl, trivial⟩ rfl (fun β w' hs => (hs.keepB (List.nil_sublist _)).lower)⟩
    · refine call_con [] (fun β w' hs => newX_c w' false) ?_
      rintro v Fs ⟨pb, y1, rfl, hy1, rfl⟩
      intro b1
      refine ⟨0, _, rfl, ?_⟩
      intro b2
      refine call_con [2] (R := boxOut pb (hashB ⟨false, false, []⟩ [97])) (fun β w' hs => by
        have k1 := hs.rowRd 0 rfl
        have k2 := k1.part1 (l := [97]) [0, 1] rfl
        have k3 := k2.sub 7 rfl rfl (oddF 2) rfl (Rd.old h1 (k2.get 7 rfl)) (rd_lt h1)
        have k4 := k3.sub 8 rfl rfl (firstF 0) rfl (Rd.old h0 (k3.get 8 rfl)) (rd_lt h0)
        have k5 := hashP_c w' pb ⟨false, false, []⟩ y1 b2 [(some ⟨b1, 0, none⟩, [97], 1)] 1 (by rw [hy1]; rfl) (Nat.zero_le _) (by simp) (Nat.le_refl _) (by show 1 ≤ 1000; decide) (by show 1 ≤ 1000000; decide) (k4.mem.take (js := [5, 2, 1, 0]) rfl)
        exact k5) ?_
      have hh : hashB ⟨false, false, []⟩ [97] = (Sha.sum [97], ⟨false, false, []⟩) := rfl
      rw [hh]
      rintro v Fs ⟨A9, c9, y2, rfl, r1, r2, r3, rfl⟩
      refine call_pu (fun β w' hs => lenX_c w' pb ⟨false, false, []⟩ y2 (hs.get 1 rfl) (fun k hk => hs.flt _ (List.mem_of_getElem? (i := 1) rfl) k hk)) ?_
      refine call_pu (fun β w' hs => symX_c w' pb ⟨false, false, []⟩ y2 (hs.get 1 rfl) (fun k hk => hs.flt _ (List.mem_of_getElem? (i := 1) rfl) k hk)) ?_
      refine call_pu (fun β w' hs => fullX_c w' pb ⟨false, false, []⟩ y2 (hs.get 1 rfl) (fun k hk => hs.flt _ (List.mem_of_getElem? (i := 1) rfl) k hk)) ?_
      intro β w' hs
      exact (hs.keepB (List.nil_sublist _)).fin [] ⟨rfl, rfl⟩
end Go.Proofs.YthkjfepbmnabkaaGreatDoor.Sx

/- No box; a box's terms, one by one. -/
namespace Go.Proofs.YthkjfepbmnabkaaGreatDoor.Sx
open Go
attribute [local irreducible] Calls

theorem len0_c (w : World) : Pu Tryz.prog n_box_Box_Len #[.pointer none] w (.int .i64 0) := by
  have g := good_box_Box_Len w (Un [])
  refine con_of_sx (cx := cx_box_Box_Len w (Un [])) g b_box_Box_Len rfl rfl (β := Va.z) [.c (.v (.pointer none))] 0 [] [] rfl rfl (Sat.start rfl) ?_
  intro β w' hs
  exact hs.fin [] ⟨rfl, rfl⟩
theorem full0_c (w : World) : Pu Tryz.prog n_box_Box_Full #[.pointer none] w (.bool false) := by
  have g := good_box_Box_Full w (Un [])
  refine con_of_sx (cx := cx_box_Box_Full w (Un [])) g b_box_Box_Full rfl rfl (β := Va.z) [.c (.v (.pointer none))] 0 [] [] rfl rfl (Sat.start rfl) ?_
  intro β w' hs
  exact hs.fin [] ⟨rfl, rfl⟩
theorem sym0_c (w : World) : Pu Tryz.prog n_box_Box_Symbolic #[.pointer none] w (.bool false) := by
  have g := good_box_Box_Symbolic w (Un [])
  refine con_of_sx (cx := cx_box_Box_Symbolic w (Un [])) g b_box_Box_Symbolic rfl rfl (β := Va.z) [.c (.v (.pointer none))] 0 [] [] rfl rfl (Sat.start rfl) ?_
  intro β w' hs
  exact hs.fin [] ⟨rfl, rfl⟩
theorem hash0_c (w : World) : Pu Tryz.prog n_box_Box_Hash #[.pointer none, .slice none 0 0] w (.slice none 0 0) := by
  have g := good_box_Box_Hash w (Un [])
  refine con_of_sx (cx := cx_box_Box_Hash w (Un [])) g b_box_Box_Hash rfl rfl (β := Va.z) [.c (.v (.pointer none)), .c (.v (.slice none 0 0))] 0 [] [] rfl rfl (Sat.start rfl) ?_
  intro β w' hs
  exact hs.fin [] ⟨rfl, rfl⟩
theorem mac0_c (w : World) : Pu Tryz.prog n_box_Box_Mac #[.pointer none, .slice none 0 0, .slice none 0 0] w (.slice none 0 0) := by
  have g := good_box_Box_Mac w (Un [])
  refine con_of_sx (cx := cx_box_Box_Mac w (Un [])) g b_box_Box_Mac rfl rfl (β := Va.z) [.c (.v (.pointer none)), .c (.v (.slice none 0 0)), .c (.v (.slice none 0 0))] 0 [] [] rfl rfl (Sat.start rfl) ?_
  intro β w' hs
  exact hs.fin [] ⟨rfl, rfl⟩
theorem turn0_c (w : World) : Pu Tryz.prog n_box_Box_Turn #[.pointer none, .slice none 0 0, .slice none 0 0] w (.tuple #[.slice none 0 0, .int .i64 6]) := by
  have g := good_box_Box_Turn w (Un [])
  refine con_of_sx (cx := cx_box_Box_Turn w (Un [])) g b_box_Box_Turn rfl rfl (β := Va.z) [.c (.v (.pointer none)), .c (.v (.slice none 0 0)), .c (.v (.slice none 0 0))] 0 [] [] rfl rfl (Sat.start rfl) ?_
  intro β w' hs
  exact hs.fin [] ⟨rfl, rfl⟩
theorem str0_c (w : World) : Pu Tryz.prog n_box_Box_Stretch #[.pointer none, .slice none 0 0, .slice none 0 0, .int .i64 1] w (.tuple #[.slice none 0 0, .int .i64 6]) := by
  have g := good_box_Box_Stretch w (Un [])
  refine con_of_sx (cx := cx_box_Box_Stretch w (Un [])) g b_box_Box_Stretch rfl rfl (β := Va.z) [.c (.v (.pointer none)), .c (.v (.slice none 0 0)), .c (.v (.slice none 0 0)), .c (.v (.int .i64 1))] 0 [] [] rfl rfl (Sat.start rfl) ?_
  intro β w' hs
  exact hs.fin [] ⟨rfl, rfl⟩
theorem term0_c (w : World) : Pu Tryz.prog n_box_Box_Term #[.pointer none, .int .i64 1] w (.tuple #[noTerm, .bool false]) := by
  have g := good_box_Box_Term w (Un [])
  refine con_of_sx (cx := cx_box_Box_Term w (Un [])) g b_box_Box_Term rfl rfl (β := Va.z) [.c (.v (.pointer none)), .c (.v (.int .i64 1))] 0 [] [] rfl rfl (Sat.start rfl) ?_
  refine call_pu (fun β w' hs => len0_c w') ?_
  intro β w' hs
  exact (hs.keepB (List.nil_sublist _)).fin [] ⟨rfl, rfl⟩
abbrev Tm := Bx.Term × TA
def insT (L : List Bx.Term) (pre : List Tm) (x : Tm) (args : Array Value) (X : Fact) : Prop := args = #[.int .i64 ((pre.length + 1 : Nat) : Int), .agg (termV x.1 x.2).toArray] ∧ X = sepF (copyFs x.1 x.2) ∧ L[pre.length]? = some x.1
def termsEnd (b : Nat) (B : Bx.Box) (y : Lay) (J Jx : List Tm → Fact → Prop) (Fs : List Fact) : Prop :=
  ∃ f Fs', Fs = f :: Fs' ∧ ((∃ xs, J xs f ∧ xs.length = B.L.length ∧ Fs' = [bxF b B y]) ∨ (∃ pre, Jx pre f ∧ pre.length ≤ B.L.length ∧ Fs' = [bxF b B y]))
theorem terms_it (l : Nat) (w : World) (bx b : Nat) (B : Bx.Box) (y : Lay) (f0 R : Fact) (J Jx : List Tm → Fact → Prop) (hts : y.ts.map (·.1) = B.L) (hL : B.L.length ≤ 4096) (hsz : ∀ t ∈ B.L, TSz t) (hJ0 : J [] f0) (hJo : ∀ pre f, J pre f → f.own = true) (hRo : R.own = false) (hY : Yc Tryz.prog l J Jx R (insT B.L))
    (hm : Mem w (f0 :: R :: [bkF bx ty_ptr_box_Box [ptrB b], bxF b B y])) :
    Con Tryz.prog n_box_Box_Terms_1 #[.func (.yield l) #[] #[], .pointer (some ⟨bx, 0, none⟩)] w [f0, bkF bx ty_ptr_box_Box [ptrB b], bxF b B y] (fun _ Fs => termsEnd b B y J Jx Fs) := by
  have g := good_box_Box_Terms_1 w (Un [f0, bkF bx ty_ptr_box_Box [ptrB b], bxF b B y]) [bx]
  have hs0 : Sat (cx_box_Box_Terms_1 w (Un [f0, bkF bx ty_ptr_box_Box [ptrB b], bxF b B y]) [bx]) (Va.of fun _ => bx) 1 [] (f0 :: R :: [bkF bx ty_ptr_box_Box [ptrB b], bxF b B y]) w := by
    refine hm.sat rfl (fun f hf ho k hk => ?_) ⟨Nat.le_refl 1, fun i hi => by obtain rfl : i = 0 := Nat.lt_one_iff.1 hi; rfl⟩
    simp only [List.mem_cons, List.not_mem_nil, or_false] at hf
    rcases hf with rfl | rfl | rfl | rfl
    · exact ⟨_, by simp, hk⟩
    · rw [hRo] at ho; cases ho
    · exact ⟨bkF bx ty_ptr_box_Box [ptrB b], by simp, hk⟩
    · exact ⟨bxF b B y, by simp, hk⟩
  have hs1 := hs0.toBk 2 rfl 0 Nat.zero_lt_one rfl
  refine con_of_sx (cx := cx_box_Box_Terms_1 w (Un [f0, bkF bx ty_ptr_box_Box [ptrB b], bxF b B y]) [bx]) g b_box_Box_Terms_1 rfl rfl (β := Va.of fun _ => bx) [.c (.v (.func (.yield l) #[] #[])), .c (.p 0 0)] 1 _ _ rfl rfl hs1 ?_
  have hlen : y.ts.length = B.L.length := by rw [← hts, List.length_map]
  have hyA : 0 < B.L.length → ∃ ad, y.A = some ad := fun hp => by
    obtain ⟨ad, q, _⟩ := (bx_rd (hs1.get 2 rfl)).2 (by omega)
    exact ⟨ad, q⟩
  refine call_pu (fun β w' hs => lenX_c w' b B y (hs.get 2 rfl) (fun k hk => hs.flt _ (List.mem_of_getElem? (i := 2) rfl) k hk)) ?_
  refine loop_rule (ι := List Tm × Fact) 1 (fun i => [(0, .c (.v (.func (.yield l) #[] #[]))), (1, .c (.p 0 0)), (5, .c (.v (.int .i64 (B.L.length : Int)))), (6, .c (.v (.int .i64 (i.1.length : Int))))]) (fun _ => [⟨0, ty_ptr_box_Box, [.v (ptrB b)]⟩]) (fun i => [i.2, R, bxF b B y])
    (fun i => J i.1 i.2 ∧ i.1.length ≤ B.L.length) (fun i => B.L.length - i.1.length) ([], f0) ⟨hJ0, Nat.zero_le _⟩ (Ent.same ⟨rfl, rfl, rfl, rfl, trivial⟩ rfl) g ?_
  rintro ⟨pre, f⟩ ⟨hJ, hi⟩
  simp only at hJ hi
  have hfo := hJo _ _ hJ
  simp only
  refine BIf.dec (fun hlt => ?_) (fun hge => ?_)
  · have hlt0 : (pre.length : Int) < B.L.length := hlt
    have hkl : pre.length < B.L.length := by omega
    obtain ⟨q, hq, hqm⟩ := at_lt (l := y.ts) (k := pre.length) (by omega)
    have hqL : B.L[pre.length]? = some q.1 := by rw [← hts, List.getElem?_map, hq]; rfl
    have hqs := hsz _ (List.mem_of_getElem? hqL)
    refine ⟨((pre.length + 1 : Nat) : Int), by rw [wrap_i64 (by omega) (by omega)]; rfl, ?_⟩
    refine ⟨.slice y.A B.L.length y.c, fun β w' hs => box_cell (bx_bk (hs.get 2 rfl)) (o := 2) rfl, ?_⟩
    obtain ⟨ad, hAd⟩ := hyA (by omega)
    refine ⟨ad, pre.length, hAd, rfl, hkl, termV q.1 q.2, rfl, fun β w' hs => elem6 (bx_rd (hs.get 2 rfl)) hlen hAd hq, ?_⟩
    refine call_conS [] (fun β w' hs => copyOf_c w' q.1 q.2 (bx_parts (hs.get 2 rfl) q hqm) hqs) ?_
    rintro v Fs ⟨a', rfl, rfl⟩
    refine ⟨_, _, fun β w' hs => hs.sep [0, 1, 2, 3] rfl ⟨rfl, rfl, rfl, rfl, trivial⟩, ?_⟩
    refine yield_own (X := sepF (copyFs q.1 a')) (x := (q.1, a')) hY 1 2 0 rfl hJ hfo rfl rfl rfl (by decide) (by decide) (by decide) (fun β => ⟨rfl, rfl, hqL⟩) ?_ ?_
    · intro f2 hfo2 hJ2
      have e : (pre ++ [(q.1, a')]).length = pre.length + 1 := by rw [List.length_append]; rfl
      refine ⟨((pre.length + 1 : Nat) : Int), by rw [wrap_i64 (by omega) (by omega)]; rfl, ?_⟩
      refine ⟨(pre ++ [(q.1, a')], f2), ⟨hJ2, by show (pre ++ [(q.1, a')]).length ≤ _; omega⟩, by show B.L.length - (pre ++ [(q.1, a')]).length < B.L.length - pre.length; omega, ?_⟩
      simp only [e]
      exact Ent.same ⟨rfl, rfl, rfl, rfl, trivial⟩ rfl
    · intro f2 hfo2 hJ2 β w' hs
      have e : (pre ++ [(q.1, a')]).length = pre.length + 1 := by rw [List.length_append]; rfl
      exact (hs.keepB (List.nil_sublist _)).fin [0, 2] ⟨f2, _, rfl, .inr ⟨_, hJ2, by omega, rfl⟩⟩ rfl rfl rfl ⟨hfo2, rfl, trivial⟩
  · have hge0 : ¬ (pre.length : Int) < B.L.length := hge
    intro β w' hs
    exact (hs.keepB (List.nil_sublist _)).fin [0, 2] ⟨f, _, rfl, .inl ⟨pre, hJ, by omega, rfl⟩⟩ rfl rfl rfl ⟨hfo, rfl, trivial⟩
theorem terms_c (w : World) (b : Nat) : Con Tryz.prog n_box_Box_Terms #[ptrB b] w [] (fun v Fs => ∃ bx, v = .func (.func n_box_Box_Terms_1) #[] #[.pointer (some ⟨bx, 0, none⟩)] ∧ Fs = [bkF bx ty_ptr_box_Box [ptrB b]]) := by
  refine con_of_sx (cx := cx_box_Box_Terms w (Un [])) (good_box_Box_Terms w (Un [])) b_box_Box_Terms rfl rfl (β := Va.z) [.c (.v (ptrB b))] 0 [] [] rfl rfl (Sat.start rfl) ?_
  intro β w' hs
  exact hs.ofBk.fin [0] ⟨β 0, rfl, rfl⟩
end Go.Proofs.YthkjfepbmnabkaaGreatDoor.Sx

/- BoxTerms. -/
namespace Go.Proofs.YthkjfepbmnabkaaGreatDoor.Sx
open Go
attribute [local irreducible] Calls

open Classical in
set_option maxHeartbeats 2000000 in
theorem boxTerms_c (w : World) (A : Option Addr) (c : Nat) (ops : List OpA) (st : UInt8) (hA : Rd 7 A ops.length (ops.flatMap OpA.cells) w) (hin : ∀ o ∈ ops, o.ok w) (hn : ops.length ≤ 9223372036854775807)
    (h1 : (oddF 2).p w) (h0 : (firstF 0).p w) (h2 : (oddF 3).p w) :
    Con Tryz.prog n_ostiarylaw05_BoxTerms #[.slice A ops.length c, byte st] w [] fun v Fs => v = .bool true ∧ Fs = [] := by
  have g := good_ostiarylaw05_BoxTerms w (Un [])
  refine con_of_sx (cx := cx_ostiarylaw05_BoxTerms w (Un [])) g b_ostiarylaw05_BoxTerms rfl rfl (β := Va.z) [.c (.v (.slice A ops.length c)), .c (.v (byte st))] 0 [] [oldF w] rfl rfl (old_sat rfl) ?_
  refine call_con [] (fun β w' hs => awake05_c w') ?_
  rintro v Fs ⟨rfl, rfl⟩
  refine call_con [] (fun β w' hs => newX_c w' true) ?_
  rintro v Fs ⟨b, y0, rfl, hy0, rfl⟩
  refine reify_rule g 1 (fun _ => [.bool true, .slice none 0 0, .bool false]) rfl rfl (fun _ => rfl) (fun rb => ?_)
  refine reify_rule g 2 (fun _ => [ptrB b, ptrB rb, .slice none 0 0]) rfl rfl (fun _ => rfl) (fun tb => ?_)
  refine loop_rule (ι := LS) 4 (fun i => [(1, .c (.v (byte st))), (4, .c (.p 0 0)), (5, .c (.p 3 0)), (26, .c (.v (.slice A ops.length c))), (27, .c (.v (.int .i64 ops.length))), (28, .c (.v (.int .i64 i.k)))]) (fun _ => [⟨3, ty_ptr_ostiarylaw05_told, [.v (ptrB tb)]⟩, ⟨0, ty_bool, [.v (.bool false)]⟩]) (fun i => LS.F tb b rb i ++ [oldF w])
    (fun i => i.Ok ops.length 20) (fun i => ops.length - i.k) (LS.start true y0) (LS.start_ok hy0 _ _) (Ent.mk' ⟨rfl, rfl, rfl, rfl, rfl, rfl, trivial⟩ rfl (fun β w' hs => start_sat hs)) g ?_
  intro i hi
  have hik := hi.k
  refine BIf.dec (fun hlt => ?_) (fun hge => ?_)
  · have hlt0 : (i.k : Int) < ops.length := hlt
    have hkl : i.k < ops.length := by omega
    obtain ⟨o, ho, hom⟩ := at_lt hkl
    obtain ⟨ad, hA1, _⟩ := hA.2 (by omega)
    refine ⟨ad, i.k, hA1, rfl, hkl, o.cells, rfl, fun β w' hs => opRd (by have h := Rd.old hA (hs.get 3 rfl); rw [hA1] at h; exact h) ho, ?_⟩
    refine BIf.dec (fun hlt2 => ?_) (fun hge2 => ?_)
    · have hlt20 : (i.k : Int) < 20 := hlt2
      have hbl := hi.bl
      refine call_con [0, 1, 2] (R := doOut tb b rb i.B i.ts) (fun β w' hs => doL_c tb b rb i o ops.length 20 (by decide) hi (hin o hom) h1 h0 h2 hs) ?_ ⟨rfl, rfl, rfl, trivial⟩
      rintro v Fs ⟨B2, y2, z2, T2, c2, ts2, rfl, hext, hlo2, hok2, hlen2, rfl⟩
      refine ⟨((i.k + 1 : Nat) : Int), by rw [wrap_i64 (by omega) (by omega)]; rfl, ?_⟩
      exact ⟨⟨i.k + 1, B2, y2, z2, T2, c2, ts2⟩, hi.next hkl (by omega) hext hlo2 hok2 hlen2, by show ops.length - (i.k + 1) < ops.length - i.k; omega, Ent.mk' ⟨rfl, rfl, rfl, rfl, rfl, rfl, trivial⟩ rfl (fun β w' hs => (hs.keepB (List.sublist_cons_self _ _)).lower)⟩
    · refine ⟨((i.k + 1 : Nat) : Int), by rw [wrap_i64 (by omega) (by omega)]; rfl, ?_⟩
      have hb := hi.bl
      have ht := hi.tl
      exact ⟨⟨i.k + 1, i.B, i.y, i.z, i.T, i.c, i.ts⟩, ⟨hkl, hi.lo, hi.ok, by show i.B.L.length ≤ min (i.k + 1) 20; omega, by show i.ts.length ≤ min (i.k + 1) 20; omega⟩, by show ops.length - (i.k + 1) < ops.length - i.k; omega, Ent.mk' ⟨rfl, rfl, rfl, rfl, rfl, rfl, trivial⟩ rfl (fun β w' hs => (hs.keepB (List.sublist_cons_self _ _)).lower)⟩
  · have hbl := hi.bl
    have hok := hi.ok
    have hlo := hi.lo
    obtain ⟨k0, B, y, z, T, cT, ts⟩ := i
    simp only at hbl hok hlo hik
    clear hi
    have hlen : z.ts.length = B.L.length := by rw [← hlo.z, List.length_map]
    obtain ⟨kk, hkk⟩ : ∃ kk, st.toNat % 30 = kk := ⟨_, rfl⟩
    have hkk30 : kk < 30 := by omega
    refine ⟨by decide, (kk : Int), by rw [← hkk]; exact Int.ofNat_tmod _ _, ?_⟩
    refine ⟨(kk : Int), wrap_i64 (by omega) (by omega), ?_⟩
    refine ⟨ptrB b, fun β w' hs => bk_cell (td_bk (hs.get 2 rfl)) (o := 0) rfl, ?_⟩
    refine call_con [] (fun β w' hs => terms_c w' b) ?_
    rintro v Fs ⟨bx, rfl, rfl⟩
    refine tri_know (p := 0 < B.L.length → ∃ ad, z.A = some ad) (fun β w' hs hp => by obtain ⟨ad, q, _⟩ := (rbx_rd (hs.get 2 rfl)).2 (by omega); exact ⟨ad, q⟩) ?_
    intro hzA
    have hS : ∀ {n : Nat} {b6 b5 b4 b3 b0 : Bk} {f0 f1 f2 : Fact} {F : List Fact}, Sub (cx_ostiarylaw05_BoxTerms w (Un [])) n [b6, b5, b4, b3, b0] (f0 :: f1 :: f2 :: F) [b5, b4, b3] [f1, f2] := fun {n b6 b5 b4 b3 b0 f0 f1 f2 F} β w hs => (hs.keepB ((((List.nil_sublist [b0]).cons_cons b3).cons_cons b4).cons_cons b5 |>.cons b6)).perm [1, 2]
    refine range_rule (α := Tm) (ι := Nat) (κ := Unit) g rfl (cv := [.pointer (some ⟨bx, 0, none⟩)]) rfl (by kernel_rfl) 6 (Nat.le_refl 6)
      (fun pre i => i = pre.length ∧ i ≤ kk ∧ i ≤ B.L.length) (fun i => [⟨5, ty_int, [.v (.int .i64 (i : Int))]⟩, ⟨4, ty_int, [.v (.int .i64 (kk : Int))]⟩, ⟨3, ty_ptr_ostiarylaw05_told, [.v (ptrB tb)]⟩, ⟨0, ty_bool, [.v (.bool false)]⟩]) (fun _ => [rbxF rb B z, tdF tb b rb T cT ts]) (fun i => ⟨rfl, rfl, trivial⟩)
      (fun e pre i => e = .exit 2 ∧ kk ≤ B.L.length) (fun _ => [⟨5, ty_int, [.v (.int .i64 (kk : Int))]⟩, ⟨4, ty_int, [.v (.int .i64 (kk : Int))]⟩, ⟨3, ty_ptr_ostiarylaw05_told, [.v (ptrB tb)]⟩, ⟨0, ty_bool, [.v (.bool false)]⟩]) (fun _ => [rbxF rb B z, tdF tb b rb T cT ts]) (fun i => ⟨rfl, rfl, trivial⟩)
      [bkF bx ty_ptr_box_Box [ptrB b], bxF b B y] [] [oldF w] ⟨rfl, rfl, trivial⟩ (fun g h => by obtain rfl := List.mem_singleton.1 h; rfl) 0 ⟨rfl, Nat.zero_le _, Nat.zero_le _⟩ (fun β w hs => ⟨β, Agr.refl _ _, hs⟩) (insT B.L)
      (fun xs Fs' => xs.length = B.L.length ∧ Fs' = [bxF b B y]) (fun pre Fs' => pre.length ≤ B.L.length ∧ Fs' = [bxF b B y])
      (fun l w f0 R J Jx hJ0 hJo hRo hY hm => (terms_it l w bx b B y f0 R J Jx hlo.y hok.inv.len hok.inv.sz hJ0 hJo hRo hY hm).mono fun _ Fs h => h) ?_ ?_ ?_
    · rintro n pre x args X W S l bs pn pn' hbs ⟨rfl, hn2, hn3⟩ ⟨rfl, rfl, hx⟩
      have hkl : pre.length < B.L.length := (List.getElem?_eq_some_iff.1 hx).1
      obtain ⟨q, hq, hqm⟩ := at_lt (l := z.ts) (k := pre.length) (by omega)
      have hqL : B.L[pre.length]? = some q.1 := by rw [← hlo.z, List.getElem?_map, hq]; rfl
      have hxq : x.1 = q.1 := Option.some.inj (hx.symm.trans hqL)
      have hqs := hok.inv.sz _ (List.mem_of_getElem? hqL)
      obtain ⟨ad, hAd⟩ := hzA (by omega)
      obtain ⟨xt, xa⟩ := x
      simp only at hxq
      subst hxq
      obtain ⟨k, hk⟩ : ∃ k, pre.length = k := ⟨_, rfl⟩
      have hle : ∀ x : Tm, (pre ++ [x]).length = k + 1 := fun x => by rw [List.length_append, hk]; rfl
      rw [hk] at hn2 hn3 hkl hq hqL ⊢
      refine ⟨_, rfl, ?_⟩
      refine BIf.dec (fun he => ?_) (fun he => ?_)
      · have he0 : (k : Int) = (kk : Int) := he
        obtain rfl : k = kk := by omega
        exact ⟨(), ⟨rfl, by omega⟩, Ent.mk' trivial rfl (fun β w hs => ((hs.keepB (List.sublist_cons_self _ _)).perm [1, 2]).lower)⟩
      · have he0 : ¬ (k : Int) = (kk : Int) := he
        refine draw_rule (rcx_good g) p_ostiarylaw05_BoxTerms_16 (by kernel_rfl) _ _ (subPerm [1, 2]) ?_
        refine ⟨((k + 1 : Nat) : Int), by rw [wrap_i64 (by omega) (by omega)]; rfl, ?_⟩
        conv => whnf
        generalize hd : decide (((k + 1 : Nat) : Int) = ((k + 1 : Nat) : Int)) = b1
        cases b1 with
        | false => exact absurd rfl (of_decide_eq_false hd)
        | true =>
        refine ⟨ptrB rb, fun β w' hs => bk_cell (td_bk (hs.get 1 rfl)) (o := 1) rfl, ?_⟩
        refine ⟨.slice z.A B.L.length z.c, fun β w' hs => bk_cell (rbx_bk (hs.get 0 rfl)) (o := 1) rfl, ?_⟩
        refine ⟨ad, k, hAd, rfl, hkl, termV q.1 q.2, rfl, fun β w' hs => elem6 (rbx_rd (hs.get 0 rfl)) hlen hAd hq, ?_⟩
        refine call_pu (fun β w' hs => back_c w' q.1 xa) ?_
        refine ⟨subPerm [1, 2], ?_⟩
        refine call_puS (v := .bool true) (fun β w' hs => ?_) _ _ (fun β w' hs => hs.unsep 0 rfl) ?_
        · have hX : (sepF (copyFs q.1 xa)).p w' := hs.get 0 rfl
          have k1 := rterm_c w' q.1 q.1 xa q.2 ⟨row_rd (hX.1 (browF ty_uint8 xa.k q.1.key xa.kc) (by simp [copyFs])), row_rd (hX.1 (browF ty_uint8 xa.t q.1.text xa.tc) (by simp [copyFs])), row_rd (hX.1 (irowF xa.l q.1.list xa.lc) (by simp [copyFs])), row_rd (hX.1 (browF ty_uint8 xa.m q.1.mask xa.mc) (by simp [copyFs]))⟩ (rbx_parts (hs.get 1 rfl) q hqm) hqs
          rw [decide_eq_true rfl] at k1
          exact k1
        refine ⟨subPerm [4, 5], ?_⟩
        have hz1 := hqs.key
        have hz2 := hqs.text
        have hz3 := hqs.mask
        refine call_con [3] (fun β w' hs => flip_c w' xa.k q.1.key xa.kc (hs.mem.take (js := [3]) rfl) (by rw [lim_eq]; omega)) ?_
        rintro v Fs ⟨l1, hl1, rfl⟩
        refine call_con [3] (fun β w' hs => flip_c w' xa.t q.1.text xa.tc (hs.mem.take (js := [3]) rfl) (by rw [lim_eq]; omega)) ?_
        rintro v Fs ⟨l2, hl2, rfl⟩
        refine call_con [2] (fun β w' hs => flip_c w' xa.m q.1.mask xa.mc (hs.mem.take (js := [2]) rfl) (by rw [lim_eq]; omega)) ?_
        rintro v Fs ⟨l3, hl3, rfl⟩
        refine ⟨((k + 1 : Nat) : Int), by rw [wrap_i64 (by omega) (by omega)]; rfl, ?_⟩
        exact ⟨k + 1, ⟨(hle _).symm, by omega, by omega⟩, Ent.mk' trivial rfl (fun β w hs => ((hs.keepB (List.sublist_cons_self _ _)).perm [4, 5]).lower)⟩
    · rintro xs n Fs ⟨hn1, hn2, hn3⟩ ⟨hxs, rfl⟩
      have hnm : n = min kk B.L.length := by omega
      subst hnm
      refine call_pu (fun β w' hs => str0_c w') ?_
      refine call_pu (fun β w' hs => turn0_c w') ?_
      refine call_pu (fun β w' hs => term0_c w') ?_
      refine draw_rule g p_ostiarylaw05_BoxTerms_26 (by kernel_rfl) _ _ hS ?_
      refine ⟨ptrB rb, fun β w' hs => bk_cell (td_bk (hs.get 1 rfl)) (o := 1) rfl, ?_⟩
      refine ⟨.slice z.A B.L.length z.c, fun β w' hs => bk_cell (rbx_bk (hs.get 0 rfl)) (o := 1) rfl, ?_⟩
      refine ⟨((min kk B.L.length : Nat) : Int), mn _ _, ?_⟩
      conv => whnf
      generalize hd : decide (((min kk B.L.length : Nat) : Int) = ((min kk B.L.length : Nat) : Int)) = b1
      cases b1 with
      | false => exact absurd rfl (of_decide_eq_false hd)
      | true =>
      refine call_pu (v := .bool true) (fun β w' hs => tsame_c w' tb b rb B y z T cT ts hlo hok.inv (by omega) (hs.get 0 rfl) (fun k hk => hs.flt _ (List.mem_of_getElem? (i := 0) rfl) k hk) (hs.get 1 rfl) (fun k hk => hs.flt _ (List.mem_of_getElem? (i := 1) rfl) k hk) (hs.get 2 rfl) (fun k hk => hs.flt _ (List.mem_of_getElem? (i := 2) rfl) k hk)) ?_
      refine ⟨hS, ?_⟩
      refine call_pu (fun β w' hs => hash0_c w') ?_
      refine ⟨hS, ?_⟩
      refine call_pu (fun β w' hs => mac0_c w') ?_
      refine ⟨hS, ?_⟩
      refine call_pu (fun β w' hs => len0_c w') ?_
      refine ⟨hS, ?_⟩
      refine call_pu (fun β w' hs => full0_c w') ?_
      refine ⟨hS, ?_⟩
      refine call_pu (fun β w' hs => sym0_c w') ?_
      refine ⟨hS, ?_⟩
      refine ⟨hS, ?_⟩
      intro β w' hs
      exact (hs.keepB (List.nil_sublist _)).fin [] ⟨rfl, rfl⟩
    · rintro e pre ⟨⟩ Fs ⟨rfl, hkl⟩ ⟨hpl, rfl⟩
      have hmk : min (kk : Int) (B.L.length : Int) = (kk : Int) := by omega
      refine call_pu (fun β w' hs => str0_c w') ?_
      refine call_pu (fun β w' hs => turn0_c w') ?_
      refine call_pu (fun β w' hs => term0_c w') ?_
      refine draw_rule g p_ostiarylaw05_BoxTerms_26 (by kernel_rfl) _ _ hS ?_
      refine ⟨ptrB rb, fun β w' hs => bk_cell (td_bk (hs.get 1 rfl)) (o := 1) rfl, ?_⟩
      refine ⟨.slice z.A B.L.length z.c, fun β w' hs => bk_cell (rbx_bk (hs.get 0 rfl)) (o := 1) rfl, ?_⟩
      refine ⟨(kk : Int), hmk, ?_⟩
      conv => whnf
      generalize hd : decide ((kk : Int) = (kk : Int)) = b1
      cases b1 with
      | false => exact absurd rfl (of_decide_eq_false hd)
      | true =>
      refine call_pu (v := .bool true) (fun β w' hs => tsame_c w' tb b rb B y z T cT ts hlo hok.inv (by omega) (hs.get 0 rfl) (fun k hk => hs.flt _ (List.mem_of_getElem? (i := 0) rfl) k hk) (hs.get 1 rfl) (fun k hk => hs.flt _ (List.mem_of_getElem? (i := 1) rfl) k hk) (hs.get 2 rfl) (fun k hk => hs.flt _ (List.mem_of_getElem? (i := 2) rfl) k hk)) ?_
      refine ⟨hS, ?_⟩
      refine call_pu (fun β w' hs => hash0_c w') ?_
      refine ⟨hS, ?_⟩
      refine call_pu (fun β w' hs => mac0_c w') ?_
      refine ⟨hS, ?_⟩
      refine call_pu (fun β w' hs => len0_c w') ?_
      refine ⟨hS, ?_⟩
      refine call_pu (fun β w' hs => full0_c w') ?_
      refine ⟨hS, ?_⟩
      refine call_pu (fun β w' hs => sym0_c w') ?_
      refine ⟨hS, ?_⟩
      refine ⟨hS, ?_⟩
      intro β w' hs
      exact (hs.keepB (List.nil_sublist _)).fin [] ⟨rfl, rfl⟩
end Go.Proofs.YthkjfepbmnabkaaGreatDoor.Sx

/- What a statement's proof has of its arguments, in this executor's words. -/
namespace Go.Proofs.YthkjfepbmnabkaaGreatDoor.Sx
open Go Go.RowKit

theorem below_of {w w' : World} (h : Chg None_ w w') : Below w.heap.size w w' :=
  ⟨h.os, h.tape, h.output, h.size, fun k hk => h.same k hk (fun q => q)⟩
theorem u8_of {x : Int} (h : (Lit.int .u8 x).wf = true) : ∃ k : UInt8, Value.int .u8 x = byte k := by
  have hx : 0 ≤ x ∧ x ≤ 255 := by
    have h2 : IntKind.u8.min ≤ x ∧ x ≤ IntKind.u8.max := by simpa [Lit.wf] using h
    exact h2
  refine ⟨UInt8.ofNat x.toNat, ?_⟩
  unfold byte
  rw [UInt8.toNat_ofNat']
  congr 1
  omega
theorem row_bs {w : World} {a : Option Addr} {len cap : Nat} {zs : List Int}
    (h : (a = none ∧ len = 0 ∧ cap = 0 ∧ zs = []) ∨ ∃ x, a = some x ∧ len ≤ cap ∧ cap ≤ maxLen ∧ zs.length = cap ∧ (∀ i, i < zs.length → w.cell? (x.add i) = some (.int .u8 (zs.getD i 0))) ∧ ∀ n ∈ zs, (Lit.int .u8 n).wf = true) :
    ∃ p : List UInt8, p.length = len ∧ Bs w a p ∧ len ≤ cap ∧ cap ≤ maxLen := by
  rcases h with ⟨rfl, rfl, rfl, rfl⟩ | ⟨x, rfl, h1, h2, rfl, h3, h4⟩
  · exact ⟨[], rfl, Bs.nil _ _, Nat.le_refl _, Nat.zero_le _⟩
  · have hl : ((zs.take len).map (fun z : Int => UInt8.ofNat z.toNat)).length = len := by simp; omega
    refine ⟨(zs.take len).map (fun z : Int => UInt8.ofNat z.toNat), hl, ⟨by simp, fun _ => ⟨x, rfl, fun j u hj => ?_⟩⟩, h1, h2⟩
    have hjl : j < len := by
      have := (List.getElem?_eq_some_iff.1 hj).1
      simp at this; omega
    have hjz : j < zs.length := by omega
    rw [h3 j hjz, ← hj]
    obtain ⟨k, hk⟩ := u8_of (h4 _ (List.getElem_mem hjz))
    have hz : zs.getD j 0 = zs[j] := by simp [hjz]
    simp only [List.getElem?_map, List.getElem?_take, if_pos hjl, List.getElem?_eq_getElem hjz, Option.map_some, hz, hk]
    have hkk : zs[j] = (k.toNat : Int) := by simpa [byte] using hk
    simp [hkk]
end Go.Proofs.YthkjfepbmnabkaaGreatDoor.Sx

/- Tables that are laid: what their cells are. -/
namespace Go.Proofs.YthkjfepbmnabkaaGreatDoor.Sx
open Go

theorem rd_of_ints {H : Type} {enc : TypeId × Value → H} {P : Program} {W : World} {base : Nat} {sp : Nat → Bool} {held : Bool} {fuel g n : Nat} {t e : TypeId} {k : IntKind} {cs : Array Value} {zs : List Int} {q : List MemPlace}
    (ht : P.underlying t = some (.array n e)) (he : P.underlying e = some (.int k)) (hc : P.cellsOf e = 1) (hd : DataW.trod enc P W base sp held fuel t cs.toList = some (.agg (zs.map fun z => .lit (.int k z)), q)) (hcell : ∀ j, W.cell? ⟨g, j, none⟩ = cs[j]?) :
    Rd 1 (some ⟨g, 0, none⟩) zs.length (zs.map (Value.int k)) W := by
  obtain ⟨xs, m, _, hx, hlen, hn, hel⟩ := DataW.trod_array ht hd
  simp only [Prod.mk.injEq, DataW.agg.injEq] at hx
  have hzn : zs.length = n := by
    have h9 := congrArg List.length hx.1
    simp only [List.length_map] at h9
    omega
  refine ⟨by simp, fun hp => ⟨_, rfl, fun j u hu => ?_⟩⟩
  rw [List.getElem?_map] at hu
  obtain ⟨z, hz, rfl⟩ := Option.map_eq_some_iff.1 hu
  have hj : j < zs.length := (List.getElem?_eq_some_iff.1 hz).1
  have h1 := hel j (by omega)
  have h2 : (xs.map (·.1))[j]? = some (.lit (.int k z)) := by rw [← hx.1, List.getElem?_map, hz]; rfl
  rw [List.getElem?_map] at h2
  obtain ⟨x, hxj, hx1⟩ := Option.map_eq_some_iff.1 h2
  rw [hxj, hc, Nat.mul_one] at h1
  obtain ⟨y, e1, e2, _⟩ := DataW.trod_int he h1
  have hy : y = z := by
    rw [e2] at hx1
    simpa using hx1
  subst hy
  rw [add_none, Nat.zero_add, hcell j, ← Array.getElem?_toList]
  have h3 := congrArg (fun l => l[0]?) e1
  simpa [List.getElem?_drop] using h3
theorem opens_string {P : Program} {w : World} {m : Nat} {t : TypeId} {s : ByteArray} (ht : P.underlying t = some .string) (h : Opens P w m t (Value.cells (.string s)).toList) : s.size ≤ maxLen := by
  cases m with
  | zero => exact h.elim
  | succ m =>
    unfold Opens at h
    rw [ht] at h
    obtain ⟨s', h1, h2⟩ := h
    simp [Value.cells] at h1
    subst h1
    exact h2
abbrev u32s (l : List UInt32) : List Int := l.map fun x => (x.toNat : Int)
theorem rd_u32 {g : Nat} {W : World} {l : List UInt32} (h : Rd 1 (some ⟨g, 0, none⟩) (u32s l).length ((u32s l).map (Value.int .u32)) W) : Rd 1 (some ⟨g, 0, none⟩) l.length (l.map u32) W := by
  have e : (u32s l).map (Value.int .u32) = l.map u32 := by rw [List.map_map]; rfl
  rw [e, List.length_map] at h
  exact h
end Go.Proofs.YthkjfepbmnabkaaGreatDoor.Sx

/- Tables that are laid, of any plain types: their cells are what they hold, in order. -/
namespace Go.Proofs.YthkjfepbmnabkaaGreatDoor.Sx
open Go

mutual
def lits {H : Type} : DataW H → Option (List Value)
  | .lit (.int k n) => some [.int k n]
  | .lit (.bool b) => some [.bool b]
  | .lit (.string l) => some [.string ⟨l.toArray⟩]
  | .agg ps => litsL ps
  | _ => none
def litsL {H : Type} : List (DataW H) → Option (List Value)
  | [] => some []
  | d :: r => match lits d, litsL r with
    | some a, some b => some (a ++ b)
    | _, _ => none
end
def contig (P : Program) : List Field → Nat → Option Nat
  | [], o => some o
  | f :: r, o => if f.offset = o then contig P r (o + P.cellsOf f.type) else none
def flatB (P : Program) : Nat → TypeId → Bool
  | 0, _ => false
  | n + 1, t => match P.underlying t with
    | some (.int _) | some .bool | some .string => true
    | some (.struct fs) => (match contig P fs.toList 0 with | some e => Nat.beq e (P.cellsOf t) | none => false) && fs.toList.all fun f => flatB P n f.type
    | some (.array m e) => Nat.beq (m * P.cellsOf e) (P.cellsOf t) && flatB P n e
    | _ => false
section
variable {H : Type} {enc : TypeId × Value → H} {P : Program} {w : World} {base : Nat} {sp : Nat → Bool} {held : Bool}
theorem fields_cat (m : Nat) (cs : List Value) : ∀ (fs : List Field) (xs : List (DataW H × List MemPlace)) (o e : Nat), contig P fs o = some e → xs.length = fs.length →
    (∀ (i : Nat) (f : Field), fs[i]? = some f → DataW.trod enc P w base sp held m f.type ((cs.drop f.offset).take (P.cellsOf f.type)) = xs[i]?) →
    (∀ f ∈ fs, ∀ cs' x, DataW.trod enc P w base sp held m f.type cs' = some x → lits x.1 = some cs') → o ≤ e ∧ litsL (xs.map (·.1)) = some ((cs.drop o).take (e - o))
  | [], xs, o, e, hc, hl, _, _ => by
    obtain rfl := Option.some.inj hc
    obtain rfl := List.eq_nil_of_length_eq_zero hl
    exact ⟨Nat.le_refl _, by simp [litsL]⟩
  | f :: r, [], o, e, hc, hl, _, _ => by cases hl
  | f :: r, x :: xs, o, e, hc, hl, h, ih => by
    simp only [contig] at hc
    split at hc
    · rename_i ho
      have h0 := h 0 f rfl
      rw [ho] at h0
      have h1 := ih f List.mem_cons_self _ x h0
      obtain ⟨h2, h3⟩ := fields_cat m cs r xs _ e hc (by simpa using hl) (fun i g hg => by
        have := h (i + 1) g (by simpa using hg)
        simpa using this) (fun g hg => ih g (List.mem_cons_of_mem _ hg))
      refine ⟨by omega, ?_⟩
      simp only [List.map_cons, litsL, h1, h3]
      congr 1
      have e1 : e - o = P.cellsOf f.type + (e - (o + P.cellsOf f.type)) := by omega
      rw [e1, List.take_add, List.drop_drop]
    · cases hc
theorem elems_cat (m k : Nat) (ty : TypeId) (cs : List Value) (hk : P.cellsOf ty = k) : ∀ (n : Nat) (xs : List (DataW H × List MemPlace)) (o : Nat), xs.length = n →
    (∀ i, i < n → DataW.trod enc P w base sp held m ty ((cs.drop (o + i * k)).take k) = xs[i]?) →
    (∀ cs' x, DataW.trod enc P w base sp held m ty cs' = some x → lits x.1 = some cs') → litsL (xs.map (·.1)) = some ((cs.drop o).take (n * k))
  | 0, xs, o, hl, _, _ => by
    obtain rfl := List.eq_nil_of_length_eq_zero hl
    simp [litsL]
  | n + 1, [], o, hl, _, _ => by cases hl
  | n + 1, x :: xs, o, hl, h, ih => by
    have h0 := h 0 (Nat.succ_pos _)
    rw [Nat.zero_mul, Nat.add_zero] at h0
    have h1 := ih _ x h0
    have h3 := elems_cat m k ty cs hk n xs (o + k) (by simpa using hl) (fun i hi => by
      have := h (i + 1) (by omega)
      rw [Nat.succ_mul, Nat.add_comm (i * k) k, ← Nat.add_assoc] at this
      simpa using this) ih
    simp only [List.map_cons, litsL, h1, h3]
    congr 1
    rw [Nat.succ_mul, Nat.add_comm (n * k) k, List.take_add, List.drop_drop]
theorem cells_of : ∀ (k m : Nat) (t : TypeId) (cs : List Value) (x : DataW H × List MemPlace), flatB P k t = true → DataW.trod enc P w base sp held m t cs = some x → lits x.1 = some cs
  | 0, _, _, _, _, h, _ => by cases h
  | k + 1, m, t, cs, x, h, hd => by
    unfold flatB at h
    split at h
    · rename_i ht
      obtain ⟨n, rfl, rfl, _⟩ := DataW.trod_int ht hd
      rfl
    · rename_i ht
      obtain ⟨n, rfl, rfl⟩ := DataW.trod_bool ht hd
      rfl
    · rename_i ht
      obtain ⟨s, rfl, rfl, _⟩ := DataW.trod_string ht hd
      cases s with | mk a => simp [lits, ByteArray.toList_eq]
    · rename_i fs ht
      obtain ⟨xs, n, rfl, rfl, hl, hxl, hel⟩ := DataW.trod_struct ht hd
      simp only [Bool.and_eq_true] at h
      obtain ⟨hcon, hall⟩ := h
      cases hc : contig P fs.toList 0 with
      | none => rw [hc] at hcon; cases hcon
      | some e =>
        rw [hc] at hcon
        have he := Nat.eq_of_beq_eq_true hcon
        subst he
        have := (fields_cat n cs fs.toList xs 0 _ hc (by simpa using hxl) (fun i f hf => hel i f (by simpa using hf)) (fun f hf cs' x' hx => cells_of k n f.type cs' x' (List.all_eq_true.1 hall f hf) hx)).2
        simp only [lits, this, List.drop_zero, Nat.sub_zero]
        rw [← hl, List.take_length]
    · rename_i n e ht
      obtain ⟨xs, m', rfl, rfl, hl, hxl, hel⟩ := DataW.trod_array ht hd
      simp only [Bool.and_eq_true] at h
      have he := Nat.eq_of_beq_eq_true h.1
      have := elems_cat m' (P.cellsOf e) e cs rfl n xs 0 hxl (fun i hi => by rw [Nat.zero_add]; exact hel i hi) (fun cs' x' hx => cells_of k m' e cs' x' h.2 hx)
      simp only [lits, this, List.drop_zero, he]
      rw [← hl, List.take_length]
    · cases h
theorem rd_of_laid {g n size m : Nat} {t : TypeId} {cs : Array Value} {d : DataW H} {q : List MemPlace} {vs : List Value} (hf : flatB P 5 t = true) (hv : lits d = some vs) (hn : vs.length = n * size)
    (hd : DataW.trod enc P w base sp held m t cs.toList = some (d, q)) (hcell : ∀ j, w.cell? ⟨g, j, none⟩ = cs[j]?) : Rd size (some ⟨g, 0, none⟩) n vs w := by
  have h := cells_of 5 m t _ _ hf hd
  rw [hv] at h
  have h' := Option.some.inj h
  refine ⟨hn, fun _ => ⟨_, rfl, fun j u hu => ?_⟩⟩
  rw [add_none, Nat.zero_add, hcell j, ← Array.getElem?_toList, ← h']
  exact hu
end
end Go.Proofs.YthkjfepbmnabkaaGreatDoor.Sx
