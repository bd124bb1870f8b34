/- Texts joined: SrU, Shelf, SrU2, FmU, Sha6, R1, Be, Sha7, Sha8, Sha9, Pd0, Pd4, Pd5, Box1, RgL, BoxL, Bk1, Bld, Bk2, Box2, Join, Bk3, Bk4, Bk5, Bk6, Bk7, Bk8, Bk9, RgK, MpI, StepG, SumJ, HmL, Rep, Rep2, RoF, Hm1, Srt, Xor, Hm2, Hm3, Hsh, Hsh2, Hsh3, SxTri, Mac, Pie, Pie2, Str, Trn, Turn, Ak5, Ak6, BxP, Rf5, Rt1, Rt2, Rt3, Rt4, Rt5, Tl2, Tl3, TlG, BxL, RgR, TrR, RgN, RgW, RgS, RgV, RgD, Rg0, Rg1, Kn1, RgP, RgS2, RgA, RgH, RgO, SxArg, Laid, Laid2. -/
import Derived.Test.YtgbnaifckclfoaaDoorMRN2
import Derived.Shelf.Small.Bits
import Derived.Shelf.Strconv.Itoa0
import Derived.Shelf.Strconv.Itoa1
import Derived.Shelf.LaysM
import Derived.Shelf.Strconv.Itoa2
import Derived.Shelf.Bits.Mul64
import Derived.Ground.Names2Prog
import Derived.Shelf.Slices.Clone
import Derived.Ground.SlbCloneProg
import Derived.Shelf.Bytes.SlClone
import Derived.Ground.SlbNamesProg
import Derived.Shelf.Bytes.SlJoin
import Derived.Ground.SlgnProg
import Derived.Shelf.SlicesE.Clone
import Derived.Test.YtgbnaifckclfoaaDoorProg
import Derived.Lib.MakeNoZero
import Derived.Laws.Externs
import Derived.Sort.OwnSortedInts
import Derived.Below
import Derived.OpenShut
import Derived.ChangeArms
import Derived.LaidMore
set_option linter.unusedVariables false
set_option linter.unusedSimpArgs false
/- slices.Sort at few numbers: the library's insertion sort, walked. -/
namespace Go.Proofs.YtgbnaifckclfoaaDoor.Sx
open Go
attribute [local irreducible] Calls

theorem isNaNU_c (w : World) (x : Int) : Pu Tryd.prog n_cmp_isNaN_uint64 #[.int .u64 x] w (.bool false) := by
  have g := good_cmp_isNaN_uint64 w (Un [])
  refine con_of_sx (cx := cx_cmp_isNaN_uint64 w (Un [])) g b_cmp_isNaN_uint64 rfl rfl (β := Va.z) [.c (.v (.int .u64 x))] 0 [] [] rfl rfl (Sat.start rfl) ?_
  intro β w' hs
  refine hs.fin [] ⟨?_, rfl⟩
  show Value.bool (!decide (x = x)) = _
  simp
theorem lessU_c (w : World) (x y : Int) : Pu Tryd.prog n_cmp_Less_uint64 #[.int .u64 x, .int .u64 y] w (.bool (decide (x < y))) := by
  have g := good_cmp_Less_uint64 w (Un [])
  refine con_of_sx (cx := cx_cmp_Less_uint64 w (Un [])) g b_cmp_Less_uint64 rfl rfl (β := Va.z) [.c (.v (.int .u64 x)), .c (.v (.int .u64 y))] 0 [] [] rfl rfl (Sat.start rfl) ?_
  refine call_pu (fun β w' hs => isNaNU_c w' x) ?_
  intro β w' hs
  exact hs.fin [] ⟨rfl, rfl⟩
/-! ### plainly -/
def at0 (l : List Int) (q : Nat) : Int := l.getD q 0
def sw (l : List Int) (j : Nat) : List Int := (l.set j (at0 l (j - 1))).set (j - 1) (at0 l j)
theorem at0_some {l : List Int} {q : Nat} (h : q < l.length) : l[q]? = some (at0 l q) := by
  simp [at0, List.getD, h]
theorem sw_len (l : List Int) (j : Nat) : (sw l j).length = l.length := by simp [sw]
theorem sw_get {l : List Int} {j : Nat} (h1 : 1 ≤ j) (h2 : j < l.length) (q : Nat) : at0 (sw l j) q = if q = j - 1 then at0 l j else if q = j then at0 l (j - 1) else at0 l q := by
  unfold sw at0
  simp only [List.getD_eq_getElem?_getD, List.getElem?_set, List.length_set]
  by_cases a : j - 1 = q
  · have a' : q = j - 1 := a.symm
    rw [if_pos a, if_pos (by omega), if_pos a']
    rfl
  · have a' : ¬ q = j - 1 := fun e => a e.symm
    rw [if_neg a, if_neg a']
    by_cases b : j = q
    · have b' : q = j := b.symm
      rw [if_pos b, if_pos h2, if_pos b']
      rfl
    · have b' : ¬ q = j := fun e => b e.symm
      rw [if_neg b, if_neg b']
theorem sw_perm {l : List Int} {j : Nat} (h1 : 1 ≤ j) (h2 : j < l.length) : (sw l j).Perm l := by
  have e1 : at0 l (j - 1) = l[j - 1]'(by omega) := by simp [at0, List.getD, List.getElem?_eq_getElem (show j - 1 < l.length by omega)]
  have e2 : at0 l j = l[j] := by simp [at0, List.getD, List.getElem?_eq_getElem h2]
  unfold sw
  rw [e1, e2]
  exact List.set_set_perm h2 (by omega)
/-- All but what stands at j rise, up to i. -/
def But (l : List Int) (i j : Nat) : Prop := ∀ p q, p < q → q ≤ i → q ≠ j → at0 l p ≤ at0 l q
def Upto (l : List Int) (i : Nat) : Prop := ∀ p q, p < q → q < i → at0 l p ≤ at0 l q
theorem But.start {l : List Int} {i : Nat} (h : Upto l i) : But l i i := fun p q h1 h2 h3 => h p q h1 (by omega)
theorem But.swap {l : List Int} {i j : Nat} (h : But l i j) (h1 : 1 ≤ j) (h2 : j ≤ i) (h3 : i < l.length) (hlt : at0 l j < at0 l (j - 1)) : But (sw l j) i (j - 1) := by
  intro p q hpq hq hne
  rw [sw_get h1 (by omega), sw_get h1 (by omega), if_neg hne]
  by_cases b : q = j
  · subst b
    rw [if_pos rfl]
    by_cases a : p = q - 1
    · rw [if_pos a]
      omega
    · rw [if_neg a, if_neg (by omega)]
      exact h p (q - 1) (by omega) (by omega) (by omega)
  · rw [if_neg b]
    by_cases a : p = j - 1
    · rw [if_pos a]
      exact h j q (by omega) hq b
    · rw [if_neg a]
      by_cases c : p = j
      · rw [if_pos c]
        exact h (j - 1) q (by omega) hq b
      · rw [if_neg c]
        exact h p q hpq hq b
theorem But.done {l : List Int} {i j : Nat} (h : But l i j) (h2 : j ≤ i) (hj : 1 ≤ j → ¬ at0 l j < at0 l (j - 1)) : Upto l (i + 1) := by
  intro p q hpq hq
  by_cases b : q = j
  · subst b
    have h3 := hj (by omega)
    by_cases a : p = q - 1
    · subst a
      omega
    · have := h p (q - 1) (by omega) (by omega) (by omega)
      omega
  · exact h p q hpq (by omega) b
/-! ### the walk -/
theorem uset (l : List Int) (j : Nat) (x : Int) : putAll (l.map (Value.int .u64)) (j * 1) [.int .u64 x] = (l.set j x).map (Value.int .u64) := by
  rw [putAll, putAll, putAt_eq, Nat.mul_one, List.map_set]
theorem insU_c (w : World) (A : Option Addr) (l : List Int) (c : Nat) (hl : l.length ≤ 12) (hm : Mem w [urowF A l c]) :
    Con Tryd.prog n_slices_insertionSortOrdered_uint64 #[.slice A l.length c, .int .i64 0, .int .i64 (l.length : Int)] w [urowF A l c] fun v Fs => v = .tuple #[] ∧ ∃ l', l'.Perm l ∧ Upto l' l.length ∧ Fs = [urowF A l' c] := by
  have g := good_slices_insertionSortOrdered_uint64 w (Un [urowF A l c])
  have hs0 : Sat (cx_slices_insertionSortOrdered_uint64 w (Un [urowF A l c])) Va.z 0 [] [urowF A l c] w := hm.sat0 rfl (fun f hf _ k hk => ⟨f, hf, hk⟩)
  have hA : 0 < l.length → ∃ g0, A = some ⟨g0, 0, none⟩ := fun h => by
    have ho : w.ownsRow 0 ty_uint64 1 (.slice A l.length c) l.length (l.map (Value.int .u64)) := hm.fact _ List.mem_cons_self
    rcases ho.2 with ⟨_, h0⟩ | ⟨g0, cap, cur, hv, _⟩
    · exact absurd h0 (by omega)
    · injection hv with q _ _
      exact ⟨g0, q⟩
  obtain ⟨N, hN⟩ : ∃ N, l.length = N := ⟨_, rfl⟩
  rw [hN] at hl hA ⊢
  refine con_of_sx (cx := cx_slices_insertionSortOrdered_uint64 w (Un [urowF A l c])) g b_slices_insertionSortOrdered_uint64 rfl rfl (β := Va.z) [.c (.v (.slice A N c)), .c (.v (.int .i64 0)), .c (.v (.int .i64 (N : Int)))] 0 [] _ rfl rfl hs0 ?_
  refine ⟨1, rfl, ?_⟩
  refine loop_rule (ι := List Int × Nat) 0 (fun i => [(0, .c (.v (.slice A N c))), (1, .c (.v (.int .i64 0))), (2, .c (.v (.int .i64 (N : Int)))), (6, .c (.v (.int .i64 (i.2 : Int))))]) (fun _ => []) (fun i => [urowF A i.1 c])
    (fun i => i.1.Perm l ∧ 1 ≤ i.2 ∧ Upto i.1 i.2 ∧ i.2 ≤ N + 1) (fun i => N + 1 - i.2) (l, 1) ⟨List.Perm.refl _, Nat.le_refl _, fun p q h1 h2 => by omega, by omega⟩ (Ent.same ⟨rfl, rfl, rfl, rfl, trivial⟩ rfl) g ?_
  rintro ⟨xs, i⟩ ⟨hp, hi1, hu, hiN⟩
  simp only at hp hi1 hu hiN
  have hxl : xs.length = N := by rw [hp.length_eq, hN]
  refine BIf.dec (fun hlt => ?_) (fun hge => ?_)
  · have hlt0 : (i : Int) < N := hlt
    have hiN2 : i < N := by omega
    obtain ⟨g0, rfl⟩ := hA (by omega)
    refine loop_rule (ι := List Int × Nat) 0 (fun y => [(0, .c (.v (.slice (some ⟨g0, 0, none⟩) N c))), (1, .c (.v (.int .i64 0))), (2, .c (.v (.int .i64 (N : Int)))), (6, .c (.v (.int .i64 (i : Int)))), (7, .c (.v (.int .i64 (y.2 : Int))))]) (fun _ => []) (fun y => [urowF (some ⟨g0, 0, none⟩) y.1 c])
      (fun y => y.1.Perm l ∧ But y.1 i y.2 ∧ y.2 ≤ i) (fun y => y.2) (xs, i) ⟨hp, But.start hu, Nat.le_refl _⟩ (Ent.same ⟨rfl, rfl, rfl, rfl, rfl, trivial⟩ rfl) g ?_
    rintro ⟨ys, j⟩ ⟨hyp, hb, hji⟩
    simp only at hyp hb hji
    have hyl : ys.length = N := by rw [hyp.length_eq, hN]
    refine draw_rule g p_slices_insertionSortOrdered_uint64_4 (by kernel_rfl) _ _ Sub.refl ?_
    have hcell : ∀ q, q < N → ∀ {cx : Cx} {β : Va} {w' : World} {n : Nat} {H : List Bk}, Sat cx β n H [urowF (some ⟨g0, 0, none⟩) ys c] w' → w'.cell? ((⟨g0, 0, none⟩ : Addr).add (q * 1)) = some (.int .u64 (at0 ys q)) := by
      intro q hq cx β w' n H hs
      have h := row_rd (hs.get 0 rfl)
      exact Rd.cell1 h (by rw [List.getElem?_map, at0_some (by omega)]; rfl)
    refine BIf.dec (fun hj => ?_) (fun hj => ?_)
    · have hj0 : (0 : Int) < j := hj
      refine ⟨⟨g0, 0, none⟩, j, rfl, rfl, by omega, .int .u64 (at0 ys j), fun β w' hs => hcell j (by omega) hs, ?_⟩
      refine ⟨((j - 1 : Nat) : Int), by rw [wrap_i64 (by omega) (by omega)]; omega, ?_⟩
      refine ⟨⟨g0, 0, none⟩, j - 1, rfl, rfl, by omega, .int .u64 (at0 ys (j - 1)), fun β w' hs => hcell (j - 1) (by omega) hs, ?_⟩
      obtain ⟨bb, hbb⟩ : ∃ bb, decide (at0 ys j < at0 ys (j - 1)) = bb := ⟨_, rfl⟩
      refine call_pu (v := .bool bb) (fun β w' hs => by rw [← hbb]; exact lessU_c w' _ _) ?_
      refine ⟨Sub.refl, ?_⟩
      cases bb with
      | true =>
        have hlt2 : at0 ys j < at0 ys (j - 1) := of_decide_eq_true hbb
        have hS : ∀ {n : Nat} {H : List Bk} {F : List Fact}, Sub (cx_slices_insertionSortOrdered_uint64 w (Un [urowF (some ⟨g0, 0, none⟩) l c])) n H F [] [] := fun {n H F} => Sub.of (List.nil_sublist _) (List.nil_sublist _)
        refine draw_rule g p_slices_insertionSortOrdered_uint64_6 (by kernel_rfl) [] [] hS ?_
        refine ⟨((j - 1 : Nat) : Int), by rw [wrap_i64 (by omega) (by omega)]; omega, ?_⟩
        refine ⟨((j - 1 : Nat) : Int), by rw [wrap_i64 (by omega) (by omega)]; omega, ?_⟩
        refine ⟨⟨g0, 0, none⟩, j - 1, rfl, rfl, by omega, ?_⟩
        refine ⟨⟨g0, 0, none⟩, j, rfl, rfl, by omega, ?_⟩
        have hsl : (sw ys j).length = N := by rw [sw_len, hyl]
        refine ⟨?_, ?_⟩
        · skip
          refine ⟨.int .u64 (at0 ys (j - 1)), fun β w' hs => hcell (j - 1) (by omega) hs, ?_⟩
          refine ⟨hS, ?_⟩
          refine ⟨.int .u64 (at0 ys j), fun β w' hs => hcell j (by omega) hs, ?_⟩
          refine ⟨hS, ?_⟩
          refine ⟨⟨g0, 0, none⟩, j, rfl, rfl, by omega, ?_⟩
          refine ⟨_, fun β w' hs => Sat.rowSet hs (j := 0) (us := [.int .u64 (at0 ys (j - 1))]) rfl (by show j * 1 + 1 ≤ ys.length * 1; omega) (fun u hu => by obtain rfl := List.mem_singleton.1 hu; rfl), ?_⟩
          refine ⟨hS, ?_⟩
          refine ⟨⟨g0, 0, none⟩, j - 1, rfl, rfl, by omega, ?_⟩
          refine ⟨_, fun β w' hs => Sat.rowSet hs (j := 0) (us := [.int .u64 (at0 ys j)]) rfl (by show (j - 1) * 1 + 1 ≤ ys.length * 1; omega) (fun u hu => by obtain rfl := List.mem_singleton.1 hu; rfl), ?_⟩
          refine ⟨hS, ?_⟩
          refine ⟨((j - 1 : Nat) : Int), by rw [wrap_i64 (by omega) (by omega)]; omega, ?_⟩
          exact ⟨(sw ys j, j - 1), ⟨(sw_perm (by omega) (by omega)).trans hyp, hb.swap (by omega) hji (by omega) hlt2, by show j - 1 ≤ i; omega⟩, by show j - 1 < j; omega, Ent.mk' ⟨rfl, rfl, rfl, rfl, rfl, trivial⟩ rfl (fun β w' hs => by
            show Sat _ _ _ _ [rowF ty_uint64 1 (.slice (some ⟨g0, 0, none⟩) (sw ys j).length c) (sw ys j).length ((sw ys j).map (Value.int .u64))] _
            rw [sw_len]
            have e : (sw ys j).map (Value.int .u64) = putAll (putAll (ys.map (Value.int .u64)) (j * 1) [.int .u64 (at0 ys (j - 1))]) ((j - 1) * 1) [.int .u64 (at0 ys j)] := by rw [uset, uset]; rfl
            rw [e]
            exact hs)⟩
        · skip
          refine ⟨.int .u64 (at0 ys j), fun β w' hs => hcell j (by omega) hs, ?_⟩
          refine ⟨hS, ?_⟩
          refine ⟨.int .u64 (at0 ys (j - 1)), fun β w' hs => hcell (j - 1) (by omega) hs, ?_⟩
          refine ⟨hS, ?_⟩
          refine ⟨⟨g0, 0, none⟩, j, rfl, rfl, by omega, ?_⟩
          refine ⟨_, fun β w' hs => Sat.rowSet hs (j := 0) (us := [.int .u64 (at0 ys (j - 1))]) rfl (by show j * 1 + 1 ≤ ys.length * 1; omega) (fun u hu => by obtain rfl := List.mem_singleton.1 hu; rfl), ?_⟩
          refine ⟨hS, ?_⟩
          refine ⟨⟨g0, 0, none⟩, j - 1, rfl, rfl, by omega, ?_⟩
          refine ⟨_, fun β w' hs => Sat.rowSet hs (j := 0) (us := [.int .u64 (at0 ys j)]) rfl (by show (j - 1) * 1 + 1 ≤ ys.length * 1; omega) (fun u hu => by obtain rfl := List.mem_singleton.1 hu; rfl), ?_⟩
          refine ⟨hS, ?_⟩
          refine ⟨((j - 1 : Nat) : Int), by rw [wrap_i64 (by omega) (by omega)]; omega, ?_⟩
          exact ⟨(sw ys j, j - 1), ⟨(sw_perm (by omega) (by omega)).trans hyp, hb.swap (by omega) hji (by omega) hlt2, by show j - 1 ≤ i; omega⟩, by show j - 1 < j; omega, Ent.mk' ⟨rfl, rfl, rfl, rfl, rfl, trivial⟩ rfl (fun β w' hs => by
            show Sat _ _ _ _ [rowF ty_uint64 1 (.slice (some ⟨g0, 0, none⟩) (sw ys j).length c) (sw ys j).length ((sw ys j).map (Value.int .u64))] _
            rw [sw_len]
            have e : (sw ys j).map (Value.int .u64) = putAll (putAll (ys.map (Value.int .u64)) (j * 1) [.int .u64 (at0 ys (j - 1))]) ((j - 1) * 1) [.int .u64 (at0 ys j)] := by rw [uset, uset]; rfl
            rw [e]
            exact hs)⟩
      | false =>
        refine ⟨((i + 1 : Nat) : Int), by rw [wrap_i64 (by omega) (by omega)]; rfl, ?_⟩
        exact ⟨(ys, i + 1), ⟨hyp, by show 1 ≤ i + 1; omega, hb.done hji (fun _ => of_decide_eq_false hbb), by show i + 1 ≤ N + 1; omega⟩, by show N + 1 - (i + 1) < N + 1 - i; omega, Ent.same ⟨rfl, rfl, rfl, rfl, trivial⟩ rfl⟩
    · have hj0 : ¬ (0 : Int) < j := hj
      refine ⟨Sub.refl, ?_⟩
      refine ⟨((i + 1 : Nat) : Int), by rw [wrap_i64 (by omega) (by omega)]; rfl, ?_⟩
      exact ⟨(ys, i + 1), ⟨hyp, by show 1 ≤ i + 1; omega, hb.done hji (fun h => by omega), by show i + 1 ≤ N + 1; omega⟩, by show N + 1 - (i + 1) < N + 1 - i; omega, Ent.same ⟨rfl, rfl, rfl, rfl, trivial⟩ rfl⟩
  · have hge0 : ¬ (i : Int) < N := hge
    intro β w' hs
    exact hs.fin [0] ⟨rfl, xs, hp, fun p q h1 h2 => hu p q h1 (by omega), rfl⟩
end Go.Proofs.YtgbnaifckclfoaaDoor.Sx

/-
  DERIVED: THE SHELF's CONTRACTS AT THIS DUMP, IN PLAIN WORDS (tools/lay-plain.mjs out of 'TrydShelf.lean', which tools/lay-shelf.mjs wrote): THE SAME DECLARATIONS UNDER THE SAME NAMES: 'import', 'namespace', 'open', 'def', 'theorem' AND NOTHING ELSE: no command of the shelf's: FOR A HAND-IN. Each laying: the table of numbers ('.._ren') and one theorem, a field a fact of the dump's own or the kernel's comparison; each contract: ONE APPLICATION.
-/
namespace Go.Proofs
open Go.Shelf
def Tryd.lays125_ren : Go.Shelf.Ren := ⟨fun | 125 => 43 | 128 => 65 | 129 => 52 | n => n, fun | 46 => 86 | 3 => 3 | 51 => 90 | 53 => 22 | 4 => 4 | 5 => 5 | 9 => 9 | n => n, fun | n => n⟩
theorem Tryd.lays125 : Go.Proofs.Lays.n125 Tryd.prog Tryd.lays125_ren := {
  mixed := by kernel_rfl
  f125 := Tryd.func43.trans (congrArg some (by kernel_rfl))
  f128 := Tryd.func65.trans (congrArg some (by kernel_rfl))
  f129 := Tryd.func52.trans (congrArg some (by kernel_rfl))
  t3 := Tryd.underlying3
  a3 := Tryd.isAgg3
  z3 := Tryd.sizeOf3
  v3 := Tryd.zeroValue3
  t4 := Tryd.underlying4
  a4 := Tryd.isAgg4
  z4 := Tryd.sizeOf4
  v4 := Tryd.zeroValue4
  t5 := Tryd.underlying5
  a5 := Tryd.isAgg5
  z5 := Tryd.sizeOf5
  v5 := Tryd.zeroValue5
  t9 := Tryd.underlying9
  a9 := Tryd.isAgg9
  z9 := Tryd.sizeOf9
  v9 := Tryd.zeroValue9
  t46 := Tryd.underlying86
  a46 := Tryd.isAgg86
  z46 := Tryd.sizeOf86
  v46 := Tryd.zeroValue86
  t51 := Tryd.underlying90
  a51 := Tryd.isAgg90
  z51 := Tryd.sizeOf90
  v51 := Tryd.zeroValue90
  t53 := Tryd.underlying22
  a53 := Tryd.isAgg22
  z53 := Tryd.sizeOf22
  v53 := Tryd.zeroValue22 }
/-- bits.Len: "Len returns the minimum number of bits required to represent x; the result is 0 for x == 0.": IT RETURNS 'Lib.bitLen x'; the world is as it was. (A uint has 64 bits in the model.) ITS CALLEE bits.Len64 IS MET BY ITS OWN CONTRACT OFF THE SHELF (lay that first). (LAID: no walk: one application.) -/
theorem Tryd.bits_Len (x : Int) (w : World) (h0 : 0 ≤ x) (h1 : x ≤ 18446744073709551615) :
    Calls Tryd.prog 43 #[.int .u64 x] w fun e w' => e = .returned (.int .i64 (Lib.bitLen x.toNat)) ∧ w' = w := Any.bits_Len Tryd.lays125 x w h0 h1
def Tryd.lays283_ren : Go.Shelf.Ren := ⟨fun | 283 => 38 | n => n, fun | 3 => 3 | 9 => 9 | 4 => 4 | n => n, fun | n => n⟩
theorem Tryd.lays283 : Go.Proofs.Lays.n283 Tryd.prog Tryd.lays283_ren := {
  mixed := by kernel_rfl
  f283 := Tryd.func38.trans (congrArg some (by kernel_rfl))
  t3 := Tryd.underlying3
  a3 := Tryd.isAgg3
  z3 := Tryd.sizeOf3
  v3 := Tryd.zeroValue3
  t4 := Tryd.underlying4
  a4 := Tryd.isAgg4
  z4 := Tryd.sizeOf4
  v4 := Tryd.zeroValue4
  t9 := Tryd.underlying9
  a9 := Tryd.isAgg9
  z9 := Tryd.sizeOf9
  v9 := Tryd.zeroValue9 }
open Go.Lib in
/-- internal/strconv.small: "small returns the string for an i with 0 <= i < nSmalls.": i's decimal numeral. The world is as it was. (LAID: no walk: one application.) -/
theorem Tryd.internal_strconv_small (i : Nat) (h : i < 100) (w : World) :
    Calls Tryd.prog 38 #[.int .i64 i] w fun e w' => e = .returned (.string ⟨(Lib.decDigits i).toArray⟩) ∧ w' = w := Any.internal_strconv_small Tryd.lays283 i h w
def Tryd.lays212_ren : Go.Shelf.Ren := ⟨fun | 212 => 70 | 263 => 81 | 264 => 82 | n => n, fun | 46 => 86 | 51 => 90 | 146 => 126 | 53 => 22 | 148 => 128 | n => n, fun | n => n⟩
theorem Tryd.lays212 : Go.Proofs.Lays.n212 Tryd.prog Tryd.lays212_ren := {
  mixed := by kernel_rfl
  f212 := Tryd.func70.trans (congrArg some (by kernel_rfl))
  f263 := Tryd.func81.trans (congrArg some (by kernel_rfl))
  f264 := Tryd.func82.trans (congrArg some (by kernel_rfl))
  t46 := Tryd.underlying86
  a46 := Tryd.isAgg86
  z46 := Tryd.sizeOf86
  v46 := Tryd.zeroValue86
  t51 := Tryd.underlying90
  a51 := Tryd.isAgg90
  z51 := Tryd.sizeOf90
  v51 := Tryd.zeroValue90
  t53 := Tryd.underlying22
  a53 := Tryd.isAgg22
  z53 := Tryd.sizeOf22
  v53 := Tryd.zeroValue22
  t146 := Tryd.underlying126
  a146 := Tryd.isAgg126
  z146 := Tryd.sizeOf126
  v146 := Tryd.zeroValue126
  t148 := Tryd.underlying128
  a148 := Tryd.isAgg128
  z148 := Tryd.sizeOf128
  v148 := Tryd.zeroValue128 }
open Go.RowKit Go.Lib in
/-- math/bits.Mul: "Mul returns the full-width product of x and y": on a machine of 64 bits: Mul64's. (LAID: no walk: one application.) -/
theorem Tryd.bits_Mul (x y : Nat) (hx : x < 18446744073709551616) (hy : y < 18446744073709551616) (w : World) :
    Calls Tryd.prog 70 #[.int .u64 x, .int .u64 y] w fun e w' => e = .returned (.tuple #[.int .u64 ((x * y / 18446744073709551616 : Nat) : Int), .int .u64 ((x * y % 18446744073709551616 : Nat) : Int)]) ∧ w' = w := Any.bits_Mul Tryd.lays212 x y hx hy w
def Tryd.laysSlJ14_ren : Go.Shelf.Ren := ⟨fun | 14 => 27 | 15 => 35 | n => n, fun | 26 => 57 | 22 => 23 | 3 => 3 | 4 => 4 | 0 => 0 | 9 => 9 | 20 => 20 | 5 => 5 | n => n, fun | n => n⟩
theorem Tryd.laysSlJ14 : Go.Proofs.SlLaysJ.n14 Tryd.prog Tryd.laysSlJ14_ren := {
  mixed := by kernel_rfl
  f14 := Tryd.func27.trans (congrArg some (by kernel_rfl))
  f15 := Tryd.func35.trans (congrArg some (by kernel_rfl))
  t0 := Tryd.underlying0
  a0 := Tryd.isAgg0
  z0 := Tryd.sizeOf0
  v0 := Tryd.zeroValue0
  t3 := Tryd.underlying3
  a3 := Tryd.isAgg3
  z3 := Tryd.sizeOf3
  v3 := Tryd.zeroValue3
  t4 := Tryd.underlying4
  a4 := Tryd.isAgg4
  z4 := Tryd.sizeOf4
  v4 := Tryd.zeroValue4
  t9 := Tryd.underlying9
  a9 := Tryd.isAgg9
  z9 := Tryd.sizeOf9
  v9 := Tryd.zeroValue9
  t20 := Tryd.underlying20
  a20 := Tryd.isAgg20
  z20 := Tryd.sizeOf20
  v20 := Tryd.zeroValue20
  t22 := Tryd.underlying23
  a22 := Tryd.isAgg23
  z22 := Tryd.sizeOf23
  v22 := Tryd.zeroValue23
  t26 := Tryd.underlying57
  a26 := Tryd.isAgg57
  z26 := Tryd.sizeOf57
  v26 := Tryd.zeroValue57
  t5 := Tryd.underlying5
  z5 := Tryd.sizeOf5
  i5 := by kernel_rfl }
open Go.RowKit Go.Lib in
theorem Tryd.bytes_Join_many (b o n c : Nat) (vs : List Value) (ls : List (List UInt8)) (sv : Value) (sep : List UInt8) (w : World) (hn : ls.length = n) (h2 : 2 ≤ n) (hP : Lib.PartsAt w ⟨b, o, none⟩ vs ls) (hcap : n ≤ c) (hS : Lib.HoldsBytes w sv sep) (hn47 : n ≤ 140737488355328) (hlen : Lib.lens ls + sep.length * (n - 1) ≤ 140737488355328) :
    Calls Tryd.prog 27 #[.slice (some ⟨b, o, none⟩) n c, sv] w fun e w' => ∃ v', e = .returned v' ∧ Lib.FreshBytes w.heap.size w' v' (Lib.join ls sep) ∧ Below w.heap.size w w' := Any.bytes_Join_many Tryd.laysSlJ14 b o n c vs ls sv sep w hn h2 hP hcap hS hn47 hlen
end Go.Proofs

/- slices.Sort and slices.Sorted at few numbers. -/
namespace Go.Proofs.YtgbnaifckclfoaaDoor.Sx
open Go
attribute [local irreducible] Calls

theorem pdqU_c (w : World) (A : Option Addr) (l : List Int) (c : Nat) (m : Int) (hl : l.length ≤ 12) (hm : Mem w [urowF A l c]) :
    Con Tryd.prog n_slices_pdqsortOrdered_uint64 #[.slice A l.length c, .int .i64 0, .int .i64 (l.length : Int), .int .i64 m] w [urowF A l c] fun v Fs => v = .tuple #[] ∧ ∃ l', l'.Perm l ∧ Upto l' l.length ∧ Fs = [urowF A l' c] := by
  have g := good_slices_pdqsortOrdered_uint64 w (Un [urowF A l c])
  have hs0 : Sat (cx_slices_pdqsortOrdered_uint64 w (Un [urowF A l c])) Va.z 0 [] [urowF A l c] w := hm.sat0 rfl (fun f hf _ k hk => ⟨f, hf, hk⟩)
  refine con_of_sx (cx := cx_slices_pdqsortOrdered_uint64 w (Un [urowF A l c])) g b_slices_pdqsortOrdered_uint64 rfl rfl (β := Va.z) [.c (.v (.slice A l.length c)), .c (.v (.int .i64 0)), .c (.v (.int .i64 (l.length : Int))), .c (.v (.int .i64 m))] 0 [] _ rfl rfl hs0 ?_
  refine loop_rule 0 (fun _ : Unit => [(0, .c (.v (.slice A l.length c))), (1, .c (.v (.int .i64 0))), (2, .c (.v (.int .i64 (l.length : Int))))]) (fun _ => []) (fun _ => [urowF A l c]) (fun _ => True) (fun _ => 0) () trivial (Ent.same ⟨rfl, rfl, rfl, trivial⟩ rfl) g ?_
  rintro ⟨⟩ -
  refine ⟨(l.length : Int), by rw [Int.sub_zero, wrap_i64 (by omega) (by omega)], ?_⟩
  refine BIf.dec (fun _ => ?_) (fun h => absurd (show (l.length : Int) ≤ 12 by omega) h)
  refine call_con [0] (fun β w' hs => insU_c w' A l c hl (hs.mem.take (js := [0]) rfl)) ?_
  rintro v Fs ⟨rfl, l', h1, h2, rfl⟩
  intro β w' hs
  exact hs.fin [0] ⟨rfl, l', h1, h2, rfl⟩
theorem bitsU_c (x : Nat) (hx : x < 18446744073709551616) : ∃ r : Int, ∀ w, Pu Tryd.prog n_math_bits_Len #[.int .u64 (x : Int)] w (.int .i64 r) := by
  refine ⟨((Lib.bitLen (x : Int).toNat : Nat) : Int), fun w => pu_of (Calls.mono (Tryd.bits_Len (x : Int) w (by omega) (by omega)) ?_)⟩
  rintro e w' ⟨rfl, rfl⟩
  exact ⟨_, rfl, rfl, Chg.refl _ _⟩
theorem sortU_c (w : World) (A : Option Addr) (l : List Int) (c : Nat) (hl : l.length ≤ 12) (hm : Mem w [urowF A l c]) :
    Con Tryd.prog n_slices_Sort_uint64_uint64 #[.slice A l.length c] w [urowF A l c] fun v Fs => v = .tuple #[] ∧ ∃ l', l'.Perm l ∧ Upto l' l.length ∧ Fs = [urowF A l' c] := by
  have g := good_slices_Sort_uint64_uint64 w (Un [urowF A l c])
  have hs0 : Sat (cx_slices_Sort_uint64_uint64 w (Un [urowF A l c])) Va.z 0 [] [urowF A l c] w := hm.sat0 rfl (fun f hf _ k hk => ⟨f, hf, hk⟩)
  refine con_of_sx (cx := cx_slices_Sort_uint64_uint64 w (Un [urowF A l c])) g b_slices_Sort_uint64_uint64 rfl rfl (β := Va.z) [.c (.v (.slice A l.length c))] 0 [] _ rfl rfl hs0 ?_
  refine ⟨(l.length : Int), by rw [wrap_u64']; omega, ?_⟩
  obtain ⟨r, hr⟩ := bitsU_c l.length (by omega)
  refine call_pu (fun β w' hs => hr w') ?_
  refine call_con [0] (fun β w' hs => pdqU_c w' A l c r hl (hs.mem.take (js := [0]) rfl)) ?_
  rintro v Fs ⟨rfl, l', h1, h2, rfl⟩
  intro β w' hs
  exact hs.fin [0] ⟨rfl, l', h1, h2, rfl⟩
theorem rising_of {l : List Int} (h : Upto l l.length) : l.Pairwise (· ≤ ·) := by
  rw [List.pairwise_iff_getElem]
  intro p q hp hq hpq
  have := h p q hpq hq
  simpa [at0, List.getD, hp, hq] using this
theorem sortedN_c (w : World) (k : FuncId) (bx : Nat) (ty : TypeId) (cs : List Value) (G G' : Fact) (n : Nat) (P : List Int → Prop) (hcall : callable Tryd.prog k = true) (hG : G.own = true) (hG' : G'.own = true) (hn : n ≤ 12) (hg : GivesN k bx ty cs G G' n P) (hm : Mem w [bkF bx ty cs, G]) :
    Con Tryd.prog 22 #[.func (.func k) #[] #[.pointer (some ⟨bx, 0, none⟩)]] w [bkF bx ty cs, G] fun v Fs => ∃ A c l, v = .slice A l.length c ∧ (∃ l0, P l0 ∧ l.Perm l0) ∧ l.length ≤ n ∧ l.Pairwise (· ≤ ·) ∧ (0 < l.length → ∃ ad, A = some ad) ∧ Fs = [urowF A l c, G'] := by
  have g := good_slices_Sorted_uint64 w (Un [bkF bx ty cs, G])
  have hs0 : Sat (cx_slices_Sorted_uint64 w (Un [bkF bx ty cs, G])) Va.z 0 [] [bkF bx ty cs, G] w := hm.sat0 rfl (fun f hf _ k hk => ⟨f, hf, hk⟩)
  refine con_of_sx (cx := cx_slices_Sorted_uint64 w (Un [bkF bx ty cs, G])) g b_slices_Sorted_uint64 rfl rfl (β := Va.z) [.c (.v (.func (.func k) #[] #[.pointer (some ⟨bx, 0, none⟩)]))] 0 [] _ rfl rfl hs0 ?_
  refine call_con [0, 1] (hown := ⟨rfl, hG, trivial⟩) (fun β w' hs => collectN_c w' k bx ty cs G G' n P hcall hG hG' (by omega) hg (hs.mem.take (js := [0, 1]) rfl)) ?_
  rintro v Fs ⟨A, c, l, rfl, hP, hlen, hA, rfl⟩
  refine call_con [0] (fun β w' hs => sortU_c w' A l c (by omega) (hs.mem.take (js := [0]) rfl)) ?_
  rintro v Fs ⟨rfl, l', h1, h2, rfl⟩
  have hl := h1.length_eq
  intro β w' hs
  refine hs.fin [0, 1] ⟨A, c, l', by rw [hl]; rfl, ⟨l, hP, h1⟩, by omega, rising_of (by rw [hl]; exact h2), by rw [hl]; exact hA, rfl⟩ rfl rfl rfl ⟨rfl, hG', trivial⟩
end Go.Proofs.YtgbnaifckclfoaaDoor.Sx

/- strconv.FormatUint at small numbers. -/
namespace Go.Proofs.YtgbnaifckclfoaaDoor.Sx
open Go
attribute [local irreducible] Calls

/-- A number's decimal numeral. -/
def decS (u : Nat) : ByteArray := ⟨(Lib.decDigits u).toArray⟩
theorem smallU_c (w : World) (u : Nat) (hu : u < 100) : Pu Tryd.prog n_internal_strconv_small #[.int .i64 (u : Int)] w (.string (decS u)) := by
  refine pu_of (Calls.mono (Tryd.internal_strconv_small u hu w) ?_)
  rintro e w' ⟨rfl, rfl⟩
  exact ⟨_, rfl, rfl, Chg.refl _ _⟩
theorem fmtI_c (w : World) (u : Nat) (hu : u < 100) : Pu Tryd.prog n_internal_strconv_FormatUint #[.int .u64 (u : Int), .int .i64 10] w (.string (decS u)) := by
  obtain ⟨x, hx⟩ : ∃ x : Int, (u : Int) = x := ⟨_, rfl⟩
  rw [hx]
  refine con_of_sx (cx := cx_internal_strconv_FormatUint w (Un [])) (good_internal_strconv_FormatUint w (Un [])) b_internal_strconv_FormatUint rfl rfl (β := Va.z) [.c (.v (.int .u64 x)), .c (.v (.int .i64 10))] 0 [] [] rfl rfl (Sat.start rfl) ?_
  refine BIf.dec (fun _ => ?_) (fun h => absurd (show x < 100 by omega) h)
  refine ⟨x, by rw [wrap_i64 (by omega) (by omega)], ?_⟩
  refine call_pu (fun β w' hs => by rw [← hx]; exact smallU_c w' u hu) ?_
  intro β w' hs
  exact hs.fin [] ⟨rfl, rfl⟩
theorem fmtU_c (w : World) (u : Nat) (hu : u < 100) : Pu Tryd.prog n_strconv_FormatUint #[.int .u64 (u : Int), .int .i64 10] w (.string (decS u)) := by
  refine con_of_sx (cx := cx_strconv_FormatUint w (Un [])) (good_strconv_FormatUint w (Un [])) b_strconv_FormatUint rfl rfl (β := Va.z) [.c (.v (.int .u64 (u : Int))), .c (.v (.int .i64 10))] 0 [] [] rfl rfl (Sat.start rfl) ?_
  refine call_pu (fun β w' hs => fmtI_c w' u hu) ?_
  intro β w' hs
  exact hs.fin [] ⟨rfl, rfl⟩
end Go.Proofs.YtgbnaifckclfoaaDoor.Sx

/- The sum of a text. -/
namespace Go.Proofs.YtgbnaifckclfoaaDoor.Sx
open Go Sha
attribute [local irreducible] Calls

theorem rd_sub_row {e size k n c : Nat} {A : Option Addr} {xs ys : List Value} : ∀ g, (rdF size A k xs).D g → (rowF e size (.slice A n c) n ys).D g := by
  rintro g ⟨_, ad, rfl, rfl⟩
  rfl
/-- The last one is only read. -/
theorem Mem.lastRd {w : World} {f R X : Fact} {e c : Nat} {A : Option Addr} {l : List UInt8} (h : Mem w [f, R, X, browF e A l c]) : Mem w [f, R, X, bsF A l] := by
  have hp : Bs w A l := row_rd (h.fact (browF e A l c) (by simp))
  refine ⟨fun g hg => ?_, fun g hg k hk => ?_, ?_⟩
  · simp only [List.mem_cons, List.not_mem_nil, or_false] at hg
    rcases hg with rfl | rfl | rfl | rfl
    · exact h.fact _ (by simp)
    · exact h.fact _ (by simp)
    · exact h.fact _ (by simp)
    · exact hp
  · simp only [List.mem_cons, List.not_mem_nil, or_false] at hg
    rcases hg with rfl | rfl | rfl | rfl
    · exact h.flt g (by simp) k hk
    · exact h.flt g (by simp) k hk
    · exact h.flt g (by simp) k hk
    · exact h.flt (browF e A l c) (by simp) k (rd_sub_row k hk)
  · obtain ⟨h1, h2⟩ := List.pairwise_cons.1 h.sepf
    obtain ⟨h3, h4⟩ := List.pairwise_cons.1 h2
    obtain ⟨h5, _⟩ := List.pairwise_cons.1 h4
    refine List.pairwise_cons.2 ⟨fun g hg ho => ?_, List.pairwise_cons.2 ⟨fun g hg ho => ?_, List.pairwise_cons.2 ⟨fun g hg ho => ?_, List.pairwise_singleton _ _⟩⟩⟩
    · simp only [List.mem_cons, List.not_mem_nil, or_false] at hg
      rcases hg with rfl | rfl | rfl
      · exact h1 _ (by simp) ho
      · exact h1 _ (by simp) ho
      · exact fun k hk q => h1 (browF e A l c) (by simp) (.inr rfl) k hk (rd_sub_row k q)
    · simp only [List.mem_cons, List.not_mem_nil, or_false] at hg
      rcases hg with rfl | rfl
      · exact h3 _ (by simp) ho
      · exact fun k hk q => h3 (browF e A l c) (by simp) (.inr rfl) k hk (rd_sub_row k q)
    · obtain rfl := List.mem_singleton.1 hg
      exact fun k hk q => h5 (browF e A l c) (by simp) (.inr rfl) k hk (rd_sub_row k q)
theorem Blocks_c (w : World) (A : Option Addr) (n c : Nat) : Con Tryd.prog n_sha_Blocks #[.slice A n c] w [] (fun v Fs => ∃ bx, v = .func (.func n_sha_Blocks_1) #[] #[.pointer (some ⟨bx, 0, none⟩)] ∧ Fs = [bkF bx ty_sl_uint8 [.slice A n c]]) := by
  refine con_of_sx (cx := cx_sha_Blocks w (Un [])) (good_sha_Blocks w (Un [])) b_sha_Blocks rfl rfl (β := Va.z) [.c (.v (.slice A n c))] 0 [] [] rfl rfl (Sat.start rfl) ?_
  intro β w' hs
  exact hs.ofBk.fin [0] ⟨β 0, rfl, rfl⟩
/-- One part. -/
theorem join1_c (w : World) (P A : Option Addr) (cP c : Nat) (l : List UInt8) (hP : Rd 1 P 1 [.slice A l.length c] w) (hr : Bs w A l) (hn : l.length ≤ 140737488355328) :
    Con Tryd.prog n_bytes_Join #[.slice P 1 cP, .slice none 0 0] w [] fun v Fs => ∃ A' c', v = .slice A' l.length c' ∧ l.length ≤ c' ∧ c' ≤ maxLen ∧ Fs = [browF ty_uint8 A' l c'] := by
  have hs0 : Sat (cx_bytes_Join w (Un [])) Va.z 0 [] [oldF w] w := old_sat rfl
  refine con_of_sx (cx := cx_bytes_Join w (Un [])) (good_bytes_Join w (Un [])) b_bytes_Join rfl rfl (β := Va.z) [.c (.v (.slice P 1 cP)), .c (.v (.slice none 0 0))] 0 [] [browF ty_uint8 none [] 0, oldF w] rfl rfl (hs0.nilRow _ _) ?_
  obtain ⟨ad, rfl, hc⟩ := hP.2 (by decide)
  refine ⟨ad, 0, rfl, rfl, by decide, .slice A l.length c, fun β w' hs => ?_, ?_⟩
  · have h1 : Rd 1 (some ad) 1 [.slice A l.length c] w' := hP.old (hs.get 1 rfl)
    obtain ⟨ad', h2, h3⟩ := h1.2 (by decide)
    obtain rfl := Option.some.inj h2
    exact h3 0 _ rfl
  refine ⟨0, 0, l.length, [], l.map byte, _, rfl, fun β w' hs => hr.old (hs.get 1 rfl), bytes_one l, Nat.zero_add _, rfl, by rw [maxLen_eq]; omega, by show l.length * 1 ≤ _; omega, ?_⟩
  intro A' c' h1 h2 h3 β w' hs
  exact hs.fin [0] ⟨A', c', rfl, h1, h2, rfl⟩

theorem step64_c (w : World) (b ty : Nat) (s : S8) (A : Option Addr) (x : List UInt8) (hx : x.length = 64) (hm : Mem w [stF b ty s, bsF A x, oddF 3]) :
    Con Tryd.prog n_sha_state_step #[.pointer (some ⟨b, 0, none⟩), .slice A 64 64] w [stF b ty s] fun v Fs => v = .tuple #[] ∧ Fs = [stF b ty (Sha.step s x)] := by
  have := step_c w b ty s A x 64 hm (by omega) (by omega) (by decide)
  rw [hx] at this
  exact this

/-- The tables that are read. -/
def firstF (g : Nat) : Fact := rdF 1 (some ⟨g, 0, none⟩) 8 (Sha.first.l.map u32)
theorem sum1_c (w : World) (P A : Option Addr) (cP c : Nat) (l : List UInt8) (hP : Rd 1 P 1 [.slice A l.length c] w) (hr : Bs w A l) (hn : l.length ≤ 70368744177664) (h1 : (oddF 3).p w) (h0 : (firstF 1).p w) :
    Con Tryd.prog n_sha_Sum #[.slice P 1 cP] w [] fun v Fs => ∃ A' c', v = .slice A' 32 c' ∧ 32 ≤ c' ∧ c' ≤ maxLen ∧ Fs = [browF ty_uint8 A' (Sha.sum l) c'] := by
  have g := good_sha_Sum w (Un [])
  have hs0 : Sat (cx_sha_Sum w (Un [])) Va.z 0 [] [oldF w] w := old_sat rfl
  have hs1 : Sat (cx_sha_Sum w (Un [])) Va.z 0 [] [oddF 3, oldF w] w := hs0.sub 0 rfl rfl _ rfl h1 (rd_lt h1)
  refine con_of_sx (cx := cx_sha_Sum w (Un [])) g b_sha_Sum rfl rfl (β := Va.z) [.c (.v (.slice P 1 cP))] 0 [] [oddF 3, oldF w] rfl rfl hs1 ?_
  refine ⟨Sha.first.l.map u32, rfl, fun β w' hs j u hu => ?_, ?_⟩
  · have h2 : Rd 1 (some ⟨1, 0, none⟩) 8 (Sha.first.l.map u32) w' := Rd.old h0 (hs.get 1 rfl)
    obtain ⟨ad, h3, h4⟩ := h2.2 (by decide)
    obtain rfl := Option.some.inj h3
    exact h4 j u hu
  refine call_con [] (fun β w' hs => join1_c w' P A cP c l (hP.old (hs.get 1 rfl)) (hr.old (hs.get 1 rfl)) (by omega)) ?_
  rintro v Fs ⟨A1, c1, rfl, h2, h3, rfl⟩
  refine call_con [] (fun β w' hs => Blocks_c w' A1 l.length c1) ?_
  rintro v Fs ⟨bx, rfl, rfl⟩
  refine reify_rule g 0 (fun _ => Sha.first.l.map u32) rfl rfl (fun _ => rfl) (fun sb => ?_)
  obtain ⟨q, hq⟩ : ∃ q, l ++ ends l.length = q := ⟨_, rfl⟩
  have hsum : Sha.sum l = out ((blks q (q.length / 64)).foldl Sha.step Sha.first) := by rw [← go_eq, ← hq]; rfl
  rw [hsum]
  refine range_rule (α := List UInt8) (ι := S8) (κ := S8) g rfl (cv := [.pointer (some ⟨bx, 0, none⟩)]) rfl (by kernel_rfl) 1 (Nat.le_refl 1)
    (fun pre s => s = pre.foldl Sha.step Sha.first) (fun _ => []) (fun s => [stF sb 92 s]) (fun _ => ⟨rfl, trivial⟩)
    (fun _ _ _ => False) (fun _ => []) (fun _ => []) (fun _ => trivial)
    [bkF bx ty_sl_uint8 [.slice A1 l.length c1]] [browF ty_uint8 A1 l c1] [oddF 3] ⟨rfl, trivial⟩ (fun g hg => by obtain rfl := List.mem_singleton.1 hg; rfl)
    Sha.first rfl (fun β w' hs => ⟨β, Agr.refl _ _, hs.perm [1, 2, 0, 3]⟩) (fun _ => insB)
    (fun xs Fs' => xs = blks q (q.length / 64) ∧ Fs' = []) (fun _ Fs' => Fs' = [])
    (fun l' w' f0 R J Jx hJ0 hJo hRo hY hm => (blocks_it l' w' bx A1 l c1 f0 R J Jx hJ0 hJo hRo hY hn hm.lastRd).mono fun _ Fs h => by rw [hq] at h; exact h) ?_ ?_ ?_
  · rintro s pre x args X W S l' bs pn pn' hbs hpre ⟨hx, B, rfl, rfl⟩
    refine ⟨_, rfl, ?_⟩
    refine call_con [1] (fun β w' hs => step64_c w' sb 92 s B x hx (hs.mem.take (js := [1, 0, 2]) rfl)) ?_
    rintro v Fs ⟨rfl, rfl⟩
    refine ⟨Sha.step s x, by show Sha.step s x = (pre ++ [x]).foldl Sha.step Sha.first; rw [List.foldl_append, hpre]; rfl, Ent.mk' trivial rfl (fun β w' hs => ?_)⟩
    exact hs.weaken (List.Sublist.refl _) (List.Sublist.cons_cons _ (List.nil_sublist _))
  · rintro xs s Fs hpre ⟨rfl, rfl⟩
    refine call_con [0] (fun β w' hs => stbytes_c w' sb 92 s (hs.mem.take (js := [0]) rfl)) ?_
    rintro v Fs ⟨A3, c3, rfl, h5, h6, rfl⟩
    intro β w' hs
    refine hs.fin [1] ⟨A3, c3, rfl, h5, h6, ?_⟩
    rw [← hpre]
    rfl
  · rintro e pre s Fs h _
    exact h.elim
end Go.Proofs.YtgbnaifckclfoaaDoor.Sx

/- The references' small words on bytes. -/
namespace Go.Proofs.YtgbnaifckclfoaaDoor.Sx
open Go
attribute [local irreducible] Calls

end Go.Proofs.YtgbnaifckclfoaaDoor.Sx

/- The references' bytes of a number. -/
namespace Go.Proofs.YtgbnaifckclfoaaDoor.Sx
open Go
attribute [local irreducible] Calls

/-- A number's bytes, the highest first. -/
def be : Nat → Nat → List UInt8
  | 0, _ => []
  | k + 1, n => be k (n / 256) ++ [UInt8.ofNat (n % 256)]
theorem ofNat_toNat (n : Nat) (h : n < 256) : (UInt8.ofNat n).toNat = n := by simp; omega
theorem wrap_u8 (x : Int) : IntKind.u8.wrap x = x % 256 := by simp [IntKind.wrap, IntKind.bits, IntKind.signed]

theorem NewRow.none (w w' : World) (e : Nat) : NewRow w w' none [] 0 e :=
  ⟨Nat.le_refl _, Nat.zero_le _, World.ownsRow_nil w' 0 e 1, fun k hk => by cases hk⟩
theorem NewRow.from {w w1 w' : World} {A : Option Addr} {l : List UInt8} {c e : Nat} (h : NewRow w1 w' A l c e) (hs : w.heap.size ≤ w1.heap.size) : NewRow w w' A l c e :=
  ⟨h.1, h.2.1, h.2.2.1, fun k hk => Nat.le_trans hs (h.2.2.2 k hk)⟩

end Go.Proofs.YtgbnaifckclfoaaDoor.Sx

/- The document's words for sums. -/
namespace Go.Proofs.YtgbnaifckclfoaaDoor.Sx
open Go Sha
attribute [local irreducible] Calls

theorem be4 (x : UInt32) : be 4 x.toNat = b4 x := by
  have hx := x.toNat_lt
  simp only [be, b4, List.nil_append, List.cons_append]
  have e : ∀ n, n < 256 → ∀ y : UInt8, y.toNat = n → UInt8.ofNat n = y := fun n _ y h => by rw [← h, UInt8.ofNat_toNat]
  have h1 : ∀ k : Nat, k < 32 → (x >>> UInt32.ofNat k).toNat = x.toNat / 2 ^ k := fun k hk => by
    rw [UInt32.toNat_shiftRight, UInt32.toNat_ofNat', Nat.mod_eq_of_lt (show k < 2 ^ 32 by omega), Nat.mod_eq_of_lt hk, Nat.shiftRight_eq_div_pow]
  congr 1
  · exact e _ (by omega) _ (by rw [UInt32.toNat_toUInt8, show (24 : UInt32) = UInt32.ofNat 24 from rfl, h1 24 (by omega)] <;> omega)
  congr 1
  · exact e _ (by omega) _ (by rw [UInt32.toNat_toUInt8, show (16 : UInt32) = UInt32.ofNat 16 from rfl, h1 16 (by omega)] <;> omega)
  congr 1
  · exact e _ (by omega) _ (by rw [UInt32.toNat_toUInt8, show (8 : UInt32) = UInt32.ofNat 8 from rfl, h1 8 (by omega)] <;> omega)
  congr 1
  exact e _ (by omega) _ (by rw [UInt32.toNat_toUInt8])
end Go.Proofs.YtgbnaifckclfoaaDoor.Sx

/- The document's step. -/
namespace Go.Proofs.YtgbnaifckclfoaaDoor.Sx
open Go Sha
attribute [local irreducible] Calls

end Go.Proofs.YtgbnaifckclfoaaDoor.Sx

/- The document's sum. -/
namespace Go.Proofs.YtgbnaifckclfoaaDoor.Sx
open Go Sha
attribute [local irreducible] Calls

end Go.Proofs.YtgbnaifckclfoaaDoor.Sx

/- Texts as bytes. -/
namespace Go.Proofs.YtgbnaifckclfoaaDoor.Sx
open Go Sha
attribute [local irreducible] Calls

end Go.Proofs.YtgbnaifckclfoaaDoor.Sx

/- Secrets compared; texts cut; bytes compared. -/
namespace Go.Proofs.YtgbnaifckclfoaaDoor.Sx
open Go Sha
attribute [local irreducible] Calls

/-- A secret as it lies in memory. -/
structure SecA where
  A0 : Option Addr
  A1 : Option Addr
  A2 : Option Addr
  A3 : Option Addr
  c0 : Nat
  c1 : Nat
  c2 : Nat
  c3 : Nat
  s0 : List UInt8
  s1 : List UInt8
  s2 : List UInt8
  s3 : List UInt8
  it : Int
def SecA.val (x : SecA) : Value := .agg #[.slice x.A0 x.s0.length x.c0, .int .i64 x.it, .slice x.A1 x.s1.length x.c1, .slice x.A2 x.s2.length x.c2, .slice x.A3 x.s3.length x.c3]
def SecA.cells (x : SecA) : List SL := [.v (.slice x.A0 x.s0.length x.c0), .v (.int .i64 x.it), .v (.slice x.A1 x.s1.length x.c1), .v (.slice x.A2 x.s2.length x.c2), .v (.slice x.A3 x.s3.length x.c3)]
structure SecA.Rd (x : SecA) (w : World) : Prop where
  h0 : Bs w x.A0 x.s0
  h1 : Bs w x.A1 x.s1
  h2 : Bs w x.A2 x.s2
  h3 : Bs w x.A3 x.s3

end Go.Proofs.YtgbnaifckclfoaaDoor.Sx

/- Bytes compared without haste. -/
namespace Go.Proofs.YtgbnaifckclfoaaDoor.Sx
open Go Sha
attribute [local irreducible] Calls

theorem ofInt8 (a : UInt8) : BitVec.ofInt 8 (a.toNat : Int) = a.toBitVec := by
  apply BitVec.eq_of_toNat_eq
  rw [BitVec.toNat_ofInt]
  have := a.toNat_lt
  have e : a.toBitVec.toNat = a.toNat := rfl
  rw [e]
  omega
theorem back8 (x : BitVec 8) : IntKind.u8.wrap (x.toNat : Int) = ((UInt8.ofBitVec x).toNat : Int) := by
  rw [wrap_u8]
  have := x.isLt
  have e : (UInt8.ofBitVec x).toNat = x.toNat := rfl
  rw [e]
  omega
theorem xor8 (a b : UInt8) : bits .xor .u8 (a.toNat : Int) (b.toNat : Int) = ((a ^^^ b).toNat : Int) := by
  show IntKind.u8.wrap (((BitVec.ofInt 8 (a.toNat : Int)) ^^^ (BitVec.ofInt 8 (b.toNat : Int))).toNat : Int) = _
  rw [ofInt8, ofInt8, back8]
  rfl
end Go.Proofs.YtgbnaifckclfoaaDoor.Sx

/- Boxes: a new one; how many terms it has. -/
namespace Go.Proofs.YtgbnaifckclfoaaDoor.Sx
open Go Sha
attribute [local irreducible] Calls

end Go.Proofs.YtgbnaifckclfoaaDoor.Sx

/- A ring in memory; its epochs, one by one. -/
namespace Go.Proofs.YtgbnaifckclfoaaDoor.Sx
open Go
attribute [local irreducible] Calls

/-- A key: its epoch, its row. -/
structure RKey where
  e : Nat
  A : Option Addr
  c : Nat
  p : List UInt8
structure Rg where
  b : Nat
  bx : Nat
  mA : Option Addr
  mc : Nat
  master : List UInt8
  room : Nat
  m : Nat
  ks : List RKey
  epoch : Nat
def RKey.v (k : RKey) : Value := .slice k.A k.p.length k.c
def RKey.f (k : RKey) : Fact := browF ty_uint8 k.A k.p k.c
def Rg.vs (r : Rg) : List Value := [.pointer (some ⟨r.bx, 0, none⟩), .slice r.mA r.master.length r.mc, .int .i64 (r.room : Int), .map (some r.m), .int .u64 (r.epoch : Int)]
def Rg.ml (r : Rg) : MLI := r.ks.map fun k => ((k.e : Int), k.v)
/-- A ring, whole. -/
def rgF (r : Rg) : Fact := sepF [bkF r.b ty_ring_Ring r.vs, browF ty_uint8 r.mA r.master r.mc, mapIF .u64 r.m r.ml, sepF (r.ks.map RKey.f)]
theorem rg_bk {r : Rg} {w : World} (h : (rgF r).p w) : (bkF r.b ty_ring_Ring r.vs).p w := h.1 _ (by simp)
theorem rg_map {r : Rg} {w : World} (h : (rgF r).p w) : mapIP .u64 r.m r.ml w := h.1 (mapIF .u64 r.m r.ml) (by simp)
def ptrR (b : Nat) : Value := .pointer (some ⟨b, 0, none⟩)
theorem cell_bk {b ty : Nat} {cs : List Value} {w : World} (h : (bkF b ty cs).p w) {o : Nat} {v : Value} (ho : cs[o]? = some v) : w.cell? ⟨b, o, none⟩ = some v := by
  have hb : w.heap[b]? = some (.cells cs.toArray ty (0, 0)) := h
  rw [cell_of_row w b o _ _ _ hb]
  simpa using ho
def Rg.es (r : Rg) : List Int := r.ks.map fun k => (k.e : Int)
theorem Rg.ml_es (r : Rg) : r.ml.map (·.1) = r.es := by simp [Rg.ml, Rg.es]
def onFst {α β : Type} (pre : List α) (a b : β) : β := match pre with | [] => a | _ :: _ => b
/-- What the epochs' iterator hands over: the ring at the first, nothing then; the epochs rise. -/
def insE (r : Rg) (L : List Int) (pre : List Int) (x : Int) (args : Array Value) (X : Fact) : Prop :=
  args = #[.int .u64 x] ∧ X = onFst pre (rgF r) noF ∧ L[pre.length]? = some x
/-- The epochs, rising. -/
def Rg.rise (r : Rg) : List Int := r.es.mergeSort fun x y => decide (x ≤ y)
theorem rise_of {r : Rg} {l : List Int} (h : l.Perm r.es) (hs : l.Pairwise (· ≤ ·)) : l = r.rise := by
  have h2 := List.pairwise_mergeSort (le := fun x y : Int => decide (x ≤ y)) (fun a b c p q => by simp only [decide_eq_true_eq] at *; omega) (fun a b => by simp only [Bool.or_eq_true, decide_eq_true_eq]; omega) r.es
  refine List.Perm.eq_of_pairwise (le := fun x y => x ≤ y) (fun a b _ _ p q => by omega) hs (h2.imp fun p => of_decide_eq_true p) (h.trans (List.mergeSort_perm _ _).symm)
theorem ep_it (l : Nat) (w : World) (bx : Nat) (r : Rg) (f0 R : Fact) (J Jx : List Int → Fact → Prop) (hL : r.ks.length ≤ 12) (hJ0 : J [] f0) (hJo : ∀ pre f, J pre f → f.own = true) (hRo : R.own = false) (hY : Yc Tryd.prog l J Jx R (insE r r.rise))
    (hm : Mem w (f0 :: R :: [bkF bx ty_ptr_ring_Ring [ptrR r.b], rgF r])) :
    Con Tryd.prog n_ring_Ring_Epochs_1 #[.func (.yield l) #[] #[], .pointer (some ⟨bx, 0, none⟩)] w [f0, bkF bx ty_ptr_ring_Ring [ptrR r.b], rgF r]
      (fun _ Fs => ∃ f Fs', Fs = f :: Fs' ∧ ((∃ xs, J xs f ∧ xs = r.rise ∧ Fs' = onFst r.rise [rgF r] []) ∨ (∃ pre, Jx pre f ∧ Fs' = []))) := by
  have g := good_ring_Ring_Epochs_1 w (Un [f0, bkF bx ty_ptr_ring_Ring [ptrR r.b], rgF r]) [bx]
  have hs0 : Sat (cx_ring_Ring_Epochs_1 w (Un [f0, bkF bx ty_ptr_ring_Ring [ptrR r.b], rgF r]) [bx]) (Va.of fun _ => bx) 1 [] (f0 :: R :: [bkF bx ty_ptr_ring_Ring [ptrR r.b], rgF r]) w := by
    refine hm.sat rfl (fun f hf ho k hk => ?_) ⟨Nat.le_refl 1, fun i hi => by obtain rfl : i = 0 := Nat.lt_one_iff.1 hi; rfl⟩
    simp only [List.mem_cons, List.not_mem_nil, or_false] at hf
    rcases hf with rfl | rfl | rfl | rfl
    · exact ⟨_, by simp, hk⟩
    · rw [hRo] at ho; cases ho
    · exact ⟨bkF bx ty_ptr_ring_Ring [ptrR r.b], by simp, hk⟩
    · exact ⟨rgF r, by simp, hk⟩
  have hs1 := ((hs0.toBk 2 rfl 0 Nat.zero_lt_one rfl).unsep 2 rfl)
  refine con_of_sx (cx := cx_ring_Ring_Epochs_1 w (Un [f0, bkF bx ty_ptr_ring_Ring [ptrR r.b], rgF r]) [bx]) g b_ring_Ring_Epochs_1 rfl rfl (β := Va.of fun _ => bx) [.c (.v (.func (.yield l) #[] #[])), .c (.p 0 0)] 1 _ _ rfl rfl hs1 ?_
  have hml : r.ml.length = r.ks.length := by rw [Rg.ml, List.length_map]
  refine ⟨.map (some r.m), fun β w' hs => cell_bk (hs.get 0 rfl) (o := 3) rfl, ?_⟩
  refine call_con [] (fun β w' hs => keysI_c w' (some r.m)) ?_
  rintro v Fs ⟨B, rfl, rfl⟩
  refine call_conS [0, 3] (fun β w' hs => sortedN_c w' _ B _ _ _ _ r.ml.length _ (by kernel_rfl) rfl rfl (by omega) (keysI_gives B r.m r.ml) (hs.mem.take (js := [0, 3]) rfl)) ?_
  rintro v Fs ⟨A, c, L, rfl, ⟨l0, hp0, hp1⟩, hLl, hris, hA0, rfl⟩
  have hLr : L = r.rise := rise_of ((hp1.trans hp0).trans (by rw [Rg.ml_es])) hris
  subst hLr
  refine ⟨_, _, fun β w' hs => (hs.sep [2, 3, 1, 4] rfl ⟨rfl, rfl, rfl, rfl, trivial⟩).perm [1, 2, 3, 0], ?_⟩
  generalize hN : r.rise = L at *
  have hL12 : L.length ≤ 12 := by omega
  refine loop_rule (ι := List Int × Fact) 1 (fun i => [(0, .c (.v (.func (.yield l) #[] #[]))), (1, .c (.p 0 0)), (12, .c (.v (.slice A L.length c))), (13, .c (.v (.int .i64 (L.length : Int)))), (14, .c (.v (.int .i64 (i.1.length : Int))))]) (fun _ => [⟨0, ty_ptr_ring_Ring, [.v (ptrR r.b)]⟩]) (fun i => urowF A L c :: i.2 :: R :: onFst i.1 [rgF r] [])
    (fun i => J i.1 i.2 ∧ i.1 = L.take i.1.length ∧ i.1.length ≤ L.length) (fun i => L.length - i.1.length) ([], f0) ⟨hJ0, rfl, Nat.zero_le _⟩ (Ent.same ⟨rfl, rfl, rfl, rfl, rfl, trivial⟩ rfl) g ?_
  rintro ⟨pre, f⟩ ⟨hJ, hpre, hi⟩
  simp only at hJ hpre hi
  have hfo := hJo _ _ hJ
  simp only
  refine BIf.dec (fun hlt => ?_) (fun hge => ?_)
  · have hlt0 : (pre.length : Int) < L.length := hlt
    have hkl : pre.length < L.length := by omega
    obtain ⟨x, hx, _⟩ := at_lt hkl
    obtain ⟨ad, hAd⟩ := hA0 (by omega)
    have hnext : pre ++ [x] = L.take (pre ++ [x]).length := by
      have e : (pre ++ [x]).length = pre.length + 1 := by rw [List.length_append]; rfl
      rw [e, List.take_add_one, hx, ← hpre]
      rfl
    have e : (pre ++ [x]).length = pre.length + 1 := by rw [List.length_append]; rfl
    refine ⟨ad, pre.length, hAd, rfl, hkl, .int .u64 x, fun β w' hs => ?_, ?_⟩
    · have h := row_rd (hs.get 0 rfl)
      rw [hAd] at h
      exact Rd.cell1 h (by simp [hx])
    cases pre with
    | nil =>
      refine yield_own (X := rgF r) (x := x) hY 1 2 3 rfl hJ hfo rfl rfl rfl (by decide) (by decide) (by decide) (fun β => ⟨rfl, rfl, hx⟩) ?_ ?_
      · intro f2 hfo2 hJ2
        refine ⟨1, by rw [wrap_i64 (by omega) (by omega)]; rfl, ?_⟩
        refine ⟨([x], f2), ⟨hJ2, hnext, by show 1 ≤ L.length; exact hkl⟩, by show L.length - 1 < L.length - 0; have : 0 < L.length := hkl; omega, ?_⟩
        exact Ent.mk' ⟨rfl, rfl, rfl, rfl, rfl, trivial⟩ rfl (fun β w' hs => hs.perm [1, 0, 2])
      · intro f2 hfo2 hJ2 β w' hs
        exact (hs.keepB (List.nil_sublist _)).fin [0] ⟨f2, _, rfl, .inr ⟨_, hJ2, rfl⟩⟩ rfl rfl rfl ⟨hfo2, trivial⟩
    | cons y ys =>
      refine yield_ro (X := noF) (x := x) hY 1 2 rfl hJ hfo rfl hRo (by decide) (fun β => ⟨rfl, rfl, hx⟩) rfl (fun β w _ => ⟨trivial, fun k hk => hk.elim, fun k _ h => h.elim⟩) ?_ ?_
      · intro f2 hfo2 hJ2
        refine ⟨(((y :: ys).length + 1 : Nat) : Int), by rw [wrap_i64 (by omega) (by omega)]; rfl, ?_⟩
        refine ⟨(y :: ys ++ [x], f2), ⟨hJ2, hnext, by show (y :: ys ++ [x]).length ≤ _; rw [e]; omega⟩, by show L.length - (y :: ys ++ [x]).length < L.length - (y :: ys).length; rw [e]; omega, ?_⟩
        simp only [e]
        exact Ent.mk' ⟨rfl, rfl, rfl, rfl, rfl, trivial⟩ rfl (fun β w' hs => hs.perm [1, 0, 2])
      · intro f2 hfo2 hJ2 β w' hs
        exact (hs.keepB (List.nil_sublist _)).fin [0] ⟨f2, _, rfl, .inr ⟨_, hJ2, rfl⟩⟩ rfl rfl rfl ⟨hfo2, trivial⟩
  · have hge0 : ¬ (pre.length : Int) < L.length := hge
    have hpl : pre = L := by rw [hpre, List.take_of_length_le (by omega)]
    subst hpl
    cases pre with
    | nil =>
      intro β w' hs
      exact (hs.keepB (List.nil_sublist _)).fin [1, 3] ⟨f, _, rfl, .inl ⟨[], hJ, rfl, rfl⟩⟩ rfl rfl rfl ⟨hfo, rfl, trivial⟩
    | cons y ys =>
      intro β w' hs
      exact (hs.keepB (List.nil_sublist _)).fin [1] ⟨f, _, rfl, .inl ⟨_, hJ, rfl, rfl⟩⟩ rfl rfl rfl ⟨hfo, trivial⟩
end Go.Proofs.YtgbnaifckclfoaaDoor.Sx

/- Boxes, plainly: terms and their prints, handles. -/
namespace Go.Proofs.YtgbnaifckclfoaaDoor.Bx

structure Term where
  kind : Nat
  key : List UInt8
  text : List UInt8
  rounds : Nat
  list : List Nat
  mask : List UInt8

/-! ### prints -/
def vint (n : Nat) : List UInt8 := if h : n < 128 then [UInt8.ofNat n] else UInt8.ofNat (n % 128 + 128) :: vint (n / 128)
termination_by n
decreasing_by omega
theorem vint_lt {n : Nat} (h : n < 128) : vint n = [UInt8.ofNat n] := by rw [vint, dif_pos h]
theorem vint_ge {n : Nat} (h : ¬ n < 128) : vint n = UInt8.ofNat (n % 128 + 128) :: vint (n / 128) := by rw [vint, dif_neg h]
theorem u8_inj {a b : Nat} (ha : a < 256) (hb : b < 256) (h : UInt8.ofNat a = UInt8.ofNat b) : a = b := by
  have := congrArg UInt8.toNat h
  simp only [UInt8.toNat_ofNat'] at this
  omega
theorem vint_inj : ∀ (a b : Nat) (x y : List UInt8), vint a ++ x = vint b ++ y → a = b ∧ x = y := by
  intro a
  induction a using Nat.strongRecOn with
  | _ a ih =>
    intro b x y h
    by_cases ha : a < 128
    · by_cases hb : b < 128
      · rw [vint_lt ha, vint_lt hb] at h
        simp only [List.cons_append, List.nil_append, List.cons.injEq] at h
        exact ⟨u8_inj (by omega) (by omega) h.1, h.2⟩
      · rw [vint_lt ha, vint_ge hb] at h
        simp only [List.cons_append, List.nil_append, List.cons.injEq] at h
        have := u8_inj (by omega) (by omega) h.1
        omega
    · by_cases hb : b < 128
      · rw [vint_ge ha, vint_lt hb] at h
        simp only [List.cons_append, List.nil_append, List.cons.injEq] at h
        have := u8_inj (by omega) (by omega) h.1
        omega
      · rw [vint_ge ha, vint_ge hb] at h
        simp only [List.cons_append, List.cons.injEq] at h
        have h1 := u8_inj (by omega) (by omega) h.1
        obtain ⟨h2, h3⟩ := ih (a / 128) (by omega) (b / 128) x y h.2
        exact ⟨by omega, h3⟩
theorem vints_inj : ∀ (l m : List Nat) (x y : List UInt8), l.length = m.length → l.flatMap vint ++ x = m.flatMap vint ++ y → l = m ∧ x = y
  | [], [], x, y, _, h => ⟨rfl, h⟩
  | [], _ :: _, _, _, hl, _ => by cases hl
  | _ :: _, [], _, _, hl, _ => by cases hl
  | a :: l, b :: m, x, y, hl, h => by
    simp only [List.flatMap_cons, List.append_assoc] at h
    obtain ⟨rfl, h2⟩ := vint_inj a b _ _ h
    obtain ⟨rfl, h3⟩ := vints_inj l m x y (by simpa using hl) h2
    exact ⟨rfl, h3⟩
def print (t : Term) : List UInt8 := [t.kind, t.rounds, t.key.length, t.text.length, t.list.length].flatMap vint ++ t.list.flatMap vint ++ (t.key ++ t.text ++ t.mask)
theorem print_inj {s t : Term} (h : print s = print t) : s = t := by
  obtain ⟨k, a, b, r, l, m⟩ := s
  obtain ⟨k', a', b', r', l', m'⟩ := t
  simp only [print, List.append_assoc] at h
  obtain ⟨h1, h2⟩ := vints_inj [k, r, a.length, b.length, l.length] [k', r', a'.length, b'.length, l'.length] _ _ rfl h
  simp only [List.cons.injEq, and_true] at h1
  obtain ⟨rfl, rfl, h3, h4, h5⟩ := h1
  obtain ⟨rfl, h6⟩ := vints_inj l l' _ _ h5 h2
  obtain ⟨rfl, h7⟩ := List.append_inj h6 h3
  obtain ⟨rfl, rfl⟩ := List.append_inj h7 h4
  rfl

/-! ### handles -/
def front : List UInt8 := [0xf1, 84, 82, 77] ++ List.replicate 24 0
theorem front_len : front.length = 28 := rfl
def be4 (n : Nat) : List UInt8 := [UInt8.ofNat (n / 16777216), UInt8.ofNat (n / 65536), UInt8.ofNat (n / 256), UInt8.ofNat n]
def handle (n : Nat) : List UInt8 := front ++ be4 n
theorem handle_len (n : Nat) : (handle n).length = 32 := rfl
def num : List UInt8 → Nat := List.foldl (fun n b => n * 256 + b.toNat) 0
theorem num_be4 {n : Nat} (h : n < 4294967296) : num (be4 n) = n := by
  simp only [num, be4, List.foldl, UInt8.toNat_ofNat']
  omega
/-! ### boxes -/
open Classical in
/-- Where a term stands. -/
noncomputable def place (t : Term) : List Term → Option Nat
  | [] => none
  | x :: r => if x = t then some 0 else (place t r).map (· + 1)
theorem place_some {t : Term} : ∀ {L : List Term} {i : Nat}, place t L = some i → L[i]? = some t
  | x :: r, i, h => by
    simp only [place] at h
    split at h
    · rename_i q; obtain rfl := Option.some.inj h; simp [q]
    · obtain ⟨j, hj, rfl⟩ := Option.map_eq_some_iff.1 h
      simpa using place_some hj
theorem place_none {t : Term} : ∀ {L : List Term}, place t L = none → t ∉ L
  | [], _ => List.not_mem_nil
  | x :: r, h => by
    simp only [place] at h
    split at h
    · cases h
    · rename_i q
      have h' : place t r = none := by simpa using h
      intro hm
      rcases List.mem_cons.1 hm with rfl | hm
      · exact q rfl
      · exact place_none h' hm
structure Box where
  sym : Bool
  full : Bool
  L : List Term
def noughts : List UInt8 := List.replicate 32 0
open Classical in
/-- A term's handle; the box behind it. -/
noncomputable def Box.tag (b : Box) (t : Term) : List UInt8 × Box := match place t b.L with
  | some i => (handle (i + 1), b)
  | none => if 4096 ≤ b.L.length then (noughts, { b with full := true }) else (handle (b.L.length + 1), { b with L := b.L ++ [t] })

/-! ### tags turned -/
def xorB (a b : List UInt8) : List UInt8 := List.zipWith (· ^^^ ·) a b
/-- A tag as numbers and a mask. -/
def Box.opens (b : Box) (tag : List UInt8) : Option (List Nat × List UInt8) :=
  if tag.length = 32 then
    if b.sym = true ∧ tag.take 28 = front then
      if num (tag.drop 28) < 1 ∨ b.L.length < num (tag.drop 28) then none
      else match b.L[num (tag.drop 28) - 1]? with
        | some t => if t.kind = 4 then some (t.list, t.mask) else some ([num (tag.drop 28)], noughts)
        | none => none
    else some ([], tag)
  else none
theorem opens_raw {b : Box} {tag : List UInt8} (h : tag.length = 32) (hn : ¬ (b.sym = true ∧ tag.take 28 = front)) : b.opens tag = some ([], tag) := by unfold Box.opens; rw [if_pos h, if_neg hn]
theorem opens_in {b : Box} {tag : List UInt8} {n : Nat} {t : Term} (h : tag.length = 32) (hs : b.sym = true) (hf : tag.take 28 = front) (hn : num (tag.drop 28) = n) (ho : ¬ (n < 1 ∨ b.L.length < n)) (ht : b.L[n - 1]? = some t) :
    b.opens tag = if t.kind = 4 then some (t.list, t.mask) else some ([n], noughts) := by
  subst hn; unfold Box.opens; rw [if_pos h, if_pos ⟨hs, hf⟩, if_neg ho, ht]
end Go.Proofs.YtgbnaifckclfoaaDoor.Bx

/- Handles: how they begin, what they are. -/
namespace Go.Proofs.YtgbnaifckclfoaaDoor.Sx
open Go
attribute [local irreducible] Calls

theorem mark_c (w : World) : Con Tryd.prog n_box_mark #[] w [] fun v Fs => ∃ b, v = .slice (some ⟨b, 0, none⟩) 28 28 ∧ Fs = [browF ty_uint8 (some ⟨b, 0, none⟩) Bx.front 28] := by
  have g := good_box_mark w (Un [])
  refine con_of_sx (cx := cx_box_mark w (Un [])) g b_box_mark rfl rfl (β := Va.z) [] 0 [] [] rfl rfl (Sat.start rfl) ?_
  refine ⟨28, 28, rfl, rfl, Nat.le_refl _, by decide, by decide, ?_⟩
  intro b
  intro b2
  refine ⟨_, _, .c (.v (.int .i64 4)), fun β w' ty hs => hs.copyRow g 1 rfl (row_rd (hs.get 0 rfl)) (bytes_one [241, 84, 82, 77]) ty _ rfl, trivial, ?_⟩
  intro β w' hs
  exact hs.fin [1] ⟨b, rfl, rfl⟩

theorem wrap_u8b (x : Nat) : IntKind.u8.wrap (x : Int) = ((UInt8.ofNat x).toNat : Int) := by
  rw [wrap_u8, UInt8.toNat_ofNat']
  omega
theorem shr_nat (n k : Nat) : (n : Int).fdiv (2 ^ k) = ((n / 2 ^ k : Nat) : Int) := by
  have : (2 ^ k : Int) = ((2 ^ k : Nat) : Int) := by push_cast; rfl
  rw [this, Int.fdiv_eq_ediv_of_nonneg _ (Int.natCast_nonneg _)]
  exact (Int.natCast_ediv _ _).symm
theorem handle_c (w : World) (n : Nat) : Con Tryd.prog n_box_Handle #[.int .i64 n] w [] fun v Fs => ∃ A c, v = .slice A 32 c ∧ 32 ≤ c ∧ c ≤ maxLen ∧ Fs = [browF ty_uint8 A (Bx.handle n) c] := by
  have g := good_box_Handle w (Un [])
  refine con_of_sx (cx := cx_box_Handle w (Un [])) g b_box_Handle rfl rfl (β := Va.z) [.c (.v (.int .i64 n))] 0 [] [] rfl rfl (Sat.start rfl) ?_
  refine call_con [] (fun β w' hs => mark_c w') ?_
  rintro v Fs ⟨b, rfl, rfl⟩
  refine ⟨by decide, _, shr_nat n 24, _, wrap_u8b _, by decide, _, shr_nat n 16, _, wrap_u8b _, by decide, _, shr_nat n 8, _, wrap_u8b _, _, wrap_u8b _, ?_⟩
  intro b2
  refine ⟨1, 28, 32, _, (Bx.be4 n).map byte, (Bx.handle n).map byte, rfl, fun β w' hs => row_rd (hs.get 0 rfl), bytes_one (Bx.be4 n), rfl, by rw [Bx.handle, List.map_append], by decide, by decide, ?_⟩
  intro A c h1 h2 h3
  intro β w' hs
  exact hs.fin [1] ⟨A, c, rfl, h1, h2, rfl⟩
end Go.Proofs.YtgbnaifckclfoaaDoor.Sx

/- A Builder of strings: a byte written; its text. -/
namespace Go.Proofs.YtgbnaifckclfoaaDoor.Sx
open Go
attribute [local irreducible] Calls

theorem con_of_calls {P : Program} {k : FuncId} {args : Array Value} {w : World} {Gs : List Fact} {R : Value → List Fact → Prop} (h : Calls P k args w fun e w' => ∃ v, e = .returned v ∧ Fin w Gs R v w') : Con P k args w Gs R := h
theorem Mem.none (w : World) : Mem w [] := ⟨fun _ q => (by cases q), fun _ q => (by cases q), List.Pairwise.nil⟩
end Go.Proofs.YtgbnaifckclfoaaDoor.Sx

/- A term's print: a number in bytes of seven bits. -/
namespace Go.Proofs.YtgbnaifckclfoaaDoor.Sx
open Go
attribute [local irreducible] Calls

theorem or128 (n : Nat) : bits .or .u8 (((UInt8.ofNat n).toNat : Nat) : Int) 128 = ((UInt8.ofNat (n % 128 + 128)).toNat : Int) := by
  show IntKind.u8.wrap (((BitVec.ofInt 8 ((UInt8.ofNat n).toNat : Int)) ||| (BitVec.ofInt 8 128)).toNat : Int) = _
  have h1 : BitVec.ofInt 8 (((UInt8.ofNat n).toNat : Nat) : Int) = BitVec.ofNat 8 n := by
    apply BitVec.eq_of_toNat_eq
    rw [BitVec.toNat_ofInt, BitVec.toNat_ofNat, UInt8.toNat_ofNat']
    omega
  have h2 : BitVec.ofNat 8 n ||| BitVec.ofInt 8 128 = BitVec.ofNat 8 (n % 128 + 128) := by
    have h3 : BitVec.ofNat 8 n = BitVec.ofNat 8 (n % 256) := by
      apply BitVec.eq_of_toNat_eq
      rw [BitVec.toNat_ofNat, BitVec.toNat_ofNat]
      omega
    have h4 : n % 128 = n % 256 % 128 := by omega
    rw [h3, h4]
    have h5 : n % 256 < 256 := Nat.mod_lt _ (by omega)
    have key : ∀ k, k < 256 → BitVec.ofNat 8 k ||| BitVec.ofInt 8 128 = BitVec.ofNat 8 (k % 128 + 128) := by decide +kernel
    exact key _ h5
  rw [h1, h2, BitVec.toNat_ofNat, wrap_u8, UInt8.toNat_ofNat']
  omega

theorem vint_len : ∀ (k n : Nat), n < 128 ^ (k + 1) → (Bx.vint n).length ≤ k + 1
  | 0, n, h => by rw [Bx.vint_lt (by simpa using h)]; simp
  | k + 1, n, h => by
    by_cases hn : n < 128
    · rw [Bx.vint_lt hn]; simp
    · rw [Bx.vint_ge hn, List.length_cons]
      have := vint_len k (n / 128) (by rw [Nat.pow_succ] at h; omega)
      omega
theorem vint_nine {n : Nat} (h : n < 4611686018427387904) : (Bx.vint n).length ≤ 9 := vint_len 8 n (by omega)
/-- A slice of bytes in a variable. -/
def varF (b : Nat) (A : Option Addr) (l : List UInt8) (c : Nat) : List Fact := [bkF b ty_sl_uint8 [.slice A l.length c], browF ty_uint8 A l c]
structure LgS where
  n : Nat
  A : Option Addr
  l : List UInt8
  c : Nat
theorem long7_c (w : World) (b n : Nat) (A : Option Addr) (l : List UInt8) (c : Nat) (hn : n < 4611686018427387904) (hl : l.length ≤ 1000000000) (hm : Mem w (varF b A l c)) :
    Con Tryd.prog n_box_Term_print_1 #[.int .i64 n, .pointer (some ⟨b, 0, none⟩)] w (varF b A l c) fun v Fs => v = .tuple #[] ∧ ∃ A' c', Fs = varF b A' (l ++ Bx.vint n) c' := by
  have g := good_box_Term_print_1 w (Un (varF b A l c))
  refine con_of_sx (cx := cx_box_Term_print_1 w (Un (varF b A l c))) g b_box_Term_print_1 rfl rfl (β := Va.z) [.c (.v (.int .i64 n)), .c (.v (.pointer (some ⟨b, 0, none⟩)))] 0 [] _ rfl rfl (hm.sat0 rfl (fun f hf _ k hk => ⟨f, hf, hk⟩)) ?_
  refine loop_rule (ι := LgS) 0 (fun i => [(0, .c (.v (.int .i64 i.n))), (1, .c (.v (.pointer (some ⟨b, 0, none⟩))))]) (fun _ => []) (fun i => varF b i.A i.l i.c)
    (fun i => i.n < 4611686018427387904 ∧ i.l ++ Bx.vint i.n = l ++ Bx.vint n) (fun i => i.n) ⟨n, A, l, c⟩ ⟨hn, rfl⟩ (Ent.same ⟨rfl, rfl, trivial⟩ rfl) g ?_
  rintro ⟨m, A1, l1, c1⟩ ⟨hm1, he⟩
  simp only at hm1 he
  have hl1 : l1.length ≤ 1000000009 := by
    have h1 := congrArg List.length he
    simp only [List.length_append] at h1
    have h2 := vint_nine hn
    omega
  have hcell : ∀ (w' : World) (A : Option Addr) (l : List UInt8) (c : Nat), (bkF b ty_sl_uint8 [.slice A l.length c]).p w' → w'.cell? ⟨b, 0, none⟩ = some (.slice A l.length c) := fun w' A l c h => by
    have hb : w'.heap[b]? = some (.cells #[.slice A l.length c] ty_sl_uint8 (0, 0)) := h
    rw [cell_of_row w' b 0 _ _ _ hb]; rfl
  refine BIf.dec (fun hge => ?_) (fun hlt => ?_)
  · have hge0 : (128 : Int) ≤ (m : Int) := hge
    have hnl : ¬ m < 128 := by omega
    refine ⟨.slice A1 l1.length c1, fun β w' hs => hcell _ _ _ _ (hs.get 0 rfl), ?_⟩
    refine ⟨_, wrap_u8b m, _, or128 m, ?_⟩
    intro b2
    refine ⟨2, l1.length, l1.length + 1, l1.map byte, [byte (UInt8.ofNat (m % 128 + 128))], (l1 ++ [UInt8.ofNat (m % 128 + 128)]).map byte, rfl, fun β w' hs => row_rd (hs.get 0 rfl), bytes_one [UInt8.ofNat (m % 128 + 128)], rfl, by simp, by rw [maxLen_eq]; omega, by show (l1.length + 1) * 1 ≤ _; omega, ?_⟩
    intro A' c' h1 h2 h3
    refine ⟨_, fun β w' hs => hs.bkSet 1 (o := 0) (us := [.slice A' (l1.length + 1) c']) rfl (Nat.le_refl 1) (fun u hu => by obtain rfl := List.mem_singleton.1 hu; rfl), ?_⟩
    refine ⟨by decide, ((m / 128 : Nat) : Int), shr_nat m 7, ?_⟩
    refine ⟨⟨m / 128, A', l1 ++ [UInt8.ofNat (m % 128 + 128)], c'⟩, ⟨by show m / 128 < _; omega, ?_⟩, by show m / 128 < m; omega, ?_⟩
    · show l1 ++ [UInt8.ofNat (m % 128 + 128)] ++ Bx.vint (m / 128) = _
      rw [← he, Bx.vint_ge hnl]
      simp
    · refine Ent.mk' ⟨rfl, rfl, trivial⟩ rfl ?_
      intro β w' hs
      have e : (l1 ++ [UInt8.ofNat (m % 128 + 128)]).length = l1.length + 1 := by simp
      have hs2 := hs.perm [1, 2]
      show Sat _ _ _ _ (varF b A' (l1 ++ [UInt8.ofNat (m % 128 + 128)]) c') _
      unfold varF browF
      rw [e]
      exact hs2
  · have hlt0 : ¬ (128 : Int) ≤ (m : Int) := hlt
    have hl : m < 128 := by omega
    refine ⟨.slice A1 l1.length c1, fun β w' hs => hcell _ _ _ _ (hs.get 0 rfl), ?_⟩
    refine ⟨_, wrap_u8b m, ?_⟩
    intro b2
    refine ⟨2, l1.length, l1.length + 1, l1.map byte, [byte (UInt8.ofNat m)], (l1 ++ [UInt8.ofNat m]).map byte, rfl, fun β w' hs => row_rd (hs.get 0 rfl), bytes_one [UInt8.ofNat m], rfl, by simp, by rw [maxLen_eq]; omega, by show (l1.length + 1) * 1 ≤ _; omega, ?_⟩
    intro A' c' h1 h2 h3
    refine ⟨_, fun β w' hs => hs.bkSet 1 (o := 0) (us := [.slice A' (l1.length + 1) c']) rfl (Nat.le_refl 1) (fun u hu => by obtain rfl := List.mem_singleton.1 hu; rfl), ?_⟩
    intro β w' hs
    have e0 : l ++ Bx.vint n = l1 ++ [UInt8.ofNat m] := by rw [← he, Bx.vint_lt hl]
    have e : (l1 ++ [UInt8.ofNat m]).length = l1.length + 1 := by simp
    refine hs.fin [1, 2] ⟨rfl, A', c', ?_⟩
    rw [e0]
    unfold varF browF
    rw [e]
    rfl
end Go.Proofs.YtgbnaifckclfoaaDoor.Sx

/- A plain box's hash of one part. -/
namespace Go.Proofs.YtgbnaifckclfoaaDoor.Sx
open Go Sha
attribute [local irreducible] Calls

end Go.Proofs.YtgbnaifckclfoaaDoor.Sx

/- Texts joined: the library's contract as ours; the message. -/
namespace Go.Proofs.YtgbnaifckclfoaaDoor.Sx
open Go Sha
attribute [local irreducible] Calls

theorem chg_of {w w' : World} (h : RowKit.Below w.heap.size w w') : Chg None_ w w' := ⟨h.os, h.tape, h.output, h.size, fun k hk _ => h.block k hk⟩
end Go.Proofs.YtgbnaifckclfoaaDoor.Sx

/- Parts of bytes joined; a term's print. -/
namespace Go.Proofs.YtgbnaifckclfoaaDoor.Sx
open Go
attribute [local irreducible] Calls

theorem Bs.holds {w : World} {A : Option Addr} {l : List UInt8} (h : Bs w A l) (c : Nat) : Lib.HoldsBytes w (.slice A l.length c) l := by
  refine ⟨A, c, rfl, fun q => ?_, fun a q i x hx => ?_⟩
  · subst q
    rcases Nat.eq_zero_or_pos l.length with h0 | h0
    · exact List.eq_nil_of_length_eq_zero h0
    · obtain ⟨ad, q, _⟩ := h.2 h0; cases q
  · have hi : i < l.length := (List.getElem?_eq_some_iff.1 hx).1
    obtain ⟨ad, q2, hc⟩ := h.2 (by omega)
    rw [q] at q2
    obtain rfl := Option.some.inj q2
    exact hc i (byte x) (by simp [hx])
theorem join_nil (ls : List (List UInt8)) : Lib.join ls [] = ls.flatten := by
  simp [Lib.join, List.intercalate]
  induction ls with
  | nil => rfl
  | cons a r ih =>
    cases r with
    | nil => simp
    | cons b r => simp [ih]
theorem lens_flat (ls : List (List UInt8)) : Lib.lens ls = ls.flatten.length := by
  simp [Lib.lens, List.length_flatten]
/-- A new slice of bytes, to be read. -/
def readOut (l : List UInt8) (v : Value) (Fs : List Fact) : Prop := ∃ A c, v = .slice A l.length c ∧ l.length ≤ c ∧ c ≤ maxLen ∧ Fs = [rdoF 1 A l.length (l.map byte)]
theorem fin_read {w w' : World} {A : Option Addr} {l : List UInt8} {c : Nat} (hr : Bs w' A l) (hc : Chg None_ w w') (hD : ∀ k, (bsF A l).D k → w.heap.size ≤ k) (h1 : l.length ≤ c) (h2 : c ≤ maxLen) : Fin w [] (readOut l) (.slice A l.length c) w' := by
  refine ⟨[rdoF 1 A l.length (l.map byte)], ⟨A, c, rfl, h1, h2, rfl⟩, by rw [Un.nil]; exact hc, ⟨fun g hg => ?_, fun g hg k hk => ?_, List.pairwise_singleton _ _⟩, ⟨rfl, trivial⟩, fun g hg k hk => ?_⟩
  · obtain rfl := List.mem_singleton.1 hg; exact hr
  · obtain rfl := List.mem_singleton.1 hg; exact rd_lt hr k hk
  · obtain rfl := List.mem_singleton.1 hg; exact .inr (hD k hk)
theorem fresh_fin {w w' : World} {v : Value} {l : List UInt8} (hf : Lib.FreshBytes w.heap.size w' v l) (hb : RowKit.Below w.heap.size w w') : Fin w [] (readOut l) v w' := by
  obtain ⟨g, cap, zs, rfl, hg, h1, h2, hz, hz2, hbo, hc, _⟩ := hf
  refine fin_read ?_ (chg_of hb) ?_ h1 h2
  · refine ⟨by simp, fun hp => ⟨_, rfl, fun j u hu => ?_⟩⟩
    rw [List.getElem?_map] at hu
    obtain ⟨x, hx, rfl⟩ := Option.map_eq_some_iff.1 hu
    have hj : j < l.length := (List.getElem?_eq_some_iff.1 hx).1
    rw [add_none, Nat.zero_add, hc j (by omega)]
    have hj2 : j < zs.length := by omega
    have h3 : (Lib.bytesOf (zs.take l.length))[j]? = some x := by rw [hbo]; exact hx
    rw [Lib.bytesOf, List.getElem?_map, List.getElem?_take, if_pos hj, List.getElem?_eq_getElem hj2] at h3
    have h4 : UInt8.ofNat zs[j].toNat = x := by simpa using h3
    have h5 : zs.getD j 0 = zs[j] := by simp [hj2]
    have h6 := hz2 zs[j] (List.getElem_mem hj2)
    have h7 : (x.toNat : Int) = zs[j] := by
      rw [← h4, UInt8.toNat_ofNat']
      omega
    rw [h5, ← h7]
    rfl
  · rintro k ⟨_, ad, q, rfl⟩
    obtain rfl := Option.some.inj q
    exact hg

/-- Two parts or more, joined. -/
theorem joinN_c (w : World) (b c : Nat) (vs : List Value) (ls : List (List UInt8)) (hP : Rd 1 (some ⟨b, 0, none⟩) ls.length vs w) (hH : ∀ (i : Nat) v l, vs[i]? = some v → ls[i]? = some l → Lib.HoldsBytes w v l) (h2 : 2 ≤ ls.length) (hcap : ls.length ≤ c) (hn : ls.length ≤ 1000) (hlen : ls.flatten.length ≤ 140737488355328) :
    Con Tryd.prog n_bytes_Join #[.slice (some ⟨b, 0, none⟩) ls.length c, .slice none 0 0] w [] (readOut ls.flatten) := by
  refine con_of_calls (Calls.mono (Tryd.bytes_Join_many b 0 ls.length c vs ls (.slice none 0 0) [] w rfl h2 ⟨by have := hP.1; omega, fun i v hv => ?_, hH⟩ hcap ⟨none, 0, rfl, fun _ => rfl, fun a q => by cases q⟩ (by omega) (by rw [lens_flat]; simpa using hlen)) ?_)
  · obtain ⟨ad, q, hc⟩ := hP.2 (by omega)
    obtain rfl := Option.some.inj q
    exact hc i v hv
  · rintro e w' ⟨v, rfl, hf, hb⟩
    rw [join_nil] at hf
    exact ⟨v, rfl, fresh_fin hf hb⟩
end Go.Proofs.YtgbnaifckclfoaaDoor.Sx

/- A term's print. -/
namespace Go.Proofs.YtgbnaifckclfoaaDoor.Sx
open Go
attribute [local irreducible] Calls

/-- Where a term's parts lie. -/
structure TA where
  k : Option Addr
  t : Option Addr
  l : Option Addr
  m : Option Addr
  kc : Nat
  tc : Nat
  lc : Nat
  mc : Nat
def ints (l : List Nat) : List Value := l.map fun (n : Nat) => Value.int .i64 (n : Int)
def termV (t : Bx.Term) (a : TA) : List Value := [.int .i64 t.kind, .slice a.k t.key.length a.kc, .slice a.t t.text.length a.tc, .int .i64 t.rounds, .slice a.l t.list.length a.lc, .slice a.m t.mask.length a.mc]
def termS (t : Bx.Term) (a : TA) : List SL := [.v (.int .i64 t.kind), .v (.slice a.k t.key.length a.kc), .v (.slice a.t t.text.length a.tc), .v (.int .i64 t.rounds), .v (.slice a.l t.list.length a.lc), .v (.slice a.m t.mask.length a.mc)]
/-- A term's parts can be read. -/
structure TRd (t : Bx.Term) (a : TA) (w : World) : Prop where
  hk : Bs w a.k t.key
  ht : Bs w a.t t.text
  hl : Rd 1 a.l t.list.length (ints t.list) w
  hm : Bs w a.m t.mask
theorem TRd.old {t : Bx.Term} {a : TA} {W w : World} (h : TRd t a W) (ho : (oldF W).p w) : TRd t a w := ⟨Rd.old h.hk ho, Rd.old h.ht ho, Rd.old h.hl ho, Rd.old h.hm ho⟩
/-- A term that isn't too great. -/
structure TSz (t : Bx.Term) : Prop where
  kind : t.kind < 1000
  rounds : t.rounds < 1000
  key : t.key.length ≤ 1000000
  text : t.text.length ≤ 1000000
  list : t.list.length ≤ 10000
  nums : ∀ n ∈ t.list, n < 1000000
  mask : t.mask.length ≤ 1000000

theorem vints_len : ∀ (l : List Nat), (∀ n ∈ l, n < 4611686018427387904) → (l.flatMap Bx.vint).length ≤ 9 * l.length
  | [], _ => by simp
  | a :: r, h => by
    have h1 := vint_nine (h a List.mem_cons_self)
    have h2 := vints_len r (fun n hn => h n (List.mem_cons_of_mem _ hn))
    rw [List.flatMap_cons, List.length_append, List.length_cons]
    omega
theorem flat_take {l : List Nat} {k x : Nat} (h : l[k]? = some x) : (l.take (k + 1)).flatMap Bx.vint = (l.take k).flatMap Bx.vint ++ Bx.vint x := by
  obtain ⟨hk, rfl⟩ := List.getElem?_eq_some_iff.1 h
  rw [List.take_succ_eq_append_getElem hk, List.flatMap_append, List.flatMap_singleton]
theorem ints_at {l : List Nat} {k x : Nat} (h : l[k]? = some x) : (ints l)[k]? = some (.int .i64 (x : Int)) := by
  simp [ints, h]
structure PrS where
  k : Nat
  A : Option Addr
  c : Nat
def heads5 (t : Bx.Term) : List Nat := [t.kind, t.rounds, t.key.length, t.text.length, t.list.length]
theorem print_c (w : World) (t : Bx.Term) (a : TA) (hr : TRd t a w) (hs : TSz t) : Pu Tryd.prog n_box_Term_print #[.agg (termV t a).toArray] w (.string ⟨(Bx.print t).toArray⟩) := by
  have g := good_box_Term_print w (Un [])
  have h5 : ∀ n ∈ heads5 t, n < 4611686018427387904 := by
    have := hs.kind; have := hs.rounds; have := hs.key; have := hs.text; have := hs.list
    intro n hn
    simp only [heads5, List.mem_cons, List.not_mem_nil, or_false] at hn
    rcases hn with rfl | rfl | rfl | rfl | rfl <;> omega
  have h6 : ∀ n ∈ t.list, n < 4611686018427387904 := fun n hn => by have := hs.nums n hn; omega
  refine con_of_sx (cx := cx_box_Term_print w (Un [])) g b_box_Term_print rfl rfl (β := Va.z) [.agg (termS t a)] 0 [] [oldF w] rfl rfl (old_sat rfl) ?_
  intro b5
  refine reify_rule g 1 (fun _ => [.slice none 0 0]) rfl rfl (fun _ => rfl) (fun b => ?_)
  refine loop_rule (ι := PrS) 2 (fun i => [(23, .c (.v (.slice (some ⟨b5, 0, none⟩) 5 5))), (24, .c (.v (.int .i64 5))), (25, .c (.v (.int .i64 i.k))), (1, .c (.p 0 0)), (3, .c (.v (.pointer (some ⟨b, 0, none⟩)))), (4, .fn (.func n_box_Term_print_1) [] [.v (.pointer (some ⟨b, 0, none⟩))])]) (fun _ => [⟨0, ty_box_Term, termS t a⟩])
    (fun i => varF b i.A (((heads5 t).take i.k).flatMap Bx.vint) i.c ++ [rowF ty_int 1 (.slice (some ⟨b5, 0, none⟩) 5 5) 5 (ints (heads5 t)), oldF w])
    (fun i => i.k ≤ 5) (fun i => 5 - i.k) ⟨0, none, 0⟩ (Nat.zero_le _) (Ent.mk' ⟨rfl, rfl, rfl, rfl, rfl, rfl, trivial⟩ rfl ?_) g ?_
  · intro β w' hs
    exact (hs.nilRow ty_uint8 1).perm [1, 0, 2, 3]
  rintro ⟨k, A1, c1⟩ hk
  simp only at hk
  have hb1 : (((heads5 t).take k).flatMap Bx.vint).length ≤ 45 := by
    have := vints_len ((heads5 t).take k) (fun n hn => h5 n (List.take_subset _ _ hn))
    have h7 : ((heads5 t).take k).length ≤ 5 := by rw [List.length_take]; show min k 5 ≤ 5; omega
    omega
  refine BIf.dec (fun hlt => ?_) (fun hge => ?_)
  · have hlt0 : (k : Int) < 5 := hlt
    have hkl : k < (heads5 t).length := by show k < 5; omega
    obtain ⟨x, hx, hxm⟩ := at_lt hkl
    have hu := ints_at hx
    refine ⟨⟨b5, 0, none⟩, k, rfl, rfl, by omega, _, fun β w' hs => Rd.cell1 (row_rd (hs.get 2 rfl)) hu, ?_⟩
    refine call_con [0, 1] (fun β w' hs => long7_c w' b x A1 (((heads5 t).take k).flatMap Bx.vint) c1 (h5 _ hxm) (by omega) (hs.mem.take (js := [0, 1]) rfl)) ?_
    rintro v Fs ⟨rfl, A2, c2, rfl⟩
    refine ⟨((k + 1 : Nat) : Int), by rw [wrap_i64 (by omega) (by omega)]; rfl, ?_⟩
    refine ⟨⟨k + 1, A2, c2⟩, by show k + 1 ≤ 5; omega, by show 5 - (k + 1) < 5 - k; omega, Ent.mk' ⟨rfl, rfl, rfl, rfl, rfl, rfl, trivial⟩ rfl ?_⟩
    intro β w' hs
    show Sat _ _ _ _ (varF b A2 (((heads5 t).take (k + 1)).flatMap Bx.vint) c2 ++ _) _
    rw [flat_take hx]
    exact hs
  have hge0 : ¬ (k : Int) < 5 := hge
  have hke : k = 5 := by omega
  subst hke
  have hpre : ((heads5 t).take 5).flatMap Bx.vint = (heads5 t).flatMap Bx.vint := rfl
  rw [hpre] at hb1
  refine loop_rule (ι := PrS) 2 (fun i => [(34, .c (.v (.slice a.l t.list.length a.lc))), (35, .c (.v (.int .i64 t.list.length))), (36, .c (.v (.int .i64 i.k))), (1, .c (.p 0 0)), (3, .c (.v (.pointer (some ⟨b, 0, none⟩)))), (4, .fn (.func n_box_Term_print_1) [] [.v (.pointer (some ⟨b, 0, none⟩))])]) (fun _ => [⟨0, ty_box_Term, termS t a⟩])
    (fun i => varF b i.A ((heads5 t).flatMap Bx.vint ++ (t.list.take i.k).flatMap Bx.vint) i.c ++ [oldF w])
    (fun i => i.k ≤ t.list.length) (fun i => t.list.length - i.k) ⟨0, A1, c1⟩ (Nat.zero_le _) (Ent.mk' ⟨rfl, rfl, rfl, rfl, rfl, rfl, trivial⟩ rfl ?_) g ?_
  · intro β w' hs
    have e : (heads5 t).flatMap Bx.vint ++ (t.list.take 0).flatMap Bx.vint = (heads5 t).flatMap Bx.vint := by simp
    show Sat _ _ _ _ (varF b A1 ((heads5 t).flatMap Bx.vint ++ (t.list.take 0).flatMap Bx.vint) c1 ++ _) _
    rw [e]
    exact hs.perm [0, 1, 3]
  rintro ⟨k, A2, c2⟩ hk
  simp only at hk
  have hll := hs.list
  have hb2 : ((heads5 t).flatMap Bx.vint ++ (t.list.take k).flatMap Bx.vint).length ≤ 100000 := by
    have := vints_len (t.list.take k) (fun n hn => h6 n (List.take_subset _ _ hn))
    have h7 : (t.list.take k).length ≤ t.list.length := by simp; omega
    rw [List.length_append]
    omega
  refine BIf.dec (fun hlt => ?_) (fun hge => ?_)
  · have hlt0 : (k : Int) < t.list.length := hlt
    have hkl : k < t.list.length := by omega
    obtain ⟨x, hx, hxm⟩ := at_lt hkl
    have hu := ints_at hx
    obtain ⟨ad, hA, hc⟩ := hr.hl.2 (by omega)
    have hr2 := hr.hl
    rw [hA] at hr2
    refine ⟨ad, k, hA, rfl, hkl, _, fun β w' hs => Rd.cell1 (Rd.old hr2 (hs.get 2 rfl)) hu, ?_⟩
    refine call_con [0, 1] (fun β w' hs => long7_c w' b x A2 ((heads5 t).flatMap Bx.vint ++ (t.list.take k).flatMap Bx.vint) c2 (h6 _ hxm) (by omega) (hs.mem.take (js := [0, 1]) rfl)) ?_
    rintro v Fs ⟨rfl, A3, c3, rfl⟩
    refine ⟨((k + 1 : Nat) : Int), by rw [wrap_i64 (by omega) (by omega)]; rfl, ?_⟩
    refine ⟨⟨k + 1, A3, c3⟩, by show k + 1 ≤ t.list.length; omega, by show t.list.length - (k + 1) < t.list.length - k; omega, Ent.mk' ⟨rfl, rfl, rfl, rfl, rfl, rfl, trivial⟩ rfl ?_⟩
    intro β w' hs
    show Sat _ _ _ _ (varF b A3 ((heads5 t).flatMap Bx.vint ++ (t.list.take (k + 1)).flatMap Bx.vint) c3 ++ _) _
    rw [flat_take hx, ← List.append_assoc]
    exact hs
  have hge0 : ¬ (k : Int) < t.list.length := hge
  have hke : k = t.list.length := by omega
  subst hke
  have hpre2 : (heads5 t).flatMap Bx.vint ++ (t.list.take t.list.length).flatMap Bx.vint = (heads5 t).flatMap Bx.vint ++ t.list.flatMap Bx.vint := by rw [List.take_length]
  rw [hpre2] at hb2
  rw [hpre2]
  generalize hq : (heads5 t).flatMap Bx.vint ++ t.list.flatMap Bx.vint = q at hb2 ⊢
  have hcell : ∀ (w' : World) (A : Option Addr) (l : List UInt8) (c : Nat), (bkF b ty_sl_uint8 [.slice A l.length c]).p w' → w'.cell? ⟨b, 0, none⟩ = some (.slice A l.length c) := fun w' A l c h => by
    have hb : w'.heap[b]? = some (.cells #[.slice A l.length c] ty_sl_uint8 (0, 0)) := h
    rw [cell_of_row w' b 0 _ _ _ hb]; rfl
  refine ⟨.slice A2 q.length c2, fun β w' hs => hcell _ _ _ _ (hs.get 0 rfl), ?_⟩
  intro b6
  have hkey := hs.key
  have htext := hs.text
  have hmask := hs.mask
  have hfl : [q, t.key, t.text, t.mask].flatten = Bx.print t := by
    rw [Bx.print, ← hq]
    simp [heads5]
  refine call_con [] (R := readOut (Bx.print t)) (fun β w' hs => by
    have h := joinN_c w' b6 4 [.slice A2 q.length c2, .slice a.k t.key.length a.kc, .slice a.t t.text.length a.tc, .slice a.m t.mask.length a.mc] [q, t.key, t.text, t.mask] (row_rd (hs.get 0 rfl)) (fun i v l hv hl => by
      match i, hv, hl with
      | 0, hv, hl => obtain rfl := Option.some.inj hv; obtain rfl := Option.some.inj hl; exact Bs.holds (row_rd (hs.get 2 rfl)) _
      | 1, hv, hl => obtain rfl := Option.some.inj hv; obtain rfl := Option.some.inj hl; exact Bs.holds (Rd.old hr.hk (hs.get 3 rfl)) _
      | 2, hv, hl => obtain rfl := Option.some.inj hv; obtain rfl := Option.some.inj hl; exact Bs.holds (Rd.old hr.ht (hs.get 3 rfl)) _
      | 3, hv, hl => obtain rfl := Option.some.inj hv; obtain rfl := Option.some.inj hl; exact Bs.holds (Rd.old hr.hm (hs.get 3 rfl)) _
      | n + 4, hv, hl => cases hv) (by show 2 ≤ 4; decide) (Nat.le_refl 4) (by show 4 ≤ 1000; decide) (by simp; omega)
    rw [hfl] at h
    exact h) ?_
  rintro v Fs ⟨A, c, rfl, h1, h2, rfl⟩
  refine ⟨Bx.print t, fun β w hs => hs.get 0 rfl, ?_⟩
  intro β w' hs
  exact hs.fin [] ⟨rfl, rfl⟩
end Go.Proofs.YtgbnaifckclfoaaDoor.Sx

/- Lists of numbers: copied, looked through; a term of its own. -/
namespace Go.Proofs.YtgbnaifckclfoaaDoor.Sx
open Go
attribute [local irreducible] Calls

theorem ints_one (l : List Nat) : ∀ u ∈ ints l, u.oneCell' = true := by
  intro u hu
  obtain ⟨x, _, rfl⟩ := List.mem_map.1 hu
  rfl
abbrev irowF (A : Option Addr) (l : List Nat) (c : Nat) : Fact := rowF ty_int 1 (.slice A l.length c) l.length (ints l)
theorem cloneI_c (w : World) (A : Option Addr) (l : List Nat) (c : Nat) (hr : Rd 1 A l.length (ints l) w) (hn : l.length ≤ 10000000000000) :
    Con Tryd.prog 46 #[.slice A l.length c] w [] fun v Fs => ∃ A' c', v = .slice A' l.length c' ∧ l.length ≤ c' ∧ c' ≤ maxLen ∧ Fs = [irowF A' l c'] := by
  refine con_of_sx (cx := cx_slices_Clone_int_int w (Un [])) (good_slices_Clone_int_int w (Un [])) b_slices_Clone_int_int rfl rfl (β := Va.z) [.c (.v (.slice A l.length c))] 0 [] [rdF 1 A l.length (ints l)] rfl rfl ((Sat.start rfl).rd (fun _ h => by cases h) hr) ?_
  refine BIf.mk (fun h => ?_) (fun h => ?_)
  · intro β w' hs
    have hA : A = none := by simpa using h
    subst hA
    have hl : l = [] := by
      cases l with
      | nil => rfl
      | cons x r => obtain ⟨ad, q, _⟩ := hr.2 (by simp); cases q
    subst hl
    exact (hs.nilRow ty_int 1).fin [0] ⟨none, 0, rfl, Nat.le_refl _, Nat.zero_le _, rfl⟩
  intro b
  refine ⟨0, 0, l.length, [], ints l, _, rfl, fun β w hs => hs.get 1 rfl, ints_one l, Nat.zero_add _, rfl, by rw [maxLen_eq]; omega, by show l.length * 8 ≤ _; omega, ?_⟩
  intro A' c' h1 h2 h3 β w' hs
  exact hs.fin [0] ⟨A', c', rfl, h1, h2, rfl⟩
/-- A copy's parts. -/
def copyFs (t : Bx.Term) (a : TA) : List Fact := [browF ty_uint8 a.m t.mask a.mc, irowF a.l t.list a.lc, browF ty_uint8 a.t t.text a.tc, browF ty_uint8 a.k t.key a.kc]
theorem copyOf_c (w : World) (t : Bx.Term) (a : TA) (hr : TRd t a w) (hs : TSz t) :
    Con Tryd.prog n_box_copyOf #[.agg (termV t a).toArray] w [] fun v Fs => ∃ a', v = .agg (termV t a').toArray ∧ Fs = copyFs t a' := by
  have g := good_box_copyOf w (Un [])
  have hkey := hs.key
  have htext := hs.text
  have hmask := hs.mask
  have hlist := hs.list
  refine con_of_sx (cx := cx_box_copyOf w (Un [])) g b_box_copyOf rfl rfl (β := Va.z) [.agg (termS t a)] 0 [] [oldF w] rfl rfl (old_sat rfl) ?_
  have hS : ∀ {n : Nat} {F : List Fact}, Sub (cx_box_copyOf w (Un [])) n [⟨1, ty_box_Term, ti70.zero.map SL.v⟩, ⟨0, ty_box_Term, termS t a⟩] F [⟨0, ty_box_Term, termS t a⟩] [] := fun {n F} => Sub.of (List.sublist_cons_self _ _) (List.nil_sublist _)
  refine draw_rule g p_box_copyOf_1 (by kernel_rfl) [⟨0, ty_box_Term, termS t a⟩] [] hS ?_
  refine call_con [] (fun β w' hs => clone_c w' a.k t.key a.kc (Rd.old hr.hk (hs.get 0 rfl)) (by omega)) ?_
  rintro v Fs ⟨A1, c1, rfl, _, _, rfl⟩
  refine ⟨hS, ?_⟩
  refine call_con [] (fun β w' hs => clone_c w' a.t t.text a.tc (Rd.old hr.ht (hs.get 1 rfl)) (by omega)) ?_
  rintro v Fs ⟨A2, c2, rfl, _, _, rfl⟩
  refine ⟨hS, ?_⟩
  refine call_con [] (fun β w' hs => cloneI_c w' a.l t.list a.lc (Rd.old hr.hl (hs.get 2 rfl)) (by omega)) ?_
  rintro v Fs ⟨A3, c3, rfl, _, _, rfl⟩
  refine ⟨hS, ?_⟩
  refine call_con [] (fun β w' hs => clone_c w' a.m t.mask a.mc (Rd.old hr.hm (hs.get 3 rfl)) (by omega)) ?_
  rintro v Fs ⟨A4, c4, rfl, _, _, rfl⟩
  refine ⟨hS, ?_⟩
  intro β w' hs
  exact (hs.keepB (List.nil_sublist _)).fin [0, 1, 2, 3] ⟨⟨A1, A2, A3, A4, c1, c2, c3, c4⟩, rfl, rfl⟩ rfl rfl rfl ⟨rfl, rfl, rfl, rfl, trivial⟩
end Go.Proofs.YtgbnaifckclfoaaDoor.Sx

/- A box in memory. -/
namespace Go.Proofs.YtgbnaifckclfoaaDoor.Sx
open Go
attribute [local irreducible] Calls

def str (l : List UInt8) : ByteArray := ⟨l.toArray⟩
theorem str_inj {l m : List UInt8} : str l = str m ↔ l = m := by
  constructor
  · intro h
    have := congrArg (fun s : ByteArray => s.data.toList) h
    simpa [str] using this
  · rintro rfl; rfl
def numV (n : Nat) : Value := .int .i64 (n : Int)
/-- The map of prints: from number k on. -/
def mapL : List Bx.Term → Nat → ML
  | [], _ => []
  | t :: r, k => (str (Bx.print t), numV (k + 1)) :: mapL r (k + 1)
theorem mapL_look (t : Bx.Term) : ∀ (L : List Bx.Term) (k : Nat), mlook (mapL L k) (str (Bx.print t)) = (Bx.place t L).map fun i => numV (i + k + 1)
  | [], _ => rfl
  | x :: r, k => by
    simp only [mapL, mlook, Bx.place]
    by_cases h : x = t
    · subst h
      simp
    · have h' : ¬ str (Bx.print x) = str (Bx.print t) := fun q => h (Bx.print_inj (str_inj.1 q))
      rw [if_neg h', if_neg h, mapL_look t r (k + 1), Option.map_map]
      congr 1
      funext i
      simp only [Function.comp]
      rw [show i + (k + 1) + 1 = i + 1 + k + 1 by omega]
theorem mput_new : ∀ {l : ML} {s : ByteArray} {v : Value}, mlook l s = none → mput l s v = l ++ [(s, v)]
  | [], _, _, _ => rfl
  | (k, u) :: r, s, v, h => by
    simp only [mlook] at h
    split at h
    · cases h
    · rename_i hne
      simp only [mput, if_neg hne, List.cons_append]
      rw [mput_new h]
theorem mapL_snoc (t : Bx.Term) : ∀ (L : List Bx.Term) (k : Nat), mapL (L ++ [t]) k = mapL L k ++ [(str (Bx.print t), numV (L.length + k + 1))]
  | [], k => by simp [mapL]
  | x :: r, k => by
    simp only [List.cons_append, mapL, List.length_cons]
    rw [mapL_snoc t r (k + 1), show r.length + (k + 1) + 1 = r.length + 1 + k + 1 by omega]

/-- A term's parts, to be read. -/
def TD_ (t : Bx.Term) (a : TA) (k : Nat) : Prop := (bsF a.k t.key).D k ∨ (bsF a.t t.text).D k ∨ (rdF 1 a.l t.list.length (ints t.list)).D k ∨ (bsF a.m t.mask).D k
theorem TRd.st {t : Bx.Term} {a : TA} {w w' : World} (hs : ∀ k, TD_ t a k → w'.heap[k]? = w.heap[k]?) (h : TRd t a w) : TRd t a w' :=
  ⟨(bsF a.k t.key).st w w' (fun k hk => hs k (.inl hk)) h.hk, (bsF a.t t.text).st w w' (fun k hk => hs k (.inr (.inl hk))) h.ht, (rdF 1 a.l t.list.length (ints t.list)).st w w' (fun k hk => hs k (.inr (.inr (.inl hk)))) h.hl, (bsF a.m t.mask).st w w' (fun k hk => hs k (.inr (.inr (.inr hk)))) h.hm⟩
def trdF (t : Bx.Term) (a : TA) : Fact where
  own := false
  D := TD_ t a
  p := TRd t a
  st := fun w w' hs h => TRd.st hs h
/-- All terms' parts. -/
def partsF (ts : List (Bx.Term × TA)) : Fact where
  own := true
  D := fun k => ∃ p ∈ ts, TD_ p.1 p.2 k
  p := fun w => ∀ p ∈ ts, TRd p.1 p.2 w
  st := fun w w' hs h p hp => TRd.st (fun k hk => hs k ⟨p, hp, hk⟩) (h p hp)
/-- Where a box's parts lie. -/
structure Lay where
  A : Option Addr
  c : Nat
  m : Nat
  ts : List (Bx.Term × TA)
def boxCells (B : Bx.Box) (y : Lay) : List Value := [.bool B.sym, .bool B.full, .slice y.A B.L.length y.c, .map (some y.m)]
def termsV (ts : List (Bx.Term × TA)) : List Value := ts.flatMap fun p => termV p.1 p.2
def bxFs (b : Nat) (B : Bx.Box) (y : Lay) : List Fact := [bkF b ty_box_Box (boxCells B y), rowF ty_box_Term 6 (.slice y.A B.L.length y.c) B.L.length (termsV y.ts), mapF y.m (mapL B.L 0), partsF y.ts]
/-- A box, whole. -/
def bxF (b : Nat) (B : Bx.Box) (y : Lay) : Fact := sepF (bxFs b B y)
theorem box_cell {b : Nat} {B : Bx.Box} {y : Lay} {w : World} (h : (bkF b ty_box_Box (boxCells B y)).p w) {o : Nat} {v : Value} (ho : (boxCells B y)[o]? = some v) : w.cell? ⟨b, o, none⟩ = some v := by
  have hb : w.heap[b]? = some (.cells (boxCells B y).toArray ty_box_Box (0, 0)) := h
  rw [cell_of_row w b o _ _ _ hb]
  simpa using ho
theorem bk_cell {b ty : Nat} {cs : List Value} {w : World} (h : (bkF b ty cs).p w) {o : Nat} {v : Value} (ho : cs[o]? = some v) : w.cell? ⟨b, o, none⟩ = some v := by
  have hb : w.heap[b]? = some (.cells cs.toArray ty (0, 0)) := h
  rw [cell_of_row w b o _ _ _ hb]
  simpa using ho
theorem termV_one (t : Bx.Term) (a : TA) : ∀ u ∈ termV t a, u.oneCell' = true := by
  intro u hu
  simp only [termV, List.mem_cons, List.not_mem_nil, or_false] at hu
  rcases hu with rfl | rfl | rfl | rfl | rfl | rfl <;> rfl
theorem one_mem {v : Value} (h : v.oneCell' = true) : ∀ u ∈ [v], u.oneCell' = true := fun u hu => by obtain rfl := List.mem_singleton.1 hu; exact h
/-- What a term's handle is, in memory; the box behind it. -/
def tagOut (b : Nat) (B : Bx.Box) (t : Bx.Term) (v : Value) (Fs : List Fact) : Prop :=
  ∃ A c y', v = .slice A 32 c ∧ 32 ≤ c ∧ c ≤ maxLen ∧ y'.ts.map (·.1) = (B.tag t).2.L ∧ Fs = [browF ty_uint8 A (B.tag t).1 c, bxF b (B.tag t).2 y']
theorem zero_int (w : World) : (zeroValue ty_int).run Tryd.prog w = .ok (.int .i64 0) w := by kernel_rfl
theorem tag_c (w : World) (b : Nat) (B : Bx.Box) (y : Lay) (t : Bx.Term) (a : TA) (hts : y.ts.map (·.1) = B.L) (hL : B.L.length ≤ 4096) (hs : TSz t) (hm : Mem w [bxF b B y, trdF t a]) :
    Con Tryd.prog n_box_Box_tag #[.pointer (some ⟨b, 0, none⟩), .agg (termV t a).toArray] w [bxF b B y] (tagOut b B t) := by
  have g := good_box_Box_tag w (Un [bxF b B y])
  have hs0 : Sat (cx_box_Box_tag w (Un [bxF b B y])) Va.z 0 [] [bxF b B y, trdF t a] w := hm.sat0 rfl (fun f hf ho k hk => by
    simp only [List.mem_cons, List.not_mem_nil, or_false] at hf
    rcases hf with rfl | rfl
    · exact ⟨_, List.mem_singleton.2 rfl, hk⟩
    · cases ho)
  have hs1 := hs0.unsep 0 rfl
  refine con_of_sx (cx := cx_box_Box_tag w (Un [bxF b B y])) g b_box_Box_tag rfl rfl (β := Va.z) [.c (.v (.pointer (some ⟨b, 0, none⟩))), .agg (termS t a)] 0 [] (bxFs b B y ++ [trdF t a]) rfl rfl hs1 ?_
  refine call_pu (fun β w' hs' => print_c w' t a (hs'.get 4 rfl) hs) ?_
  refine ⟨.map (some y.m), fun β w' hs' => box_cell (hs'.get 0 rfl) (o := 3) rfl, ?_⟩
  have hlook := mapL_look t B.L 0
  cases hpl : Bx.place t B.L with
  | some i =>
    rw [hpl] at hlook
    refine ⟨.int .i64 0, zero_int, mapL B.L 0, some (numV (i + 1)), fun β w' hs' => hs'.get 2 rfl, hlook, ?_⟩
    refine call_con [] (fun β w' hs' => handle_c w' (i + 1)) ?_
    rintro v Fs ⟨A1, c1, rfl, q1, q2, rfl⟩
    have htag : B.tag t = (Bx.handle (i + 1), B) := by unfold Bx.Box.tag; rw [hpl]
    intro β w' hs'
    have hs2 := (hs'.keepB (List.nil_sublist _)).sep [1, 2, 3, 4] rfl ⟨rfl, rfl, rfl, rfl, trivial⟩
    exact hs2.fin [1, 0] ⟨A1, c1, y, rfl, q1, q2, by rw [htag]; exact hts, by rw [htag]; rfl⟩
  | none =>
    rw [hpl] at hlook
    refine ⟨.int .i64 0, zero_int, mapL B.L 0, none, fun β w' hs' => hs'.get 2 rfl, hlook, ?_⟩
    refine ⟨.slice y.A B.L.length y.c, fun β w' hs' => box_cell (hs'.get 0 rfl) (o := 2) rfl, ?_⟩
    refine BIf.dec (fun hge => ?_) (fun hlt => ?_)
    · have hge0 : (4096 : Int) ≤ (B.L.length : Int) := hge
      have hge1 : 4096 ≤ B.L.length := by omega
      refine ⟨_, fun β w' hs' => hs'.bkSet 0 (o := 1) (us := [.bool true]) rfl (by show 2 ≤ 4; decide) (one_mem rfl), ?_⟩
      refine ⟨32, 32, rfl, rfl, Nat.le_refl _, by decide, by decide, ?_⟩
      intro b2
      have htag : B.tag t = (Bx.noughts, { B with full := true }) := by unfold Bx.Box.tag; rw [hpl]; simp only; rw [if_pos hge1]
      intro β w' hs'
      have hs2 := (hs'.keepB (List.nil_sublist _)).sep [1, 2, 3, 4] rfl ⟨rfl, rfl, rfl, rfl, trivial⟩
      exact hs2.fin [1, 0] ⟨some ⟨b2, 0, none⟩, 32, y, rfl, Nat.le_refl _, by decide, by rw [htag]; exact hts, by rw [htag]; rfl⟩
    · have hlt0 : ¬ (4096 : Int) ≤ (B.L.length : Int) := hlt
      have hlt1 : ¬ 4096 ≤ B.L.length := by omega
      have htag : B.tag t = (Bx.handle (B.L.length + 1), { B with L := B.L ++ [t] }) := by unfold Bx.Box.tag; rw [hpl]; simp only; rw [if_neg hlt1]
      refine draw_rule g p_box_Box_tag_8 (by kernel_rfl) [⟨0, ty_box_Term, termS t a⟩] [bkF b ty_box_Box (boxCells B y)] (subPerm [0]) ?_
      refine ⟨.slice y.A B.L.length y.c, fun β w' hs' => box_cell (hs'.get 0 rfl) (o := 2) rfl, ?_⟩
      refine call_con [] (fun β w' hs' => copyOf_c w' t a (hs'.get 4 rfl) hs) ?_
      rintro v Fs ⟨a', rfl, rfl⟩
      refine ⟨subPerm [4], ?_⟩
      intro b7
      refine ⟨subPerm [5], ?_⟩
      refine ⟨6, B.L.length, B.L.length + 1, termsV y.ts, termV t a', termsV (y.ts ++ [(t, a')]), rfl, fun β w' hs' => row_rd (hs'.get 0 rfl), termV_one t a', rfl, by simp [termsV], by rw [maxLen_eq]; omega, by show (B.L.length + 1) * 112 ≤ _; omega, ?_⟩
      intro A' c' q1 q2 q3
      refine ⟨subPerm [5], ?_⟩
      refine ⟨subPerm [5], ?_⟩
      refine ⟨_, fun β w' hs' => hs'.bkSet 5 (o := 2) (us := [.slice A' (B.L.length + 1) c']) rfl (by show 3 ≤ 4; decide) (one_mem rfl), ?_⟩
      have hbx : putAll (boxCells B y) 2 [.slice A' (B.L.length + 1) c'] = [.bool B.sym, .bool B.full, .slice A' (B.L.length + 1) c', .map (some y.m)] := rfl
      rw [hbx]
      refine draw_rule g p_box_Box_tag_9 (by kernel_rfl) [⟨0, ty_box_Term, termS t a⟩] [bkF b ty_box_Box [.bool B.sym, .bool B.full, .slice A' (B.L.length + 1) c', .map (some y.m)]] (subPerm [5]) ?_
      refine ⟨.map (some y.m), fun β w' hs' => bk_cell (hs'.get 0 rfl) (o := 3) rfl, ?_⟩
      refine ⟨.slice A' (B.L.length + 1) c', fun β w' hs' => bk_cell (hs'.get 0 rfl) (o := 2) rfl, ?_⟩
      refine ⟨_, fun _ => _, fun β w' hs' => hs'.mapPutY g 7 rfl (t := ty_map_string_int) (str (Bx.print t)) (numV (B.L.length + 1)), fun _ => ?_⟩
      refine ⟨subPerm [5], ?_⟩
      refine ⟨.slice A' (B.L.length + 1) c', fun β w' hs' => bk_cell (hs'.get 5 rfl) (o := 2) rfl, ?_⟩
      refine call_con [] (fun β w' hs' => handle_c w' (B.L.length + 1)) ?_
      rintro v Fs ⟨A9, c9, rfl, r1, r2, rfl⟩
      have hmap : mput (mapL B.L 0) (str (Bx.print t)) (numV (B.L.length + 1)) = mapL (B.L ++ [t]) 0 := by rw [mput_new hlook, mapL_snoc]
      have hbF : bxF b { B with L := B.L ++ [t] } ⟨A', c', y.m, y.ts ++ [(t, a')]⟩ = sepF [bkF b ty_box_Box [.bool B.sym, .bool B.full, .slice A' (B.L.length + 1) c', .map (some y.m)], rowF ty_box_Term 6 (.slice A' (B.L.length + 1) c') (B.L.length + 1) (termsV (y.ts ++ [(t, a')])), mapF y.m (mapL (B.L ++ [t]) 0), partsF (y.ts ++ [(t, a')])] := by
        simp [bxF, bxFs, boxCells]
      intro β w' hs'
      have hs2 := (hs'.keepB (List.nil_sublist _)).fuse [2, 3, 4, 5, 9] (partsF (y.ts ++ [(t, a')])) (fun w hm => ?_) (fun k hk => ?_) rfl ⟨rfl, rfl, rfl, rfl, rfl, trivial⟩
      · have hs3 := hs2.sep [3, 4, 5, 0] rfl ⟨rfl, rfl, rfl, rfl, trivial⟩
        refine hs3.fin [1, 0] ⟨A9, c9, ⟨A', c', y.m, y.ts ++ [(t, a')]⟩, rfl, r1, r2, ?_, ?_⟩
        · rw [htag]
          show (y.ts ++ [(t, a')]).map (·.1) = B.L ++ [t]
          rw [List.map_append, hts]
          rfl
        · rw [htag]
          show _ = [browF ty_uint8 A9 (Bx.handle (B.L.length + 1)) c9, bxF b { B with L := B.L ++ [t] } ⟨A', c', y.m, y.ts ++ [(t, a')]⟩]
          rw [hbF, ← hmap]
          rfl
      · have hm' : Mem w [browF ty_uint8 a'.m t.mask a'.mc, irowF a'.l t.list a'.lc, browF ty_uint8 a'.t t.text a'.tc, browF ty_uint8 a'.k t.key a'.kc, partsF y.ts] := hm
        intro p hp
        rcases List.mem_append.1 hp with hp | hp
        · exact hm'.fact (partsF y.ts) (by simp) p hp
        · obtain rfl := List.mem_singleton.1 hp
          exact ⟨row_rd (hm'.fact (browF ty_uint8 a'.k t.key a'.kc) (by simp)), row_rd (hm'.fact (browF ty_uint8 a'.t t.text a'.tc) (by simp)), row_rd (hm'.fact (irowF a'.l t.list a'.lc) (by simp)), row_rd (hm'.fact (browF ty_uint8 a'.m t.mask a'.mc) (by simp))⟩
      · show Un [browF ty_uint8 a'.m t.mask a'.mc, irowF a'.l t.list a'.lc, browF ty_uint8 a'.t t.text a'.tc, browF ty_uint8 a'.k t.key a'.kc, partsF y.ts] k
        obtain ⟨p, hp, hk⟩ := hk
        rcases List.mem_append.1 hp with hp | hp
        · exact ⟨partsF y.ts, by simp, p, hp, hk⟩
        · obtain rfl := List.mem_singleton.1 hp
          have hrow : ∀ {size e n c : Nat} {A : Option Addr} {xs : List Value}, (rdF size A n xs).D k → (rowF e size (.slice A n c) n xs).D k := by
            rintro size e n c A xs ⟨_, ad, rfl, rfl⟩
            rfl
          rcases hk with hk | hk | hk | hk
          · exact ⟨browF ty_uint8 a'.k t.key a'.kc, by simp, hrow hk⟩
          · exact ⟨browF ty_uint8 a'.t t.text a'.tc, by simp, hrow hk⟩
          · exact ⟨irowF a'.l t.list a'.lc, by simp, hrow hk⟩
          · exact ⟨browF ty_uint8 a'.m t.mask a'.mc, by simp, hrow hk⟩
end Go.Proofs.YtgbnaifckclfoaaDoor.Sx

/- A symbolic box's hash of one part. -/
namespace Go.Proofs.YtgbnaifckclfoaaDoor.Sx
open Go
attribute [local irreducible] Calls

theorem bx_bk {b : Nat} {B : Bx.Box} {y : Lay} {w : World} (h : (bxF b B y).p w) : (bkF b ty_box_Box (boxCells B y)).p w := h.1 _ (by simp [bxFs])
/-- A term of a text alone. -/
def hashT (l : List UInt8) : Bx.Term := ⟨1, [], l, 0, [], []⟩
theorem rd_nil (w : World) (A : Option Addr) : Rd 1 A 0 [] w := ⟨rfl, fun h => by cases h⟩
end Go.Proofs.YtgbnaifckclfoaaDoor.Sx

/- What looks like a handle, and its number. -/
namespace Go.Proofs.YtgbnaifckclfoaaDoor.Sx
open Go
attribute [local irreducible] Calls

end Go.Proofs.YtgbnaifckclfoaaDoor.Sx

/- A tag, opened. -/
namespace Go.Proofs.YtgbnaifckclfoaaDoor.Sx
open Go
attribute [local irreducible] Calls

end Go.Proofs.YtgbnaifckclfoaaDoor.Sx

/- A ring's keys: how many, one of them. -/
namespace Go.Proofs.YtgbnaifckclfoaaDoor.Sx
open Go
attribute [local irreducible] Calls

theorem fact_oldR {f : Fact} {W w : World} (h : f.p W) (hD : ∀ k, f.D k → k < W.heap.size) (ho : (oldF W).p w) : f.p w := f.st W w (fun k hk => ho k (hD k hk)) h
theorem zero_slB (w : World) : (zeroValue ty_sl_uint8).run Tryd.prog w = .ok (.slice none 0 0) w := by kernel_rfl
theorem epochs_c (w : World) (r : Rg) : Con Tryd.prog n_ring_Ring_Epochs #[ptrR r.b] w [] (fun v Fs => ∃ bx, v = .func (.func n_ring_Ring_Epochs_1) #[] #[.pointer (some ⟨bx, 0, none⟩)] ∧ Fs = [bkF bx ty_ptr_ring_Ring [ptrR r.b]]) := by
  refine con_of_sx (cx := cx_ring_Ring_Epochs w (Un [])) (good_ring_Ring_Epochs w (Un [])) b_ring_Ring_Epochs rfl rfl (β := Va.z) [.c (.v (ptrR r.b))] 0 [] [] rfl rfl (Sat.start rfl) ?_
  intro β w' hs
  exact hs.ofBk.fin [0] ⟨β 0, rfl, rfl⟩
theorem rlen_c (w : World) (r : Rg) (h : (rgF r).p w) (hl : ∀ k, (rgF r).D k → k < w.heap.size) : Pu Tryd.prog n_ring_Ring_Len #[ptrR r.b] w (.int .i64 (r.ks.length : Int)) := by
  have g := good_ring_Ring_Len w (Un [])
  refine con_of_sx (cx := cx_ring_Ring_Len w (Un [])) g b_ring_Ring_Len rfl rfl (β := Va.z) [.c (.v (ptrR r.b))] 0 [] [oldF w] rfl rfl (old_sat rfl) ?_
  refine ⟨.map (some r.m), fun β w' hs => cell_bk (rg_bk (fact_oldR h hl (hs.get 0 rfl))) (o := 3) rfl, ?_⟩
  refine ⟨r.ml, fun β w' hs => rg_map (fact_oldR h hl (hs.get 0 rfl)), ?_⟩
  intro β w' hs
  refine hs.fin [] ⟨?_, rfl⟩
  show Value.int .i64 (r.ml.length : Int) = _
  rw [Rg.ml, List.length_map]
/-- A key, if it is there. -/
def Rg.key (r : Rg) (e : Int) : Option RKey := r.ks.find? fun k => decide ((k.e : Int) = e)
theorem key_look (e : Int) : ∀ ks : List RKey, ilook (ks.map fun k => ((k.e : Int), k.v)) e = (ks.find? fun k => decide ((k.e : Int) = e)).map RKey.v
  | [] => rfl
  | k :: t => by
    by_cases h : (k.e : Int) = e
    · simp [ilook, List.find?, h]
    · simp only [List.map_cons, ilook, if_neg h, List.find?, decide_eq_false h]
      exact key_look e t
theorem rg_key {r : Rg} {w : World} (h : (rgF r).p w) {k : RKey} (hk : k ∈ r.ks) : k.f.p w := by
  have h1 : (sepF (r.ks.map RKey.f)).p w := h.1 (sepF (r.ks.map RKey.f)) (by simp)
  exact h1.1 k.f (List.mem_map.2 ⟨k, hk, rfl⟩)
def keyOut (o : Option RKey) (v : Value) (Fs : List Fact) : Prop := match o with
  | none => v = .tuple #[.slice none 0 0, .int .i64 15] ∧ Fs = []
  | some k => ∃ A c, v = .tuple #[.slice A k.p.length c, .int .i64 0] ∧ k.p.length ≤ c ∧ Fs = [browF ty_uint8 A k.p c]
theorem key_c (w : World) (r : Rg) (e : Int) (h : (rgF r).p w) (hl : ∀ k, (rgF r).D k → k < w.heap.size) (hp : ∀ k ∈ r.ks, k.p.length ≤ 1000) : Con Tryd.prog n_ring_Ring_Key #[ptrR r.b, .int .u64 e] w [] (keyOut (r.key e)) := by
  have g := good_ring_Ring_Key w (Un [])
  refine con_of_sx (cx := cx_ring_Ring_Key w (Un [])) g b_ring_Ring_Key rfl rfl (β := Va.z) [.c (.v (ptrR r.b)), .c (.v (.int .u64 e))] 0 [] [oldF w] rfl rfl (old_sat rfl) ?_
  refine ⟨.map (some r.m), fun β w' hs => cell_bk (rg_bk (fact_oldR h hl (hs.get 0 rfl))) (o := 3) rfl, ?_⟩
  refine ⟨rfl, .slice none 0 0, fun w => zero_slB w, r.ml, (r.key e).map RKey.v, fun β w' hs => rg_map (fact_oldR h hl (hs.get 0 rfl)), key_look e r.ks, ?_⟩
  cases hk : r.key e with
  | none =>
    intro β w' hs
    exact hs.fin [] ⟨rfl, rfl⟩
  | some k =>
    have hm : k ∈ r.ks := List.mem_of_find?_eq_some hk
    refine call_con [] (fun β w' hs => clone_c w' k.A k.p k.c (row_rd (rg_key (fact_oldR h hl (hs.get 0 rfl)) hm)) (by have := hp k hm; omega)) ?_
    rintro v Fs ⟨A, c, rfl, hc, _, rfl⟩
    intro β w' hs
    exact hs.fin [0] ⟨A, c, rfl, hc, rfl⟩
end Go.Proofs.YtgbnaifckclfoaaDoor.Sx

/- A map of numbers, written and cut. -/
namespace Go.Proofs.YtgbnaifckclfoaaDoor.Sx
open Go

theorem Sat.mapPutI {cx : Cx} {β : Va} {n : Nat} {H : List Bk} {F : List Fact} {w : World} (h : Sat cx β n H F w) (g : Good cx) (j : Nat) {b : Nat} {l : MLI} {kk : IntKind} (hj : nth F j = some (mapIF kk b l)) {t kt et : TypeId} {i ik : TI} (s : Int) (v : Value) (hi : lk cx.tt t = some i := by rfl) (hd : i.desc = .map kt et := by rfl) (hik : lk cx.tt kt = some ik := by rfl) (hdk : ik.desc = .int kk := by rfl) :
    ∃ w', (Instr.mapUpdate t (.map (some b)) (.int kk s) v).run cx.P w = .ok () w' ∧ Sat cx β n H (putAt F j (mapIF kk b (iput l s v))) w' := by
  obtain ⟨o, e1, e2⟩ := run_putI (P := cx.P) ((g.ti hi).real (d := .map _ _) hd rfl) ((g.ti hik).real (d := .int kk) hdk rfl) (h.get j hj) s v
  exact ⟨_, e1, h.upd hj rfl (chg_put o) e2 (fun k hk => .inl hk)⟩
theorem Sat.mapPutIY {cx : Cx} {β : Va} {n : Nat} {H : List Bk} {F : List Fact} {w : World} (h : Sat cx β n H F w) (g : Good cx) (j : Nat) {b : Nat} {l : MLI} {kk : IntKind} (hj : nth F j = some (mapIF kk b l)) {t kt et : TypeId} {i ik : TI} (s : Int) (v : Value) (hi : lk cx.tt t = some i := by rfl) (hd : i.desc = .map kt et := by rfl) (hik : lk cx.tt kt = some ik := by rfl) (hdk : ik.desc = .int kk := by rfl) :
    ∃ (w' : World) (y : Nat), (Instr.mapUpdate t (.map (some b)) (.int kk s) v).run cx.P w = .ok () w' ∧ Sat cx β n H ((fun _ => putAt F j (mapIF kk b (iput l s v))) y) w' := by
  obtain ⟨w', e1, e2⟩ := h.mapPutI g j hj s v hi hd hik hdk
  exact ⟨w', 0, e1, e2⟩
theorem Sat.mapDelI {cx : Cx} {β : Va} {n : Nat} {H : List Bk} {F : List Fact} {w : World} (h : Sat cx β n H F w) (g : Good cx) (j : Nat) {b : Nat} {l : MLI} {kk : IntKind} (hj : nth F j = some (mapIF kk b l)) {t tk kt et : TypeId} {i ik : TI} (s : Int) (ty : TypeId) (cst : Array Bool) (hi : lk cx.tt t = some i := by rfl) (hd : i.desc = .map kt et := by rfl) (hik : lk cx.tt kt = some ik := by rfl) (hdk : ik.desc = .int kk := by rfl) :
    ∃ w', (builtin .delete #[t, tk] ty cst #[.map (some b), .int kk s]).run cx.P w = .ok (.value (.tuple #[])) w' ∧ Sat cx β n H (putAt F j (mapIF kk b (idel l s))) w' := by
  obtain ⟨o, e1, e2⟩ := run_delI (P := cx.P) (tk := tk) ((g.ti hi).real (d := .map _ _) hd rfl) ((g.ti hik).real (d := .int kk) hdk rfl) (h.get j hj) s ty cst
  exact ⟨_, e1, h.upd hj rfl (chg_put o) e2 (fun k hk => .inl hk)⟩

end Go.Proofs.YtgbnaifckclfoaaDoor.Sx

/- A block's step, where the state is the front of a block. -/
namespace Go.Proofs.YtgbnaifckclfoaaDoor.Sx
open Go Sha
attribute [local irreducible] Calls

end Go.Proofs.YtgbnaifckclfoaaDoor.Sx

/- SHA-256 of parts. -/
namespace Go.Proofs.YtgbnaifckclfoaaDoor.Sx
open Go Sha
attribute [local irreducible] Calls

theorem Mem.lastRo {w : World} {f R X : Fact} {A : Option Addr} {l : List UInt8} (h : Mem w [f, R, X, rdoF 1 A l.length (l.map byte)]) : Mem w [f, R, X, bsF A l] := by
  refine ⟨fun g hg => ?_, fun g hg k hk => ?_, ?_⟩
  · simp only [List.mem_cons, List.not_mem_nil, or_false] at hg
    rcases hg with rfl | rfl | rfl | rfl
    · exact h.fact _ (by simp)
    · exact h.fact _ (by simp)
    · exact h.fact _ (by simp)
    · exact h.fact (rdoF 1 A l.length (l.map byte)) (by simp)
  · simp only [List.mem_cons, List.not_mem_nil, or_false] at hg
    rcases hg with rfl | rfl | rfl | rfl
    · exact h.flt _ (by simp) k hk
    · exact h.flt _ (by simp) k hk
    · exact h.flt _ (by simp) k hk
    · exact h.flt (rdoF 1 A l.length (l.map byte)) (by simp) k hk
  · have hs := h.sepf
    simp only [List.pairwise_cons, List.mem_cons, List.not_mem_nil, or_false, forall_eq_or_imp, forall_eq, false_implies, implies_true, List.Pairwise.nil, and_true] at hs ⊢
    obtain ⟨⟨a1, a2, a3⟩, ⟨b1, b2⟩, c1⟩ := hs
    exact ⟨⟨a1, a2, fun _ => a3 (.inr rfl)⟩, ⟨b1, fun _ => b2 (.inr rfl)⟩, fun _ => c1 (.inr rfl)⟩
theorem sumJ_c (w : World) (P : Option Addr) (nP cP : Nat) (l : List UInt8) (hj : ∀ w', (oldF w).p w' → Con Tryd.prog n_bytes_Join #[.slice P nP cP, .slice none 0 0] w' [] (readOut l)) (hn : l.length ≤ 70368744177664) (h1 : (oddF 3).p w) (h0 : (firstF 1).p w) :
    Con Tryd.prog n_sha_Sum #[.slice P nP cP] w [] fun v Fs => ∃ A' c', v = .slice A' 32 c' ∧ 32 ≤ c' ∧ c' ≤ maxLen ∧ Fs = [browF ty_uint8 A' (Sha.sum l) c'] := by
  have g := good_sha_Sum w (Un [])
  have hs0 : Sat (cx_sha_Sum w (Un [])) Va.z 0 [] [oldF w] w := old_sat rfl
  have hs1 : Sat (cx_sha_Sum w (Un [])) Va.z 0 [] [oddF 3, oldF w] w := hs0.sub 0 rfl rfl _ rfl h1 (rd_lt h1)
  refine con_of_sx (cx := cx_sha_Sum w (Un [])) g b_sha_Sum rfl rfl (β := Va.z) [.c (.v (.slice P nP cP))] 0 [] [oddF 3, oldF w] rfl rfl hs1 ?_
  refine ⟨Sha.first.l.map u32, rfl, fun β w' hs j u hu => ?_, ?_⟩
  · have h2 : Rd 1 (some ⟨1, 0, none⟩) 8 (Sha.first.l.map u32) w' := Rd.old h0 (hs.get 1 rfl)
    obtain ⟨ad, h3, h4⟩ := h2.2 (by decide)
    obtain rfl := Option.some.inj h3
    exact h4 j u hu
  refine call_con [] (fun β w' hs => hj w' (hs.get 1 rfl)) ?_
  rintro v Fs ⟨A1, c1, rfl, h2, h3, rfl⟩
  refine call_con [] (fun β w' hs => Blocks_c w' A1 l.length c1) ?_
  rintro v Fs ⟨bx, rfl, rfl⟩
  refine reify_rule g 0 (fun _ => Sha.first.l.map u32) rfl rfl (fun _ => rfl) (fun sb => ?_)
  obtain ⟨q, hq⟩ : ∃ q, l ++ ends l.length = q := ⟨_, rfl⟩
  have hsum : Sha.sum l = out ((blks q (q.length / 64)).foldl Sha.step Sha.first) := by rw [← go_eq, ← hq]; rfl
  rw [hsum]
  refine range_rule (α := List UInt8) (ι := S8) (κ := S8) g rfl (cv := [.pointer (some ⟨bx, 0, none⟩)]) rfl (by kernel_rfl) 1 (Nat.le_refl 1)
    (fun pre s => s = pre.foldl Sha.step Sha.first) (fun _ => []) (fun s => [stF sb 92 s]) (fun _ => ⟨rfl, trivial⟩)
    (fun _ _ _ => False) (fun _ => []) (fun _ => []) (fun _ => trivial)
    [bkF bx ty_sl_uint8 [.slice A1 l.length c1]] [rdoF 1 A1 l.length (l.map byte)] [oddF 3] ⟨rfl, trivial⟩ (fun g hg => by obtain rfl := List.mem_singleton.1 hg; rfl)
    Sha.first rfl (fun β w' hs => ⟨β, Agr.refl _ _, hs.perm [1, 2, 0, 3]⟩) (fun _ => insB)
    (fun xs Fs' => xs = blks q (q.length / 64) ∧ Fs' = []) (fun _ Fs' => Fs' = [])
    (fun l' w' f0 R J Jx hJ0 hJo hRo hY hm => (blocks_it l' w' bx A1 l c1 f0 R J Jx hJ0 hJo hRo hY hn hm.lastRo).mono fun _ Fs h => by rw [hq] at h; exact h) ?_ ?_ ?_
  · rintro s pre x args X W S l' bs pn pn' hbs hpre ⟨hx, B, rfl, rfl⟩
    refine ⟨_, rfl, ?_⟩
    refine call_con [1] (fun β w' hs => step64_c w' sb 92 s B x hx (hs.mem.take (js := [1, 0, 2]) rfl)) ?_
    rintro v Fs ⟨rfl, rfl⟩
    refine ⟨Sha.step s x, by show Sha.step s x = (pre ++ [x]).foldl Sha.step Sha.first; rw [List.foldl_append, hpre]; rfl, Ent.mk' trivial rfl (fun β w' hs => ?_)⟩
    exact hs.weaken (List.Sublist.refl _) (List.Sublist.cons_cons _ (List.nil_sublist _))
  · rintro xs s Fs hpre ⟨rfl, rfl⟩
    refine call_con [0] (fun β w' hs => stbytes_c w' sb 92 s (hs.mem.take (js := [0]) rfl)) ?_
    rintro v Fs ⟨A3, c3, rfl, h5, h6, rfl⟩
    intro β w' hs
    refine hs.fin [1] ⟨A3, c3, rfl, h5, h6, ?_⟩
    rw [← hpre]
    rfl
  · rintro e pre s Fs h _
    exact h.elim
end Go.Proofs.YtgbnaifckclfoaaDoor.Sx

/- Sums that need a key, plainly. -/
namespace Go.Proofs.YtgbnaifckclfoaaDoor.Sx
open Go

/-- A key's bytes. -/
def keyL (l : List UInt8) : List UInt8 := if 64 < l.length then Sha.sum l else l
def padL (l : List UInt8) (x : UInt8) : List UInt8 := (keyL l).map (x ^^^ ·) ++ List.replicate (64 - (keyL l).length) x
def hmL (key text : List UInt8) : List UInt8 := Sha.sum (padL key 0x5c ++ Sha.sum (padL key 0x36 ++ text))
theorem sum_len (l : List UInt8) : (Sha.sum l).length = 32 := rfl
theorem keyL_len {l : List UInt8} : (keyL l).length ≤ 64 := by
  unfold keyL
  split
  · rw [sum_len]; omega
  · omega
theorem padL_len (l : List UInt8) (x : UInt8) : (padL l x).length = 64 := by
  unfold padL
  have := keyL_len (l := l)
  simp only [List.length_append, List.length_map, List.length_replicate]
  omega
theorem hmL_len (k t : List UInt8) : (hmL k t).length = 32 := rfl
end Go.Proofs.YtgbnaifckclfoaaDoor.Sx

/- A byte sixty-four times; a key's bytes, each turned. -/
namespace Go.Proofs.YtgbnaifckclfoaaDoor.Sx
open Go
attribute [local irreducible] Calls

section
variable {cx : Cx} {β : Va} {n : Nat} {env : Env} {H : List Bk} {F : List Fact} {w : World}
/-- copy, into a block of one's own, of cells of one. -/
theorem Sat.copyBk (h : Sat cx β n H F w) (g : Good cx) (j : Nat) {b o k c e m cs r : Nat} {A : Option Addr} {cells ys : List Value} (hj : nth F j = some (bkF b e cells)) (hr : Rd 1 A m ys w) (h1 : ∀ u ∈ ys, u.oneCell' = true)
    {t : TypeId} {i ie : TI} (ty : TypeId) (cst : Array Bool) (hm : min m k = r) (hfit : o + r ≤ cells.length) (hi : lk cx.tt t = some i := by rfl) (hd : i.desc = .slice e := by rfl) (hie : lk cx.tt e = some ie := by rfl) (hz : ie.size = 1 := by rfl) :
    ∃ w', (builtin .copy #[t, t] ty cst #[.slice (some ⟨b, o, none⟩) k c, .slice A m cs]).run cx.P w = .ok (.value (.int .i64 (r : Int))) w' ∧
      Sat cx β n H (putAt F j (bkF b e (putAll cells o (ys.take r)))) w' := by
  subst hm
  have ht := (g.ti hi).real (d := .slice _) hd rfl
  have tie := g.ti hie
  have hrt := hr.take (k := min m k) (Nat.min_le_left _ _)
  have hsz := tie.run_size w
  rw [hz] at hsz
  have hfc : (Builtin.firstCells 1 (min m k) (.slice A m cs)).run cx.P w = .ok (ys.take (min m k)).toArray w := by
    cases A with
    | none =>
      have h0 : min m k = 0 := by
        rcases Nat.eq_zero_or_pos (min m k) with q | q
        · exact q
        · obtain ⟨ad, q, _⟩ := hrt.2 q; cases q
      rw [h0]
      rfl
    | some ad =>
      have hl := run_loadCells_list (P := cx.P) (w := w) ad (ys.take (min m k)) (fun j u hu => by
        have hp : 0 < min m k := by
          rcases Nat.eq_zero_or_pos (min m k) with q | q
          · rw [q] at hu; simp at hu
          · exact q
        obtain ⟨ad', q, hc⟩ := hrt.2 hp
        obtain rfl := Option.some.inj q
        exact hc j u hu)
      have hlen : (ys.take (min m k)).length = min m k := by rw [hrt.1, Nat.mul_one]
      rw [hlen] at hl
      simpa [Builtin.firstCells] using hl
  obtain ⟨w', e1, e2⟩ := h.bkSet (us := ys.take (min m k)) (o := o) j hj (by rw [hrt.1]; omega) (fun u hu => h1 u (List.take_subset _ _ hu))
  rw [add_none, Nat.zero_add] at e1
  refine ⟨w', ?_, e2⟩
  have hmin : Nat.min m k = min m k := rfl
  simp [builtin, Builtin.copy_, run_underlying ht, Builtin.lenOf, hsz, hfc, e1, goInt, hmin]
end
/-- The front of a block, as a slice. -/
theorem bk_rd {b e : Nat} {cells : List Value} {w : World} (h : (bkF b e cells).p w) {k : Nat} (hk : k ≤ cells.length) : Rd 1 (some ⟨b, 0, none⟩) k (cells.take k) w := by
  refine ⟨by rw [List.length_take]; omega, fun _ => ⟨_, rfl, fun j u hu => ?_⟩⟩
  rw [List.getElem?_take] at hu
  split at hu
  · rw [add_none, Nat.zero_add]
    have h' : w.heap[b]? = some (.cells cells.toArray e (0, 0)) := h
    rw [cell_of_row w b j _ _ _ h']
    simpa using hu
  · cases hu
theorem bk_bs {b e : Nat} {l : List UInt8} {junk : List Value} {w : World} (h : (bkF b e (l.map byte ++ junk)).p w) : Bs w (some ⟨b, 0, none⟩) l := by
  have := bk_rd h (k := l.length) (by simp)
  rwa [List.take_left' (by simp)] at this
theorem mul_c (w : World) : Pu Tryd.prog n_math_bits_Mul #[.int .u64 1, .int .u64 64] w (.tuple #[.int .u64 0, .int .u64 64]) := by
  refine pu_of (Calls.mono (Tryd.bits_Mul 1 64 (by decide) (by decide) w) ?_)
  rintro e w' ⟨rfl, rfl⟩
  exact ⟨_, rfl, rfl, Chg.refl _ _⟩
theorem mnz_run (w : World) (n : Nat) (hn : n ≤ 281474976710656) : ∃ cs : List Value, (callFunc 35 #[.int .i64 n]).run Tryd.prog w = .ok (.value (.slice (some ⟨w.heap.size, 0, none⟩) n cs.length)) (w.drew.drew.alloc (.cells cs.toArray ty_uint8)) ∧ n ≤ cs.length := by
  obtain ⟨cs, h1, h2, _⟩ := Lib.run_makeNoZero (P := Tryd.prog) w #[] ty_sl_uint8 ty_uint8 ((ok23).real (d := .slice _) rfl rfl) n hn
  refine ⟨cs.toList, ?_, by simpa using h2⟩
  have hx := run_callFunc_extern (P := Tryd.prog) (f := 35) (fn := Tryd.f35) (e := Extern.BytealgMakeNoZero.makeNoZero #[ty_int] #[ty_sl_uint8]) Tryd.func35 (by decide +kernel) rfl (by rfl) (by rfl) #[.int .i64 n] w
  rw [hx]
  have h1' : (Extern.BytealgMakeNoZero.makeNoZero #[ty_int] #[ty_sl_uint8] #[.int .i64 n]).run Tryd.prog w = _ := h1
  rw [h1']
  simp
end Go.Proofs.YtgbnaifckclfoaaDoor.Sx

/- A byte sixty-four times. -/
namespace Go.Proofs.YtgbnaifckclfoaaDoor.Sx
open Go
attribute [local irreducible] Calls

theorem putAll_app {α : Type} (a b ys : List α) (h : ys.length ≤ b.length) : putAll (a ++ b) a.length ys = a ++ ys ++ b.drop ys.length := by
  rw [putAll_all _ _ _ (by simp; omega)]
  rw [List.take_left' rfl, List.drop_append]
  simp [show a.length + ys.length - a.length = ys.length by omega]
theorem cutA_at (b k : Nat) {m : Nat} (h : m ≠ k) : cutA (some ⟨b, 0, none⟩) m k 1 = some ⟨b, k, none⟩ := by
  unfold cutA
  rw [if_neg h]
  simp [add_none]
theorem cutA_0 (A : Option Addr) {m : Nat} (h : A = none ∨ ∃ b o, A = some ⟨b, o, none⟩) : cutA A m 0 1 = A := by
  unfold cutA
  split
  · rfl
  · rcases h with rfl | ⟨b, o, rfl⟩
    · rfl
    · simp [add_none]
def reps (k : Nat) (x : UInt8) : List Value := (List.replicate k x).map byte
theorem reps_len (k : Nat) (x : UInt8) : (reps k x).length = k := by simp [reps]
theorem reps_take {k r : Nat} (x : UInt8) (h : r ≤ k) : (reps k x).take r = reps r x := by
  unfold reps
  rw [← List.map_take, List.take_replicate, Nat.min_eq_left h]
theorem reps_add (k r : Nat) (x : UInt8) : reps k x ++ reps r x = reps (k + r) x := by
  unfold reps
  rw [← List.map_append, List.replicate_append_replicate]
theorem reps_one (k : Nat) (x : UInt8) : ∀ u ∈ reps k x, u.oneCell' = true := bytes_one _
set_option maxHeartbeats 1000000 in
theorem repeat64_c (w : World) (B : Option Addr) (cB : Nat) (x : UInt8) (hr : Rd 1 B 1 [byte x] w) :
    Con Tryd.prog n_bytes_Repeat #[.slice B 1 cB, .int .i64 64] w [] fun v Fs => ∃ b junk, v = .slice (some ⟨b, 0, none⟩) 64 64 ∧ Fs = [bkF b ty_uint8 (reps 64 x ++ junk)] := by
  have g := good_bytes_Repeat w (Un [])
  refine con_of_sx (cx := cx_bytes_Repeat w (Un [])) g b_bytes_Repeat rfl rfl (β := Va.z) [.c (.v (.slice B 1 cB)), .c (.v (.int .i64 64))] 0 [] [oldF w] rfl rfl (old_sat rfl) ?_
  refine ⟨1, by decide, 64, by decide, ?_⟩
  refine call_pu (fun β w' hs => mul_c w') ?_
  refine ⟨64, by decide, ?_⟩
  refine .inr (fun β w' hs => ?_)
  obtain ⟨cs, hrun, hcs⟩ := mnz_run w' 64 (by decide)
  have hs1 : Sat (cx_bytes_Repeat w (Un [])) β 0 [] (bkF w'.heap.size ty_uint8 cs :: [oldF w]) (w'.drew.drew.alloc (.cells cs.toArray ty_uint8)) := by
    refine hs.drew.drew.add (Chg.alloc _ _) _ (heap_alloc_new _ _) (fun k hk => ?_)
    obtain rfl : k = w'.heap.size := hk
    exact ⟨Nat.le_refl _, by simp⟩
  refine ⟨_, _, hrun, Ret.mk [] _ hs1 ?_⟩
  obtain ⟨b, hb⟩ : ∃ b, w'.heap.size = b := ⟨_, rfl⟩
  rw [hb]
  clear hs1 hrun hs
  refine ⟨64, 64, 0, 64, 64, some ⟨b, 0, none⟩, rfl, rfl, rfl, hcs, Nat.le_refl _, Nat.zero_le _, rfl, rfl, cutA_0 _ (.inr ⟨b, 0, rfl⟩), ?_⟩
  refine ⟨[], [bkF b ty_uint8 (reps 1 x ++ cs.drop 1), oldF w], .c (.v (.int .i64 1)), fun β w' ty hs => ?_, trivial, ?_⟩
  · obtain ⟨w2, q1, q2⟩ := hs.copyBk g 0 rfl (hr.old (hs.get 1 rfl)) (reps_one 1 x) ty (t := ty_sl_uint8) #[false, false] (r := 1) (k := 64) (m := 1) (c := 64) (cs := cB) (o := 0) rfl (by omega)
    have e1 : putAll cs 0 ([byte x].take 1) = reps 1 x ++ cs.drop 1 := by
      have := putAll_app [] cs [byte x] (by simp; omega)
      show putAll cs 0 [byte x] = [byte x] ++ cs.drop 1
      simpa using this
    rw [e1] at q2
    exact ⟨w2, q1, q2⟩
  refine loop_rule (ι := Nat × List Value) 0 (fun i => [(7, .c (.v (.int .i64 64))), (8, .c (.v (.int .i64 64))), (9, .c (.v (.slice (some ⟨b, 0, none⟩) 64 64))), (10, .c (.v (.int .i64 (i.1 : Int))))]) (fun _ => []) (fun i => [bkF b ty_uint8 (reps i.1 x ++ i.2), oldF w])
    (fun i => 1 ≤ i.1 ∧ i.1 ≤ 64 ∧ 64 ≤ i.1 + i.2.length) (fun i => 64 - i.1) (1, cs.drop 1) ⟨Nat.le_refl _, by show 1 ≤ 64; decide, by simp only [List.length_drop]; omega⟩ (Ent.same ⟨rfl, rfl, rfl, rfl, trivial⟩ rfl) g ?_
  rintro ⟨k, junk⟩ ⟨h1, h2, h3⟩
  simp only at h1 h2 h3
  refine BIf.dec (fun hlt => ?_) (fun hge => ?_)
  · have hlt0 : (k : Int) < 64 := hlt
    have hk : k < 64 := by omega
    obtain ⟨r, hr0⟩ : ∃ r, min k (64 - k) = r := ⟨_, rfl⟩
    refine ⟨(k : Int), by show min (k : Int) 64 = k; omega, ?_⟩
    refine draw_rule g p_bytes_Repeat_20 (by kernel_rfl) [] [] (Sub.of (List.Sublist.refl _) (List.nil_sublist _)) ?_
    refine ⟨64, 64, k, 64 - k, 64 - k, some ⟨b, k, none⟩, rfl, rfl, rfl, Nat.le_refl _, Nat.le_refl _, by omega, rfl, rfl, cutA_at b k (by omega), ?_⟩
    refine ⟨64, k, 0, k, 64, some ⟨b, 0, none⟩, rfl, rfl, rfl, Nat.le_refl _, by omega, Nat.zero_le _, rfl, rfl, cutA_0 _ (.inr ⟨b, 0, rfl⟩), ?_⟩
    refine ⟨[], [bkF b ty_uint8 (reps (k + r) x ++ junk.drop r), oldF w], .c (.v (.int .i64 (r : Int))), fun β w' ty hs => ?_, trivial, ?_⟩
    · have hrd : Rd 1 (some ⟨b, 0, none⟩) k (reps k x) w' := by
        have := bk_rd (hs.get 0 rfl) (k := k) (by simp [reps_len])
        rwa [List.take_left' (reps_len k x)] at this
      obtain ⟨w2, q1, q2⟩ := hs.copyBk g 0 rfl hrd (reps_one k x) ty (t := ty_sl_uint8) #[false, false] (r := r) (k := 64 - k) (m := k) (c := 64 - k) (cs := 64) (o := k) hr0 (by simp only [List.length_append, reps_len]; omega)
      have e1 : putAll (reps k x ++ junk) k ((reps k x).take r) = reps (k + r) x ++ junk.drop r := by
        have := putAll_app (reps k x) junk ((reps k x).take r) (by rw [List.length_take, reps_len]; omega)
        rw [reps_len] at this
        rw [this, reps_take x (by omega), reps_add, reps_len]
      rw [e1] at q2
      exact ⟨w2, q1, q2⟩
    refine ⟨Sub.of (List.Sublist.refl _) (List.nil_sublist _), ((k + r : Nat) : Int), by rw [wrap_i64 (by omega) (by omega)]; omega, ?_⟩
    exact ⟨(k + r, junk.drop r), ⟨by show 1 ≤ k + r; omega, by show k + r ≤ 64; omega, by show 64 ≤ k + r + (junk.drop r).length; rw [List.length_drop]; omega⟩, by show 64 - (k + r) < 64 - k; omega, Ent.same ⟨rfl, rfl, rfl, rfl, trivial⟩ rfl⟩
  · have hge0 : ¬ (k : Int) < 64 := hge
    obtain rfl : k = 64 := by omega
    intro β w' hs
    exact hs.fin [0] ⟨b, junk, rfl, rfl⟩

/-! ### a key's bytes, each turned -/
def padN (k : List UInt8) (x : UInt8) (i : Nat) : List UInt8 := (k.take i).map (x ^^^ ·) ++ List.replicate (64 - i) x
theorem padN_len {k : List UInt8} {x : UInt8} {i : Nat} (h : i ≤ k.length) (h2 : i ≤ 64) : (padN k x i).length = 64 := by
  unfold padN
  simp only [List.length_append, List.length_map, List.length_take, List.length_replicate]
  omega
theorem padN_at {k : List UInt8} {x : UInt8} {i : Nat} (h : i < k.length) (h2 : i < 64) : (padN k x i)[i]? = some x := by
  unfold padN
  rw [List.getElem?_append_right (by simp only [List.length_map, List.length_take]; omega)]
  simp only [List.length_map, List.length_take]
  rw [List.getElem?_replicate, if_pos (by omega)]
theorem padN_set {k : List UInt8} {x y : UInt8} {i : Nat} (h : k[i]? = some y) (h2 : i < 64) : (padN k x i).set i (x ^^^ y) = padN k x (i + 1) := by
  have hi : i < k.length := (List.getElem?_eq_some_iff.1 h).1
  unfold padN
  rw [List.set_append_right _ _ (by simp only [List.length_map, List.length_take]; omega)]
  simp only [List.length_map, List.length_take]
  rw [show i - min i k.length = 0 by omega, show 64 - i = (64 - (i + 1)) + 1 by omega, List.replicate_succ, List.set_cons_zero, List.take_add_one, h]
  simp
theorem padN_all (k : List UInt8) (x : UInt8) : padN k x k.length = k.map (x ^^^ ·) ++ List.replicate (64 - k.length) x := by
  unfold padN
  rw [List.take_length]
theorem Con.real {P : Program} {k : FuncId} {args : Array Value} {w : World} {Gs : List Fact} {R : Value → List Fact → Prop} (h : Con P k args w Gs R) : Con P k args w Gs (fun v Fs => R v Fs ∧ ∃ w', Mem w' Fs) :=
  Calls.mono h fun _ w' ⟨v, he, Fs, hR, hc, hm, ho, hD⟩ => ⟨v, he, Fs, ⟨hR, w', hm⟩, hc, hm, ho, hD⟩
theorem padN_0 (k : List UInt8) (x : UInt8) : (padN k x 0).map byte = reps 64 x := by simp [padN, reps]
set_option maxHeartbeats 1000000 in
theorem pad_c (w : World) (A : Option Addr) (l : List UInt8) (c : Nat) (x : UInt8) (hr : Bs w A l) (hn : l.length ≤ 1000000) (h1 : (oddF 3).p w) (h0 : (firstF 1).p w) :
    Con Tryd.prog n_hmac_pad #[.slice A l.length c, byte x] w [] fun v Fs => ∃ b junk, v = .slice (some ⟨b, 0, none⟩) 64 64 ∧ Fs = [bkF b ty_uint8 ((padL l x).map byte ++ junk)] := by
  have g := good_hmac_pad w (Un [])
  refine con_of_sx (cx := cx_hmac_pad w (Un [])) g b_hmac_pad rfl rfl (β := Va.z) [.c (.v (.slice A l.length c)), .c (.v (byte x))] 0 [] [oldF w] rfl rfl (old_sat rfl) ?_
  refine BIf.dec (fun hlt => ?_) (fun hge => ?_)
  · have hlt0 : (64 : Int) < (l.length : Int) := hlt
    intro b0
    obtain ⟨k, hks⟩ : ∃ k, Sha.sum l = k := ⟨_, rfl⟩
    have hk : keyL l = k := by unfold keyL; rw [if_pos (by omega)]; exact hks
    have hk64 : k.length ≤ 64 := by rw [← hk]; exact keyL_len
    refine call_con [] (R := fun v Fs => (∃ A' c', v = .slice A' k.length c' ∧ Fs = [browF ty_uint8 A' k c']) ∧ ∃ w', Mem w' Fs) (fun β w' hs => ((sum1_c w' (some ⟨b0, 0, none⟩) A 1 c l (row_rd (hs.get 0 rfl)) (Rd.old hr (hs.get 1 rfl)) (by omega) (Rd.old h1 (hs.get 1 rfl)) (Rd.old h0 (hs.get 1 rfl))).mono (by rintro v Fs ⟨A', c', rfl, _, _, rfl⟩; exact ⟨A', c', by rw [← hks]; rfl, by rw [hks]⟩)).real) ?_
    rintro v Fs ⟨⟨A2, c2, rfl, rfl⟩, w9, hm9⟩
    have hkr : ∀ {w'}, (browF ty_uint8 A2 k c2).p w' → Bs w' A2 k := fun h => row_rd h
    have hka : 0 < k.length → ∃ ad, A2 = some ad := fun h => Bs.addr (hkr (hm9.fact _ List.mem_cons_self)) h
    intro b1
    refine call_con [] (fun β w' hs => repeat64_c w' (some ⟨b1, 0, none⟩) 1 x (row_rd (hs.get 0 rfl))) ?_
    rintro v Fs ⟨b, junk, rfl, rfl⟩
    refine loop_rule (ι := Nat) 0 (fun i => [(17, .c (.v (.slice A2 k.length c2))), (18, .c (.v (.int .i64 (k.length : Int)))), (19, .c (.v (.int .i64 (i : Int)))), (5, .c (.v (.slice (some ⟨b, 0, none⟩) 64 64)))]) (fun _ => []) (fun i => [bkF b ty_uint8 ((padN k x i).map byte ++ junk), browF ty_uint8 A2 k c2])
      (fun i => i ≤ k.length) (fun i => k.length - i) 0 (Nat.zero_le _) (Ent.mk' ⟨rfl, rfl, rfl, rfl, trivial⟩ rfl (fun β w' hs => by rw [padN_0]; exact hs.perm [0, 2])) g ?_
    intro i hi
    refine BIf.dec (fun hlt2 => ?_) (fun hge2 => ?_)
    · have hlt0 : (i : Int) < (k.length : Int) := hlt2
      have hik : i < k.length := by omega
      obtain ⟨y, hy, _⟩ := at_lt hik
      obtain ⟨ad, hA⟩ := hka (by omega)
      refine ⟨ad, i, hA, rfl, hik, byte y, fun β w' hs => by
        have h := hkr (hs.get 1 rfl)
        rw [hA] at h
        exact Rd.cell1 h (by rw [List.getElem?_map, hy]; rfl), ?_⟩
      refine ⟨⟨b, 0, none⟩, i, rfl, rfl, by omega, byte x, fun β w' hs => by
        have h := bk_bs (hs.get 0 rfl)
        exact Rd.cell1 h (by rw [List.getElem?_map, padN_at hik (by omega)]; rfl), _, xor8 x y, ?_⟩
      refine ⟨⟨b, 0, none⟩, i, rfl, rfl, by omega, [bkF b ty_uint8 ((padN k x (i + 1)).map byte ++ junk), browF ty_uint8 A2 k c2], fun β w' hs => ?_, ?_⟩
      · have hpl := padN_len (k := k) (x := x) (i := i) (by omega) (by omega)
        obtain ⟨w2, q1, q2⟩ := hs.bkSet 0 (o := i) (us := [byte (x ^^^ y)]) rfl (by simp only [List.length_append, List.length_map, hpl, List.length_singleton]; omega) (fun u hu => by obtain rfl := List.mem_singleton.1 hu; rfl)
        have e : putAll ((padN k x i).map byte ++ junk) i [byte (x ^^^ y)] = (padN k x (i + 1)).map byte ++ junk := by
          rw [putAll, putAll, putAt_eq, List.set_append_left _ _ (by rw [List.length_map, hpl]; omega), ← padN_set hy (by omega), List.map_set]
        rw [e] at q2
        have q1' : (storeCells ((⟨b, 0, none⟩ : Addr).add (i * 1)) [byte (x ^^^ y)] 0).run (cx_hmac_pad w (Un [])).P w' = .ok () w2 := by rw [Nat.mul_one]; exact q1
        exact ⟨w2, q1', q2⟩
      · refine ⟨((i + 1 : Nat) : Int), by rw [wrap_i64 (by omega) (by omega)]; rfl, ?_⟩
        exact ⟨i + 1, hik, by omega, Ent.same ⟨rfl, rfl, rfl, rfl, trivial⟩ rfl⟩
    · have hge0 : ¬ (i : Int) < (k.length : Int) := hge2
      obtain rfl : i = k.length := by omega
      intro β w' hs
      refine hs.fin [0] ⟨b, junk, rfl, ?_⟩
      rw [padN_all]
      unfold padL
      rw [hk]
      rfl
  · have hge0 : ¬ (64 : Int) < (l.length : Int) := hge
    obtain ⟨k, hks⟩ : ∃ k, l = k := ⟨_, rfl⟩
    have hk : keyL l = k := by unfold keyL; rw [if_neg (by omega)]; exact hks
    have hk64 : k.length ≤ 64 := by rw [← hk]; exact keyL_len
    rw [hks] at hr
    have hlk : l.length = k.length := by rw [hks]
    rw [hlk]
    have hkr : ∀ {w'}, (oldF w).p w' → Bs w' A k := fun h => Rd.old hr h
    have hka : 0 < k.length → ∃ ad, A = some ad := fun h => hr.addr h
    intro b1
    refine call_con [] (fun β w' hs => repeat64_c w' (some ⟨b1, 0, none⟩) 1 x (row_rd (hs.get 0 rfl))) ?_
    rintro v Fs ⟨b, junk, rfl, rfl⟩
    refine loop_rule (ι := Nat) 0 (fun i => [(17, .c (.v (.slice A k.length c))), (18, .c (.v (.int .i64 (k.length : Int)))), (19, .c (.v (.int .i64 (i : Int)))), (5, .c (.v (.slice (some ⟨b, 0, none⟩) 64 64)))]) (fun _ => []) (fun i => [bkF b ty_uint8 ((padN k x i).map byte ++ junk), oldF w])
      (fun i => i ≤ k.length) (fun i => k.length - i) 0 (Nat.zero_le _) (Ent.mk' ⟨rfl, rfl, rfl, rfl, trivial⟩ rfl (fun β w' hs => by rw [padN_0]; exact hs.perm [0, 2])) g ?_
    intro i hi
    refine BIf.dec (fun hlt2 => ?_) (fun hge2 => ?_)
    · have hlt0 : (i : Int) < (k.length : Int) := hlt2
      have hik : i < k.length := by omega
      obtain ⟨y, hy, _⟩ := at_lt hik
      obtain ⟨ad, hA⟩ := hka (by omega)
      refine ⟨ad, i, hA, rfl, hik, byte y, fun β w' hs => by
        have h := hkr (hs.get 1 rfl)
        rw [hA] at h
        exact Rd.cell1 h (by rw [List.getElem?_map, hy]; rfl), ?_⟩
      refine ⟨⟨b, 0, none⟩, i, rfl, rfl, by omega, byte x, fun β w' hs => by
        have h := bk_bs (hs.get 0 rfl)
        exact Rd.cell1 h (by rw [List.getElem?_map, padN_at hik (by omega)]; rfl), _, xor8 x y, ?_⟩
      refine ⟨⟨b, 0, none⟩, i, rfl, rfl, by omega, [bkF b ty_uint8 ((padN k x (i + 1)).map byte ++ junk), oldF w], fun β w' hs => ?_, ?_⟩
      · have hpl := padN_len (k := k) (x := x) (i := i) (by omega) (by omega)
        obtain ⟨w2, q1, q2⟩ := hs.bkSet 0 (o := i) (us := [byte (x ^^^ y)]) rfl (by simp only [List.length_append, List.length_map, hpl, List.length_singleton]; omega) (fun u hu => by obtain rfl := List.mem_singleton.1 hu; rfl)
        have e : putAll ((padN k x i).map byte ++ junk) i [byte (x ^^^ y)] = (padN k x (i + 1)).map byte ++ junk := by
          rw [putAll, putAll, putAt_eq, List.set_append_left _ _ (by rw [List.length_map, hpl]; omega), ← padN_set hy (by omega), List.map_set]
        rw [e] at q2
        have q1' : (storeCells ((⟨b, 0, none⟩ : Addr).add (i * 1)) [byte (x ^^^ y)] 0).run (cx_hmac_pad w (Un [])).P w' = .ok () w2 := by rw [Nat.mul_one]; exact q1
        exact ⟨w2, q1', q2⟩
      · refine ⟨((i + 1 : Nat) : Int), by rw [wrap_i64 (by omega) (by omega)]; rfl, ?_⟩
        exact ⟨i + 1, hik, by omega, Ent.same ⟨rfl, rfl, rfl, rfl, trivial⟩ rfl⟩
    · have hge0 : ¬ (i : Int) < (k.length : Int) := hge2
      obtain rfl : i = k.length := by omega
      intro β w' hs
      refine hs.fin [0] ⟨b, junk, rfl, ?_⟩
      rw [padN_all]
      unfold padL
      rw [hk]
      rfl
end Go.Proofs.YtgbnaifckclfoaaDoor.Sx

/- Bytes of one's own that are only read; facts that are known better; bundles opened at one place. -/
namespace Go.Proofs.YtgbnaifckclfoaaDoor.Sx
open Go
attribute [local irreducible] Calls

/-- Bytes of one's own, to be read. -/
structure Ro where
  A : Option Addr
  c : Nat
  l : List UInt8
def Ro.v (r : Ro) : Value := .slice r.A r.l.length r.c
def Ro.f (r : Ro) : Fact := rdoF 1 r.A r.l.length (r.l.map byte)
theorem rdo_rd {size : Nat} {A : Option Addr} {k : Nat} {xs : List Value} {w : World} (h : (rdoF size A k xs).p w) : Rd size A k xs w := h
theorem browRoD {e : Nat} {A : Option Addr} {l : List UInt8} {c : Nat} {w : World} (h : (browF e A l c).p w) : ∀ k, (Ro.f ⟨A, c, l⟩).D k → (browF e A l c).D k := by
  rintro k ⟨hk, ad, q, rfl⟩
  have hl : 0 < l.length := by
    have : 0 < l.length * 1 := hk
    omega
  have q' : A = some ad := q
  rcases h.2 with ⟨he, h0⟩ | ⟨g, cap, cur, he, _⟩
  · omega
  · have hA : A = some ⟨g, 0, none⟩ := by injection he
    rw [q'] at hA
    obtain rfl := Option.some.inj hA
    show Value.ownBlock (.slice A l.length c) = _
    rw [q']
    rfl
/-- Owned facts that are known better, each on its own memory. -/
inductive Recs (w' : World) : List Fact → List Fact → Prop
  | nil : Recs w' [] []
  | cons {f g : Fact} {Fs Gs : List Fact} (h : g.own = true ∧ (f.p w' → g.p w') ∧ ∀ k, g.D k → f.D k) (r : Recs w' Fs Gs) : Recs w' (f :: Fs) (g :: Gs)
theorem Fin.recast {w : World} {Gs : List Fact} {R R' : Value → List Fact → Prop} {v : Value} {w' : World} (h : Fin w Gs R v w')
    (hr : ∀ Fs, R v Fs → (∀ f ∈ Fs, f.p w') → ∃ Fs', R' v Fs' ∧ Recs w' Fs Fs') : Fin w Gs R' v w' := by
  obtain ⟨Fs, h1, h2, h3, h4, h5⟩ := h
  obtain ⟨Fs', q1, q2⟩ := hr Fs h1 h3.fact
  have key : ∀ {Fs Fs' : List Fact}, Recs w' Fs Fs' → Mem w' Fs → Owns Fs → Mem w' Fs' ∧ Owns Fs' ∧ ∀ g ∈ Fs', ∃ f ∈ Fs, ∀ k, g.D k → f.D k := by
    intro Fs Fs' hf
    induction hf with
    | nil => intro _ _; exact ⟨⟨fun _ q => (by cases q), fun _ q => (by cases q), List.Pairwise.nil⟩, trivial, fun _ q => (by cases q)⟩
    | @cons f g Fs Fs' hfg hrest ih =>
      intro hm ho
      obtain ⟨i1, i2, i3⟩ := ih ⟨fun x hx => hm.fact x (List.mem_cons_of_mem _ hx), fun x hx => hm.flt x (List.mem_cons_of_mem _ hx), (List.pairwise_cons.1 hm.sepf).2⟩ ho.2
      refine ⟨⟨fun x hx => ?_, fun x hx k hk => ?_, List.pairwise_cons.2 ⟨fun x hx _ k hk hk' => ?_, i1.sepf⟩⟩, ⟨hfg.1, i2⟩, fun x hx => ?_⟩
      · rcases List.mem_cons.1 hx with rfl | hx
        · exact hfg.2.1 (hm.fact f List.mem_cons_self)
        · exact i1.fact x hx
      · rcases List.mem_cons.1 hx with rfl | hx
        · exact hm.flt f List.mem_cons_self k (hfg.2.2 k hk)
        · exact i1.flt x hx k hk
      · obtain ⟨y, hy, hyd⟩ := i3 x hx
        exact (List.pairwise_cons.1 hm.sepf).1 y hy (.inl ho.1) k (hfg.2.2 k hk) (hyd k hk')
      · rcases List.mem_cons.1 hx with rfl | hx
        · exact ⟨f, List.mem_cons_self, hfg.2.2⟩
        · obtain ⟨y, hy, hyd⟩ := i3 x hx
          exact ⟨y, List.mem_cons_of_mem _ hy, hyd⟩
  obtain ⟨k1, k2, k3⟩ := key q2 h3 h4
  exact ⟨Fs', q1, h2, k1, k2, fun g hg k hk => by obtain ⟨f, hf, hfd⟩ := k3 g hg; exact h5 f hf k (hfd k hk)⟩
/-! ### a bundle is opened at one place -/
theorem Un.app {A B : List Fact} {k : Nat} : Un (A ++ B) k ↔ Un A k ∨ Un B k := by
  unfold Un
  constructor
  · rintro ⟨g, hg, hk⟩
    rcases List.mem_append.1 hg with h | h
    · exact .inl ⟨g, h, hk⟩
    · exact .inr ⟨g, h, hk⟩
  · rintro (⟨g, hg, hk⟩ | ⟨g, hg, hk⟩)
    · exact ⟨g, List.mem_append_left _ hg, hk⟩
    · exact ⟨g, List.mem_append_right _ hg, hk⟩
theorem Un.cons {x : Fact} {B : List Fact} {k : Nat} : Un (x :: B) k ↔ x.D k ∨ Un B k := by
  unfold Un
  constructor
  · rintro ⟨g, hg, hk⟩
    rcases List.mem_cons.1 hg with rfl | h
    · exact .inl hk
    · exact .inr ⟨g, h, hk⟩
  · rintro (hk | ⟨g, hg, hk⟩)
    · exact ⟨x, List.mem_cons_self, hk⟩
    · exact ⟨g, List.mem_cons_of_mem _ hg, hk⟩
theorem sep_mid {A B : List Fact} {x : Fact} {w : World} : (sepF (A ++ x :: B)).p w ↔ x.p w ∧ (sepF (A ++ B)).p w ∧ ∀ k, x.D k → ¬ Un (A ++ B) k := by
  show ((∀ f ∈ A ++ x :: B, f.p w) ∧ (A ++ x :: B).Pairwise _) ↔ x.p w ∧ ((∀ f ∈ A ++ B, f.p w) ∧ (A ++ B).Pairwise _) ∧ _
  rw [List.pairwise_append, List.pairwise_cons, List.pairwise_append]
  constructor
  · rintro ⟨h1, h2, ⟨h3, h4⟩, h5⟩
    refine ⟨h1 x (by simp), ⟨fun f hf => h1 f ?_, h2, h4, fun a ha b hb => h5 a ha b (List.mem_cons_of_mem _ hb)⟩, fun k hk q => ?_⟩
    · rcases List.mem_append.1 hf with h | h
      · exact List.mem_append_left _ h
      · exact List.mem_append_right _ (List.mem_cons_of_mem _ h)
    · rcases Un.app.1 q with ⟨g, hg, hk'⟩ | ⟨g, hg, hk'⟩
      · exact h5 g hg x List.mem_cons_self k hk' hk
      · exact h3 g hg k hk hk'
  · rintro ⟨h1, ⟨h2, h3, h4, h5⟩, h6⟩
    refine ⟨fun f hf => ?_, h3, ⟨fun g hg k hk hk' => h6 k hk (Un.app.2 (.inr ⟨g, hg, hk'⟩)), h4⟩, fun a ha b hb k hk hk' => ?_⟩
    · rcases List.mem_append.1 hf with h | h
      · exact h2 f (List.mem_append_left _ h)
      · rcases List.mem_cons.1 h with rfl | h
        · exact h1
        · exact h2 f (List.mem_append_right _ h)
    · rcases List.mem_cons.1 hb with rfl | hb
      · exact h6 k hk' (Un.app.2 (.inl ⟨a, ha, hk⟩))
      · exact h5 a ha b hb k hk hk'
section
variable {cx : Cx} {β : Va} {n : Nat} {H : List Bk} {F : List Fact} {w : World}
/-- Back into the bundle. -/
theorem Sat.blur (h : Sat cx β n H F w) (i j : Nat) {A B : List Fact} {x : Fact} (hi : nth F i = some x) (hj : nth F j = some (sepF (A ++ B))) (hx : x.own = true) (hne : i ≠ j) : Sat cx β n H (sepF (A ++ x :: B) :: dropIx [i, j] 0 F) w := by
  have h1 := h.get i hi
  have h2 := h.get j hj
  have ap := h.apart (i := i) (j := j) (by rw [← nth_eq]; exact hi) (by rw [← nth_eq]; exact hj) hne (.inl hx)
  have htk : takeIx F [i, j] = [x, sepF (A ++ B)] := by simp only [takeIx, hi, hj]
  have hin : ∀ k, Un (A ++ x :: B) k → x.D k ∨ Un (A ++ B) k := by
    intro k hk
    rcases Un.app.1 hk with hk | hk
    · exact .inr (Un.app.2 (.inl hk))
    · rcases Un.cons.1 hk with hk | hk
      · exact .inl hk
      · exact .inr (Un.app.2 (.inr hk))
  refine h.swap [i, j] (by rw [htk]; exact ⟨hx, rfl, trivial⟩) (Fs := [sepF (A ++ x :: B)]) (Chg.refl _ _) ⟨fun f hf => ?_, fun f hf k hk => ?_, List.pairwise_singleton _ _⟩ (fun f hf k hk => ?_)
  · obtain rfl := List.mem_singleton.1 hf
    exact sep_mid.2 ⟨h1, h2, ap⟩
  · obtain rfl := List.mem_singleton.1 hf
    rcases hin k hk with q | q
    · exact h.getLt i hi k q
    · exact h.getLt j hj k q
  · obtain rfl := List.mem_singleton.1 hf
    rw [htk]
    rcases hin k hk with q | q
    · exact .inl ⟨x, List.mem_cons_self, q⟩
    · exact .inl ⟨_, List.mem_cons_of_mem _ List.mem_cons_self, q⟩
end

end Go.Proofs.YtgbnaifckclfoaaDoor.Sx

/- Sums that need a key: at once. -/
namespace Go.Proofs.YtgbnaifckclfoaaDoor.Sx
open Go
attribute [local irreducible] Calls

theorem join2_c (w : World) (b : Nat) (A1 A2 : Option Addr) (l1 l2 : List UInt8) (c1 c2 : Nat) (hP : Rd 1 (some ⟨b, 0, none⟩) 2 [.slice A1 l1.length c1, .slice A2 l2.length c2] w) (h1 : Bs w A1 l1) (h2 : Bs w A2 l2) (hn : l1.length + l2.length ≤ 100000000) :
    Con Tryd.prog n_bytes_Join #[.slice (some ⟨b, 0, none⟩) 2 2, .slice none 0 0] w [] (readOut (l1 ++ l2)) := by
  have h := joinN_c w b 2 [.slice A1 l1.length c1, .slice A2 l2.length c2] [l1, l2] hP (fun i v l hv hl => by
    match i with
    | 0 => cases hv; cases hl; exact Bs.holds h1 c1
    | 1 => cases hv; cases hl; exact Bs.holds h2 c2
    | n + 2 => simp at hv) (Nat.le_refl 2) (Nat.le_refl 2) (by show 2 ≤ 1000; decide) (by simp; omega)
  have e : [l1, l2].flatten = l1 ++ l2 := by simp
  rw [e] at h
  exact h
/-- One part, to be read. -/
theorem join1R_c (w : World) (P A : Option Addr) (cP c : Nat) (l : List UInt8) (hP : Rd 1 P 1 [.slice A l.length c] w) (hr : Bs w A l) (hn : l.length ≤ 100000000) :
    Con Tryd.prog n_bytes_Join #[.slice P 1 cP, .slice none 0 0] w [] (readOut l) := by
  refine Calls.mono (join1_c w P A cP c l hP hr (by omega)) ?_
  rintro e w' ⟨v, rfl, hf⟩
  refine ⟨v, rfl, hf.recast ?_⟩
  rintro Fs ⟨A', c', rfl, q1, q2, rfl⟩ hp
  exact ⟨[rdoF 1 A' l.length (l.map byte)], ⟨A', c', rfl, q1, q2, rfl⟩, .cons ⟨rfl, fun h => row_rd h, browRoD (hp _ List.mem_cons_self)⟩ .nil⟩
/-- A sum with a key. -/
theorem hsum_c (w : World) (A P : Option Addr) (key text : List UInt8) (c nP cP : Nat) (hr : Bs w A key) (hk : key.length ≤ 1000000) (ht : text.length ≤ 1000000) (hj : ∀ w', (oldF w).p w' → Con Tryd.prog n_bytes_Join #[.slice P nP cP, .slice none 0 0] w' [] (readOut text)) (h1 : (oddF 3).p w) (h0 : (firstF 1).p w) :
    Con Tryd.prog n_hmac_Sum #[.slice A key.length c, .slice P nP cP] w [] fun v Fs => ∃ A' c', v = .slice A' 32 c' ∧ 32 ≤ c' ∧ c' ≤ maxLen ∧ Fs = [browF ty_uint8 A' (hmL key text) c'] := by
  have g := good_hmac_Sum w (Un [])
  refine con_of_sx (cx := cx_hmac_Sum w (Un [])) g b_hmac_Sum rfl rfl (β := Va.z) [.c (.v (.slice A key.length c)), .c (.v (.slice P nP cP))] 0 [] [oldF w] rfl rfl (old_sat rfl) ?_
  refine call_con [] (fun β w' hs => pad_c w' A key c 0x36 (Rd.old hr (hs.get 0 rfl)) hk (Rd.old h1 (hs.get 0 rfl)) (Rd.old h0 (hs.get 0 rfl))) ?_
  rintro v Fs ⟨p1, j1, rfl, rfl⟩
  refine call_con [] (fun β w' hs => hj w' (hs.get 1 rfl)) ?_
  rintro v Fs ⟨A1, c1, rfl, _, _, rfl⟩
  intro b1
  have l64 : ∀ x, (padL key x).length = 64 := padL_len key
  refine call_con [] (fun β w' hs => sumJ_c w' (some ⟨b1, 0, none⟩) 2 2 (padL key 0x36 ++ text) (fun w2 ho => by
    have q := join2_c w2 b1 (some ⟨p1, 0, none⟩) A1 (padL key 0x36) text 64 c1 (by rw [l64]; exact Rd.old (row_rd (hs.get 0 rfl)) ho) (Rd.old (bk_bs (hs.get 2 rfl)) ho) (Rd.old (rdo_rd (hs.get 1 rfl)) ho) (by rw [l64]; omega)
    exact q) (by rw [List.length_append, l64]; omega) (Rd.old h1 (hs.get 3 rfl)) (Rd.old h0 (hs.get 3 rfl))) ?_
  rintro v Fs ⟨A2, c2, rfl, _, _, rfl⟩
  refine call_con [] (fun β w' hs => pad_c w' A key c 0x5c (Rd.old hr (hs.get 4 rfl)) hk (Rd.old h1 (hs.get 4 rfl)) (Rd.old h0 (hs.get 4 rfl))) ?_
  rintro v Fs ⟨p2, j2, rfl, rfl⟩
  intro b2
  have ls : (Sha.sum (padL key 0x36 ++ text)).length = 32 := sum_len _
  refine call_con [] (fun β w' hs => sumJ_c w' (some ⟨b2, 0, none⟩) 2 2 (padL key 0x5c ++ Sha.sum (padL key 0x36 ++ text)) (fun w2 ho => by
    have q := join2_c w2 b2 (some ⟨p2, 0, none⟩) A2 (padL key 0x5c) (Sha.sum (padL key 0x36 ++ text)) 64 c2 (by rw [l64, ls]; exact Rd.old (row_rd (hs.get 0 rfl)) ho) (Rd.old (bk_bs (hs.get 1 rfl)) ho) (Rd.old (row_rd (hs.get 2 rfl)) ho) (by rw [l64, ls]; decide)
    exact q) (by rw [List.length_append, l64, ls]; decide) (Rd.old h1 (hs.get 6 rfl)) (Rd.old h0 (hs.get 6 rfl))) ?_
  rintro v Fs ⟨A3, c3, rfl, h5, h6, rfl⟩
  intro β w' hs
  exact hs.fin [0] ⟨A3, c3, rfl, h5, h6, rfl⟩
end Go.Proofs.YtgbnaifckclfoaaDoor.Sx

/- slices.Sort at numbers, as a contract. -/
namespace Go.Proofs.YtgbnaifckclfoaaDoor.Sx
open Go
attribute [local irreducible] Calls

def sortN (l : List Nat) : List Nat := l.mergeSort (fun x y => decide (x ≤ y))
theorem sortN_len (l : List Nat) : (sortN l).length = l.length := by simp [sortN]
end Go.Proofs.YtgbnaifckclfoaaDoor.Sx

/- Bytes, one by one. -/
namespace Go.Proofs.YtgbnaifckclfoaaDoor.Sx
open Go
attribute [local irreducible] Calls

theorem xorB_len (a b : List UInt8) : (Bx.xorB a b).length = min a.length b.length := by simp [Bx.xorB]
end Go.Proofs.YtgbnaifckclfoaaDoor.Sx

/- The reference's sums with a key. -/
namespace Go.Proofs.YtgbnaifckclfoaaDoor.Sx
open Go
attribute [local irreducible] Calls

/-- A row of bytes, from now on to be read. -/
theorem Sat.ro {cx : Cx} {β : Va} {n : Nat} {H : List Bk} {F : List Fact} {w : World} (h : Sat cx β n H F w) (j : Nat) {e : Nat} {A : Option Addr} {l : List UInt8} {c : Nat} (hj : nth F j = some (browF e A l c)) : Sat cx β n H (putAt F j (bsF A l)) w := by
  have hp := h.get j hj
  exact h.upd hj rfl (Chg.refl _ _) (row_rd hp) (fun k hk => .inl (browRoD hp k hk))
/-! ### turned -/
end Go.Proofs.YtgbnaifckclfoaaDoor.Sx

/- The reference's sums with a key; a password that is stretched. -/
namespace Go.Proofs.YtgbnaifckclfoaaDoor.Sx
open Go
attribute [local irreducible] Calls

end Go.Proofs.YtgbnaifckclfoaaDoor.Sx

/- A sum that grows: the table of its state; new; copied. -/
namespace Go.Proofs.YtgbnaifckclfoaaDoor.Sx
open Go Sha
attribute [local irreducible] Calls

/-! ### plainly -/
/-! ### in memory -/
def ptrB (b : Nat) : Value := .pointer (some ⟨b, 0, none⟩)
end Go.Proofs.YtgbnaifckclfoaaDoor.Sx

/- A sum that grows: written to; its value. -/
namespace Go.Proofs.YtgbnaifckclfoaaDoor.Sx
open Go Sha
attribute [local irreducible] Calls

end Go.Proofs.YtgbnaifckclfoaaDoor.Sx

/- A sum that grows: its value. -/
namespace Go.Proofs.YtgbnaifckclfoaaDoor.Sx
open Go Sha
attribute [local irreducible] Calls

end Go.Proofs.YtgbnaifckclfoaaDoor.Sx

/- Statements one by one: so that a rule stands at each. -/
namespace Go.Proofs.YtgbnaifckclfoaaDoor.Sx
open Go

section
variable {cx : Cx} {n : Nat} {H : List Bk} {F : List Fact} {w : World}
theorem calls_of_tri {f : FuncId} {fn : Func} {c : Code} {R : Value → World → Prop} (g : Good cx) (hf : cx.P.funcs[f]? = some fn) (hb : fn.body = some c) (hN : fn.ntmps = cx.N)
    {β : Va} (svs : List SV) (n : Nat) (H : List Bk) (F : List Fact) (hlen : Nat.ble svs.length cx.N = true) (hltB : allLt n svs = true) (hs : Sat cx β n H F w)
    (hw : Tri cx c (fnPost cx fn.results.toList R) n (pairs 0 svs) H F) (hr : cx.rnd = none := by rfl) (hm : β.marks = [] := by rfl) (hp0 : cx.pn = [] := by rfl) :
    Calls cx.P f (svs.map (SV.val β)).toArray w fun e w' => ∃ v, e = .returned v ∧ R v w' := by
  have hfe : cx.fence = Fence.wide := by unfold Cx.fence; rw [hr]
  refine (callsIn_wide (n := 0)).1 (callsIn_of_wp_marks hf hb trivial ?_)
  have hlt := allLt_mem hltB
  have hlen' : svs.length ≤ cx.N := Nat.le_of_ble_eq_true hlen
  have hi : Inv cx β n (pairs 0 svs) H F { tmps := (svs.map (SV.val β)).toArray ++ Array.replicate (fn.ntmps - (svs.map (SV.val β)).toArray.size) undef, defers := [] } w := by
    refine ⟨fun t s ht => ?_, ?_, by rw [hm]; rfl, fun t s ht => ?_, hs⟩
    · obtain ⟨j, rfl, hj⟩ := pairs_get svs 0 t s ht
      have hjl : j < svs.length := (List.getElem?_eq_some_iff.1 hj).1
      rw [Array.getElem?_append_left (by simp; omega)]
      simp [hj]
    · simp [hN]; omega
    · obtain ⟨j, rfl, hj⟩ := pairs_get svs 0 t s ht
      exact hlt s (List.mem_of_getElem? hj)
  have h0 := hw.run β _ w hi
  rw [hfe] at h0
  refine wpIn_mono h0 fun e a' w' hq => ?_
  have key : After cx (RetWP cx fn.results.toList R) a' w' → LeavesInM Fence.wide 0 cx.P fn a'.tmps (fun e w' => ∃ v, e = .returned v ∧ R v w') a'.defers .returning w' := by
    rintro ⟨β', n', env', H', F', h', hp⟩
    rw [← hfe]
    have hd := h'.df
    obtain ⟨tmps, defers⟩ := a'
    simp only at hd
    subst hd
    exact leaves_sx g hr hp0 _ β' w' rfl h' hp
  cases e with
  | normal => exact key hq
  | ret => exact key hq
  | exit id => obtain ⟨_, _, _, _, _, _, hq⟩ := hq; exact hq.elim
  | goto l => obtain ⟨_, _, _, _, _, _, hq⟩ := hq; exact hq.elim
  | panic ch => exact hq.elim
  | outgrown => exact hq.elim
theorem con_of_tri {f : FuncId} {fn : Func} {c : Code} {Gs : List Fact} {R : Value → List Fact → Prop} (g : Good cx) (hf : cx.P.funcs[f]? = some fn) (hb : fn.body = some c) (hN : fn.ntmps = cx.N)
    {β : Va} (svs : List SV) (n : Nat) (H : List Bk) (F : List Fact) (hlen : Nat.ble svs.length cx.N = true) (hltB : allLt n svs = true) (hs : Sat cx β n H F w)
    (hw : Tri cx c (fnPost cx fn.results.toList (Fin w Gs R)) n (pairs 0 svs) H F) (hr : cx.rnd = none := by rfl) (hm : β.marks = [] := by rfl) (hp0 : cx.pn = [] := by rfl) :
    Con cx.P f (svs.map (SV.val β)).toArray w Gs R := calls_of_tri g hf hb hN svs n H F hlen hltB hs hw hr hm hp0
theorem tri_seq (g : Good cx) {c1 c2 : Code} {Q : Exit → KT} {env : Env} (h : cwp cx c1 (andThen (fun n env H F => Tri cx c2 Q n env H F) Q) n env H F) : Tri cx (.seq c1 c2) Q n env H F := by
  refine ⟨fun β a w hi => wpIn_seq (wpIn_mono ((cwp_sound g c1 _ n env H F h).run β a w hi) fun e a w hq => ?_)⟩
  cases e with
  | normal =>
    obtain ⟨β', n', env', H', F', h', hq'⟩ := hq
    exact hq'.run β' a w h'
  | exit i => exact hq
  | goto l => exact hq
  | ret => exact hq
  | panic c => exact hq
  | outgrown => exact hq
theorem tri_of (g : Good cx) {c : Code} {Q : Exit → KT} {env : Env} (h : cwp cx c Q n env H F) : Tri cx c Q n env H F := cwp_sound g c Q n env H F h
end
end Go.Proofs.YtgbnaifckclfoaaDoor.Sx

/- A sum with a key that grows. -/
namespace Go.Proofs.YtgbnaifckclfoaaDoor.Sx
open Go
attribute [local irreducible] Calls

/-! ### begun -/
end Go.Proofs.YtgbnaifckclfoaaDoor.Sx

/- One sum of parts, by a Mac that is kept. -/
namespace Go.Proofs.YtgbnaifckclfoaaDoor.Sx
open Go
attribute [local irreducible] Calls

abbrev Part := Option Addr × List UInt8 × Nat
def partV (p : Part) : Value := .slice p.1 p.2.1.length p.2.2
def partsT (ps : List Part) : List UInt8 := ps.flatMap (·.2.1)
/-- Parts, to be read. -/
def partF (P : Option Addr) (ps : List Part) : Fact where
  own := false
  D := fun k => (rdF 1 P ps.length (ps.map partV)).D k ∨ ∃ p ∈ ps, (bsF p.1 p.2.1).D k
  p := fun w => Rd 1 P ps.length (ps.map partV) w ∧ ∀ p ∈ ps, Bs w p.1 p.2.1
  st := fun w w' hs h => ⟨(rdF 1 P ps.length (ps.map partV)).st w w' (fun k hk => hs k (.inl hk)) h.1, fun p hp => (bsF p.1 p.2.1).st w w' (fun k hk => hs k (.inr ⟨p, hp, hk⟩)) (h.2 p hp)⟩
end Go.Proofs.YtgbnaifckclfoaaDoor.Sx

/- The pieces of a password that is stretched: the first. -/
namespace Go.Proofs.YtgbnaifckclfoaaDoor.Sx
open Go
attribute [local irreducible] Calls

section
variable {cx : Cx} {β : Va} {n : Nat} {H : List Bk} {F : List Fact} {w : World}
theorem Sat.subN (h : Sat cx β n H F w) (js : List Nat) (hno : ∀ f ∈ takeIx F js, f.own = false) (g : Fact) (hgo : g.own = false) (hp : g.p w) (hD : ∀ k, g.D k → Un (takeIx F js) k) : Sat cx β n H (g :: F) w := by
  have hin : ∀ k, g.D k → ∃ (i : Nat) (f : Fact), F[i]? = some f ∧ f.own = false ∧ f.D k := fun k hk => by
    obtain ⟨f, hf, hfk⟩ := hD k hk
    obtain ⟨i, _, hi⟩ := takeIx_mem hf
    exact ⟨i, f, hi, hno f hf, hfk⟩
  refine h.old g hp (fun k hk => ?_) (fun b hb q => ?_) (fun q => by rw [hgo] at q; cases q) (fun g' hg' ho k hk hk' => ?_) (fun p hpp q => ?_)
  · obtain ⟨i, f, hi, _, hfk⟩ := hin k hk
    exact h.flt f (List.mem_of_getElem? hi) k hfk
  · obtain ⟨i, f, hi, _, hfk⟩ := hin _ q
    exact h.sepb f (List.mem_of_getElem? hi) b hb hfk
  · have ho' : g'.own = true := ho.resolve_left (by rw [hgo]; decide)
    obtain ⟨i, f, hi, hfo, hfk⟩ := hin k hk
    obtain ⟨j, hj⟩ := List.getElem?_of_mem hg'
    have hne : j ≠ i := fun q => by subst q; rw [hj] at hi; obtain rfl := Option.some.inj hi; rw [hfo] at ho'; cases ho'
    exact h.apart hj hi hne (.inl ho') k hk' hfk
  · obtain ⟨i, f, hi, _, hfk⟩ := hin _ q
    exact (h.pin p hpp).2.2 f (List.mem_of_getElem? hi) hfk
theorem rowD {e size : Nat} {A : Option Addr} {k c : Nat} {xs : List Value} {w : World} (h : (rowF e size (.slice A k c) k xs).p w) : ∀ b, (rdF size A k xs).D b → (rowF e size (.slice A k c) k xs).D b := by
  rintro b ⟨h0, ad, q, rfl⟩
  have hk : 0 < k := Nat.pos_of_ne_zero (fun q => by rw [q, Nat.zero_mul] at h0; exact Nat.lt_irrefl _ h0)
  rcases h.2 with ⟨he, h0⟩ | ⟨g, cap, cur, he, _⟩
  · omega
  · have hA : A = some ⟨g, 0, none⟩ := by injection he
    rw [q] at hA
    obtain rfl := Option.some.inj hA
    show Value.ownBlock (.slice A k c) = _
    rw [q]
    rfl
/-- A row, from now on to be read. -/
theorem Sat.rowRd (h : Sat cx β n H F w) (j : Nat) {e size : Nat} {A : Option Addr} {k c : Nat} {xs : List Value} (hj : nth F j = some (rowF e size (.slice A k c) k xs)) : Sat cx β n H (putAt F j (rdF size A k xs)) w := by
  have hp := h.get j hj
  exact h.upd hj rfl (Chg.refl _ _) (row_rd hp) (fun b hb => .inl (rowD hp b hb))
/-- Parts that lie about, as one. -/
theorem Sat.part1 {P A : Option Addr} {l : List UInt8} {c : Nat} (h : Sat cx β n H F w) (js : List Nat) (hj : takeIx F js = [rdF 1 P 1 [.slice A l.length c], bsF A l]) : Sat cx β n H (partF P [(A, l, c)] :: F) w := by
  have hP : Rd 1 P 1 [.slice A l.length c] w := h.fact _ (by
    have : rdF 1 P 1 [.slice A l.length c] ∈ takeIx F js := by rw [hj]; simp
    obtain ⟨i, _, hi⟩ := takeIx_mem this
    exact List.mem_of_getElem? hi)
  have hA : Bs w A l := h.fact (bsF A l) (by
    have : bsF A l ∈ takeIx F js := by rw [hj]; simp
    obtain ⟨i, _, hi⟩ := takeIx_mem this
    exact List.mem_of_getElem? hi)
  refine h.subN js (fun f hf => ?_) _ rfl ⟨hP, fun p hp => ?_⟩ (fun k hk => ?_)
  · rw [hj] at hf
    simp only [List.mem_cons, List.not_mem_nil, or_false] at hf
    rcases hf with rfl | rfl <;> rfl
  · obtain rfl := List.mem_singleton.1 hp; exact hA
  · rw [hj]
    rcases hk with hk | ⟨p, hp, hk⟩
    · exact ⟨_, List.mem_cons_self, hk⟩
    · obtain rfl := List.mem_singleton.1 hp
      exact ⟨_, List.mem_cons_of_mem _ List.mem_cons_self, hk⟩
end
end Go.Proofs.YtgbnaifckclfoaaDoor.Sx

/- A password's key, of 32 bytes. -/
namespace Go.Proofs.YtgbnaifckclfoaaDoor.Sx
open Go
attribute [local irreducible] Calls

end Go.Proofs.YtgbnaifckclfoaaDoor.Sx

/- Two sums, turned. -/
namespace Go.Proofs.YtgbnaifckclfoaaDoor.Sx
open Go
attribute [local irreducible] Calls

/-- What stands in one list and not in the other. -/
def notIn (l m : List Nat) : List Nat := l.filter fun x => !decide (x ∈ m)
end Go.Proofs.YtgbnaifckclfoaaDoor.Sx

/- Two tags, turned. -/
namespace Go.Proofs.YtgbnaifckclfoaaDoor.Sx
open Go
attribute [local irreducible] Calls

/-- What a sum of the box's must be. -/
structure OkS (l : List Nat) (m : List UInt8) : Prop where
  len : l.length ≤ 4096
  nums : ∀ n ∈ l, n ≤ 4096
  mask : m.length = 32
def mixL (l1 l2 : List Nat) : List Nat := sortN (notIn l1 l2 ++ notIn l2 l1)
def turnT (L : List Nat) (M : List UInt8) : Bx.Term := ⟨4, [], [], 0, L, M⟩
end Go.Proofs.YtgbnaifckclfoaaDoor.Sx

/- The symbolic box's example of BoxHandles: plainly. -/
namespace Go.Proofs.YtgbnaifckclfoaaDoor.Sx
open Go

def tA : Bx.Term := hashT [97]
def tB : Bx.Term := hashT [98]
def B1 : Bx.Box := ⟨true, false, [tA]⟩
def B2 : Bx.Box := ⟨true, false, [tA, tB]⟩
theorem opens_h {B : Bx.Box} {n : Nat} {t : Bx.Term} (hs : B.sym = true) (hn : n < 4294967296) (h0 : 1 ≤ n) (hl : n ≤ B.L.length) (ht : B.L[n - 1]? = some t) : B.opens (Bx.handle n) = if t.kind = 4 then some (t.list, t.mask) else some ([n], Bx.noughts) :=
  Bx.opens_in (Bx.handle_len n) hs (List.take_left' Bx.front_len) (by rw [show (Bx.handle n).drop 28 = Bx.be4 n from List.drop_left' Bx.front_len, Bx.num_be4 hn]) (by omega) ht
end Go.Proofs.YtgbnaifckclfoaaDoor.Sx

/- The symbolic box's example of BoxHandles. -/
namespace Go.Proofs.YtgbnaifckclfoaaDoor.Sx
open Go
attribute [local irreducible] Calls

theorem newX_c (w : World) (sym : Bool) : Con Tryd.prog n_box_New #[.bool sym] w [] fun v Fs => ∃ b y, v = .pointer (some ⟨b, 0, none⟩) ∧ y.ts = [] ∧ Fs = [bxF b ⟨sym, false, []⟩ y] := by
  refine con_of_sx (cx := cx_box_New w (Un [])) (good_box_New w (Un [])) b_box_New rfl rfl (β := Va.z) [.c (.v (.bool sym))] 0 [] [] rfl rfl (Sat.start rfl) ?_
  intro m
  intro β w' hs
  have h2 := (hs.ofBk.nilRow ty_box_Term 6).noMem (partsF []) (fun _ h => (by cases h)) (fun k hk => by obtain ⟨p, hp, _⟩ := hk; cases hp)
  exact (h2.sep [2, 1, 3, 0] rfl ⟨rfl, rfl, rfl, rfl, trivial⟩).fin [0] ⟨_, ⟨none, 0, m, []⟩, rfl, rfl, rfl⟩
end Go.Proofs.YtgbnaifckclfoaaDoor.Sx

/- The program's box: hashes, sums with a key, stretched passwords; plain and symbolic. -/
namespace Go.Proofs.YtgbnaifckclfoaaDoor.Sx
open Go
attribute [local irreducible] Calls

def macT (k t : List UInt8) : Bx.Term := ⟨2, k, t, 0, [], []⟩
noncomputable def macB (B : Bx.Box) (k t : List UInt8) : List UInt8 × Bx.Box := if B.sym then B.tag (macT k t) else (hmL k t, B)
/-- What a box tells, in memory; the box behind it. -/
def boxOut (b : Nat) (r : List UInt8 × Bx.Box) (v : Value) (Fs : List Fact) : Prop :=
  ∃ A c y', v = .slice A 32 c ∧ 32 ≤ c ∧ c ≤ maxLen ∧ y'.ts.map (·.1) = r.2.L ∧ Fs = [browF ty_uint8 A r.1 c, bxF b r.2 y']
theorem Sat.unown {cx : Cx} {β : Va} {n : Nat} {H : List Bk} {F : List Fact} {w : World} (h : Sat cx β n H F w) (j : Nat) {size : Nat} {A : Option Addr} {k : Nat} {xs : List Value} (hj : nth F j = some (rdoF size A k xs)) : Sat cx β n H (putAt F j (rdF size A k xs)) w :=
  h.upd hj rfl (Chg.refl _ _) (show (rdF size A k xs).p w from rdo_rd (h.get j hj)) (fun _ hk => .inl hk)
theorem Sat.trd {cx : Cx} {β : Va} {n : Nat} {H : List Bk} {F : List Fact} {w : World} (h : Sat cx β n H F w) (js : List Nat) (t : Bx.Term) (a : TA) (hl : t.list = []) (hm : t.mask = []) (hj : takeIx F js = [bsF a.k t.key, bsF a.t t.text]) : Sat cx β n H (trdF t a :: F) w := by
  have get : ∀ f ∈ takeIx F js, f.p w := fun f hf => by obtain ⟨i, _, hi⟩ := takeIx_mem hf; exact h.fact f (List.mem_of_getElem? hi)
  refine h.subN js (fun f hf => ?_) _ rfl ⟨get (bsF a.k t.key) (by rw [hj]; simp), get (bsF a.t t.text) (by rw [hj]; simp), by rw [hl]; exact rd_nil w a.l, by rw [hm]; exact Bs.nil w a.m⟩ (fun k hk => ?_)
  · rw [hj] at hf
    simp only [List.mem_cons, List.not_mem_nil, or_false] at hf
    rcases hf with rfl | rfl <;> rfl
  · rw [hj]
    rcases hk with hk | hk | hk | hk
    · exact ⟨_, List.mem_cons_self, hk⟩
    · exact ⟨bsF a.t t.text, by simp, hk⟩
    · rw [hl] at hk
      exact absurd hk.1 (by simp)
    · rw [hm] at hk
      exact absurd hk.1 (by simp)
theorem parts_len {ps : List Part} : (ps.map (·.2.1)).flatten = partsT ps := by
  unfold partsT
  rw [List.flatMap_def]
/-- Parts, joined. -/
theorem joinP_c (w : World) (b0 : Nat) (ps : List Part) (cP : Nat) (h : (partF (some ⟨b0, 0, none⟩) ps).p w) (h0 : ps ≠ []) (hc : ps.length ≤ cP) (hl : ps.length ≤ 1000) (hn : (partsT ps).length ≤ 1000000) :
    Con Tryd.prog n_bytes_Join #[.slice (some ⟨b0, 0, none⟩) ps.length cP, .slice none 0 0] w [] (readOut (partsT ps)) := by
  match ps with
  | [] => exact absurd rfl h0
  | [p] =>
    have e : partsT [p] = p.2.1 := by simp [partsT]
    rw [e] at hn ⊢
    exact join1R_c w (some ⟨b0, 0, none⟩) p.1 cP p.2.2 p.2.1 h.1 (h.2 p List.mem_cons_self) (by omega)
  | p :: q :: r =>
    have k := joinN_c w b0 cP ((p :: q :: r).map partV) ((p :: q :: r).map (·.2.1)) (by rw [List.length_map]; exact h.1) (fun i v l hv hl => by
      rw [List.getElem?_map] at hv hl
      obtain ⟨x, hx, rfl⟩ := Option.map_eq_some_iff.1 hv
      obtain ⟨x', hx', rfl⟩ := Option.map_eq_some_iff.1 hl
      rw [hx] at hx'
      obtain rfl := Option.some.inj hx'
      exact Bs.holds (h.2 x (List.mem_of_getElem? hx)) x.2.2) (by simp) (by rw [List.length_map]; exact hc) (by rw [List.length_map]; exact hl) (by rw [parts_len]; omega)
    rw [List.length_map, parts_len] at k
    exact k
theorem partOld {P : Option Addr} {ps : List Part} {W w : World} (h : (partF P ps).p W) (ho : (oldF W).p w) : (partF P ps).p w := ⟨Rd.old h.1 ho, fun p hp => Rd.old (h.2 p hp) ho⟩
theorem macT_sz {k t : List UInt8} (hk : k.length ≤ 1000000) (hl : t.length ≤ 1000000) : TSz (macT k t) := ⟨by show 2 < 1000; decide, by show 0 < 1000; decide, hk, hl, Nat.zero_le _, fun _ h => (by cases h), Nat.zero_le _⟩
theorem macP_c (w : World) (b : Nat) (B : Bx.Box) (y : Lay) (K : Option Addr) (key : List UInt8) (cK : Nat) (b0 : Nat) (ps : List Part) (cP : Nat) (hts : y.ts.map (·.1) = B.L) (hL : B.L.length ≤ 4096) (hk : key.length ≤ 1000000) (h0 : ps ≠ []) (hc : ps.length ≤ cP) (hl : ps.length ≤ 1000) (hn : (partsT ps).length ≤ 1000000) (hm : Mem w [bxF b B y, partF (some ⟨b0, 0, none⟩) ps, bsF K key, oddF 3, firstF 1]) :
    Con Tryd.prog n_box_Box_Mac #[ptrB b, .slice K key.length cK, .slice (some ⟨b0, 0, none⟩) ps.length cP] w [bxF b B y] (boxOut b (macB B key (partsT ps))) := by
  have g := good_box_Box_Mac w (Un [bxF b B y])
  have hs0 : Sat (cx_box_Box_Mac w (Un [bxF b B y])) Va.z 0 [] [bxF b B y, partF (some ⟨b0, 0, none⟩) ps, bsF K key, oddF 3, firstF 1] w := hm.sat0 rfl (ownIn (Gs := [bxF b B y]) (fun f hf => by
    simp only [List.mem_cons, List.not_mem_nil, or_false] at hf
    rcases hf with rfl | rfl | rfl | rfl <;> rfl))
  refine con_of_sx (cx := cx_box_Box_Mac w (Un [bxF b B y])) g b_box_Box_Mac rfl rfl (β := Va.z) [.c (.v (ptrB b)), .c (.v (.slice K key.length cK)), .c (.v (.slice (some ⟨b0, 0, none⟩) ps.length cP))] 0 [] [bxF b B y, partF (some ⟨b0, 0, none⟩) ps, bsF K key, oddF 3, firstF 1] rfl rfl hs0 ?_
  cases hsym : B.sym with
  | true =>
    refine ⟨.bool true, fun β w' hs => box_cell (bx_bk (hs.get 0 rfl)) (o := 0) (by simp [boxCells, hsym]), ?_⟩
    refine call_con [] (fun β w' hs => joinP_c w' b0 ps cP (hs.get 1 rfl) h0 hc hl hn) ?_
    rintro v Fs ⟨A1, c1, rfl, q1, q2, rfl⟩
    refine call_con [1] (R := boxOut b (B.tag (macT key (partsT ps)))) (fun β w' hs => by
      have k2 := (hs.unown 0 rfl).trd [3, 0] (macT key (partsT ps)) ⟨K, A1, none, none, cK, c1, 0, 0⟩ rfl rfl rfl
      exact tag_c w' b B y (macT key (partsT ps)) ⟨K, A1, none, none, cK, c1, 0, 0⟩ hts hL (macT_sz hk hn) (k2.mem.take (js := [2, 0]) rfl)) ?_
    rintro v Fs ⟨A2, c2, y2, rfl, r1, r2, r3, rfl⟩
    intro β w' hs
    have e : macB B key (partsT ps) = B.tag (macT key (partsT ps)) := by unfold macB; rw [hsym]; rfl
    rw [e]
    exact hs.fin [0, 1] ⟨A2, c2, y2, rfl, r1, r2, r3, rfl⟩
  | false =>
    refine ⟨.bool false, fun β w' hs => box_cell (bx_bk (hs.get 0 rfl)) (o := 0) (by simp [boxCells, hsym]), ?_⟩
    refine call_con [] (fun β w' hs => hsum_c w' K (some ⟨b0, 0, none⟩) key (partsT ps) cK ps.length cP (hs.get 2 rfl) hk hn (fun w2 ho => joinP_c w2 b0 ps cP (partOld (hs.get 1 rfl) ho) h0 hc hl hn) (hs.get 3 rfl) (hs.get 4 rfl)) ?_
    rintro v Fs ⟨A2, c2, rfl, r1, r2, rfl⟩
    intro β w' hs
    have e : macB B key (partsT ps) = (hmL key (partsT ps), B) := by unfold macB; rw [hsym]; rfl
    rw [e]
    exact hs.fin [0, 1] ⟨A2, c2, y, rfl, r1, r2, hts, rfl⟩
end Go.Proofs.YtgbnaifckclfoaaDoor.Sx

/- The document's handles. -/
namespace Go.Proofs.YtgbnaifckclfoaaDoor.Sx
open Go
attribute [local irreducible] Calls

end Go.Proofs.YtgbnaifckclfoaaDoor.Sx

/- The reference's terms: lists of numbers compared, terms compared. -/
namespace Go.Proofs.YtgbnaifckclfoaaDoor.Sx
open Go
attribute [local irreducible] Calls

end Go.Proofs.YtgbnaifckclfoaaDoor.Sx

/- The reference's box in memory; a term's handle. -/
namespace Go.Proofs.YtgbnaifckclfoaaDoor.Sx
open Go
attribute [local irreducible] Calls

end Go.Proofs.YtgbnaifckclfoaaDoor.Sx

/- The reference's box: hashes, sums with a key, stretched passwords. -/
namespace Go.Proofs.YtgbnaifckclfoaaDoor.Sx
open Go
attribute [local irreducible] Calls

end Go.Proofs.YtgbnaifckclfoaaDoor.Sx

/- The reference's box: a tag, opened. -/
namespace Go.Proofs.YtgbnaifckclfoaaDoor.Sx
open Go
attribute [local irreducible] Calls

end Go.Proofs.YtgbnaifckclfoaaDoor.Sx

/- The reference's box: two tags, turned. -/
namespace Go.Proofs.YtgbnaifckclfoaaDoor.Sx
open Go
attribute [local irreducible] Calls

/-- The numbers up to k that stand in just one of two lists. -/
def symL (l1 l2 : List Nat) (k : Nat) : List Nat := (List.range' 1 k).filter fun n => decide (n ∈ l1) != decide (n ∈ l2)
theorem symL_len (l1 l2 : List Nat) (k : Nat) : (symL l1 l2 k).length ≤ k := by
  have h := List.length_filter_le (fun n => decide (n ∈ l1) != decide (n ∈ l2)) (List.range' 1 k)
  rw [List.length_range'] at h
  exact h
theorem symL_mix {l1 l2 : List Nat} {N : Nat} (d1 : l1.Nodup) (d2 : l2.Nodup) (h1 : ∀ n ∈ l1, 1 ≤ n ∧ n ≤ N) (h2 : ∀ n ∈ l2, 1 ≤ n ∧ n ≤ N) : symL l1 l2 N = mixL l1 l2 := by
  have hp : (symL l1 l2 N).Perm (notIn l1 l2 ++ notIn l2 l1) := by
    refine (List.perm_ext_iff_of_nodup ?_ ?_).2 (fun n => ?_)
    · exact List.Nodup.sublist List.filter_sublist (List.nodup_range' 1)
    · refine List.nodup_append.2 ⟨List.Nodup.sublist List.filter_sublist d1, List.Nodup.sublist List.filter_sublist d2, ?_⟩
      intro x hx y hy q
      subst q
      have a := (List.mem_filter.1 hx).2
      have b := (List.mem_filter.1 hy).1
      simp [b] at a
    · simp only [symL, notIn, List.mem_filter, List.mem_append, List.mem_range'_1]
      have k1 := h1 n
      have k2 := h2 n
      by_cases a : n ∈ l1 <;> by_cases b : n ∈ l2 <;> simp [a, b]
      · have := k1 a; omega
      · have := k2 b; omega
  have hs : (mixL l1 l2).Perm (notIn l1 l2 ++ notIn l2 l1) := List.mergeSort_perm _ _
  refine List.Perm.eq_of_pairwise (le := fun a b => a ≤ b) (fun a b _ _ p q => Nat.le_antisymm p q) ?_ ?_ (hp.trans hs.symm)
  · exact ((List.pairwise_lt_range' 1).sublist List.filter_sublist).imp (fun h => Nat.le_of_lt h)
  · have h := List.pairwise_mergeSort (le := fun x y : Nat => decide (x ≤ y)) (by simp only [decide_eq_true_eq]; omega) (by simp only [Bool.or_eq_true, decide_eq_true_eq]; omega) (notIn l1 l2 ++ notIn l2 l1)
    exact h.imp (fun h => of_decide_eq_true h)
theorem Con.grow {P : Program} {k : FuncId} {args : Array Value} {w : World} {Gs Gs' : List Fact} {R : Value → List Fact → Prop} (hsub : ∀ k, Un Gs k → Un Gs' k) (h : Con P k args w Gs R) : Con P k args w Gs' R :=
  Calls.mono h fun _ _ ⟨v, he, Fs, hR, hc, hm, ho, hD⟩ => ⟨v, he, Fs, hR, hc.mono (fun i _ => hsub i), hm, ho, fun f hf k hk => (hD f hf k hk).imp_left (hsub k)⟩
/-- What a tag that is opened has. -/
def OkN (B : Bx.Box) (l : List Nat) (m : List UInt8) : Prop := OkS l m ∧ l.Nodup ∧ ∀ n ∈ l, 1 ≤ n ∧ n ≤ B.L.length
end Go.Proofs.YtgbnaifckclfoaaDoor.Sx

/- What a box holds, plainly: tags that are opened have one form; turned, they have it still. -/
namespace Go.Proofs.YtgbnaifckclfoaaDoor.Sx
open Go
attribute [local irreducible] Calls

/-- A sum that may be turned. -/
structure Nf (B : Bx.Box) (l : List Nat) (m : List UInt8) : Prop where
  mask : m.length = 32
  sorted : l.Pairwise (· < ·)
  nums : ∀ n ∈ l, 1 ≤ n ∧ n ≤ B.L.length
  base : ∀ n ∈ l, ∀ u, B.L[n - 1]? = some u → u.kind ≠ 4
structure K4 (B : Bx.Box) (t : Bx.Term) : Prop where
  nf : Nf B t.list t.mask
  form : t = turnT t.list t.mask
  one : ¬ (t.list.length = 1 ∧ t.mask = Bx.noughts)
  raw : ¬ (t.list = [] ∧ ¬ t.mask.take 28 = Bx.front)
structure BInv (B : Bx.Box) : Prop where
  sz : ∀ t ∈ B.L, TSz t
  nodup : B.L.Nodup
  k4 : ∀ t ∈ B.L, t.kind = 4 → K4 B t
  plain : B.sym = false → B.L = []
  len : B.L.length ≤ 4096
structure Ext (B B' : Bx.Box) : Prop where
  sym : B'.sym = B.sym
  full : B'.full = B.full
  len : B'.L.length ≤ B.L.length + 1
  inv : BInv B'
  mono : ∀ h r, B.opens h = some r → B'.opens h = some r
theorem Ext.refl {B : Bx.Box} (h : BInv B) : Ext B B := ⟨rfl, rfl, Nat.le_succ _, h, fun _ _ h => h⟩
theorem Nf.grow {B : Bx.Box} {l : List Nat} {m : List UInt8} (t : Bx.Term) (h : Nf B l m) : Nf { B with L := B.L ++ [t] } l m := by
  refine ⟨h.mask, h.sorted, fun n hn => ?_, fun n hn u hu => ?_⟩
  · have := h.nums n hn
    simp only [List.length_append, List.length_cons, List.length_nil]
    omega
  · have := h.nums n hn
    refine h.base n hn u ?_
    simp only at hu
    rw [List.getElem?_append_left (by omega)] at hu
    exact hu
theorem Nf.ok {B : Bx.Box} {l : List Nat} {m : List UInt8} (hi : BInv B) (h : Nf B l m) : OkN B l m := by
  have hnd : l.Nodup := h.sorted.imp (fun q => Nat.ne_of_lt q)
  refine ⟨⟨?_, fun n hn => ?_, h.mask⟩, hnd, h.nums⟩
  · have e := symL_mix (l2 := []) hnd List.nodup_nil h.nums (fun n hn => (by cases hn))
    have e2 : (mixL l []).length = l.length := by
      rw [mixL, sortN_len]
      have e3 : notIn l [] = l := List.filter_eq_self.2 (fun a _ => by simp)
      rw [e3]
      simp [notIn]
    have := symL_len l [] B.L.length
    rw [e, e2] at this
    have := hi.len
    omega
  · have := h.nums n hn
    have := hi.len
    omega
theorem opens_grow {B : Bx.Box} {t : Bx.Term} {h : List UInt8} {r : List Nat × List UInt8} (h0 : B.opens h = some r) : ({ B with L := B.L ++ [t] } : Bx.Box).opens h = some r := by
  unfold Bx.Box.opens at h0 ⊢
  split at h0
  · rename_i h32
    rw [if_pos h32]
    split at h0
    · rename_i hs
      rw [if_pos hs]
      split at h0
      · cases h0
      · rename_i hn
        have hn' : ¬ (Bx.num (h.drop 28) < 1 ∨ (B.L ++ [t]).length < Bx.num (h.drop 28)) := by
          rw [List.length_append]
          omega
        rw [if_neg hn']
        simp only
        rw [List.getElem?_append_left (by omega)]
        exact h0
    · rename_i hs
      rw [if_neg hs]
      exact h0
  · cases h0
end Go.Proofs.YtgbnaifckclfoaaDoor.Sx

/- A sum's one tag. -/
namespace Go.Proofs.YtgbnaifckclfoaaDoor.Sx
open Go
attribute [local irreducible] Calls

theorem K4.grow {B : Bx.Box} {t : Bx.Term} (u : Bx.Term) (h : K4 B t) : K4 { B with L := B.L ++ [u] } t := ⟨h.nf.grow u, h.form, h.one, h.raw⟩
theorem tag_ext {B : Bx.Box} (hi : BInv B) (hs : B.sym = true) (hl : B.L.length < 4096) {t : Bx.Term} (hz : TSz t) (h4 : t.kind = 4 → K4 B t) : Ext B (B.tag t).2 ∧ ∃ k, (B.tag t).1 = Bx.handle (k + 1) ∧ (B.tag t).2.L[k]? = some t := by
  unfold Bx.Box.tag
  cases hp : Bx.place t B.L with
  | some i => exact ⟨Ext.refl hi, i, rfl, Bx.place_some hp⟩
  | none =>
    simp only
    rw [if_neg (by omega)]
    refine ⟨⟨rfl, rfl, by simp, ⟨fun u hu => ?_, ?_, fun u hu hk => ?_, fun q => ?_, ?_⟩, fun h r q => opens_grow q⟩, B.L.length, rfl, by simp⟩
    · rcases List.mem_append.1 hu with hu | hu
      · exact hi.sz u hu
      · obtain rfl := List.mem_singleton.1 hu
        exact hz
    · refine List.nodup_append.2 ⟨hi.nodup, List.nodup_cons.2 ⟨fun q => (by cases q), List.nodup_nil⟩, fun a ha b hb q => ?_⟩
      obtain rfl := List.mem_singleton.1 hb
      exact Bx.place_none hp (q ▸ ha)
    · rcases List.mem_append.1 hu with hu | hu
      · exact (hi.k4 u hu hk).grow t
      · obtain rfl := List.mem_singleton.1 hu
        exact (h4 hk).grow u
    · rw [show ({ B with L := B.L ++ [t] } : Bx.Box).sym = B.sym from rfl, hs] at q
      cases q
    · simp only [List.length_append, List.length_cons, List.length_nil]
      omega
theorem mem_mix {l1 l2 : List Nat} {n : Nat} (h : n ∈ mixL l1 l2) : n ∈ l1 ∨ n ∈ l2 := by
  have h3 : n ∈ notIn l1 l2 ++ notIn l2 l1 := (List.mergeSort_perm _ _).mem_iff.1 h
  rcases List.mem_append.1 h3 with q | q
  · exact .inl (List.mem_filter.1 q).1
  · exact .inr (List.mem_filter.1 q).1
theorem Nf.mix {B : Bx.Box} {l1 l2 : List Nat} {m1 m2 : List UInt8} (h1 : Nf B l1 m1) (h2 : Nf B l2 m2) : Nf B (mixL l1 l2) (Bx.xorB m1 m2) := by
  have d1 : l1.Nodup := h1.sorted.imp (fun q => Nat.ne_of_lt q)
  have d2 : l2.Nodup := h2.sorted.imp (fun q => Nat.ne_of_lt q)
  refine ⟨by rw [xorB_len, h1.mask, h2.mask]; exact Nat.min_self _, ?_, fun n hn => ?_, fun n hn => ?_⟩
  · rw [← symL_mix d1 d2 h1.nums h2.nums]
    exact (List.pairwise_lt_range' 1).sublist List.filter_sublist
  · rcases mem_mix hn with q | q
    · exact h1.nums n q
    · exact h2.nums n q
  · rcases mem_mix hn with q | q
    · exact h1.base n q
    · exact h2.base n q
end Go.Proofs.YtgbnaifckclfoaaDoor.Sx

/- A box that has told something is a box. -/
namespace Go.Proofs.YtgbnaifckclfoaaDoor.Sx
open Go
attribute [local irreducible] Calls

/-- What a call of a box is told: new, open, and nothing else is shut. -/
def GoodT (B : Bx.Box) (r : List UInt8 × Bx.Box) : Prop := Ext B r.2 ∧ r.1.length = 32 ∧ ∃ q, r.2.opens r.1 = some q
theorem tag_good {B : Bx.Box} (hi : BInv B) (hs : B.sym = true) (hl : B.L.length < 4096) {t : Bx.Term} (hz : TSz t) (h4 : t.kind ≠ 4) : GoodT B (B.tag t) := by
  obtain ⟨he, k, hk, hkt⟩ := tag_ext hi hs hl hz (fun q => absurd q h4)
  refine ⟨he, by rw [hk]; rfl, ?_⟩
  rw [hk]
  have hlen := he.inv.len
  have hlt := (List.getElem?_eq_some_iff.1 hkt).1
  exact ⟨_, (opens_h (he.sym.trans hs) (by omega) (by omega) (by omega) hkt).trans (if_neg h4)⟩
theorem raw_good {B : Bx.Box} (hi : BInv B) (hs : B.sym = false) {h : List UInt8} (hh : h.length = 32) : GoodT B (h, B) :=
  ⟨Ext.refl hi, hh, _, Bx.opens_raw hh (fun q => by rw [hs] at q; cases q.1)⟩
theorem mac_good {B : Bx.Box} (hi : BInv B) (hl : B.L.length < 4096) {k t : List UInt8} (hk : k.length ≤ 1000000) (ht : t.length ≤ 1000000) : GoodT B (macB B k t) := by
  cases hs : B.sym with
  | true => rw [show macB B k t = B.tag (macT k t) by unfold macB; rw [hs]; rfl]; exact tag_good hi hs hl (macT_sz hk ht) (by show ¬ 2 = 4; decide)
  | false => rw [show macB B k t = (hmL k t, B) by unfold macB; rw [hs]; rfl]; exact raw_good hi hs (hmL_len k t)
end Go.Proofs.YtgbnaifckclfoaaDoor.Sx

/- A box's calls: what is told has its length. -/
namespace Go.Proofs.YtgbnaifckclfoaaDoor.Sx
open Go
attribute [local irreducible] Calls

/-- What a box tells, and the box behind it. -/
def outL (F : Bx.Box → Lay → Fact) (r : List UInt8 × Bx.Box) (v : Value) (Fs : List Fact) : Prop :=
  ∃ A c y', v = .slice A r.1.length c ∧ r.1.length ≤ c ∧ c ≤ maxLen ∧ y'.ts.map (·.1) = r.2.L ∧ Fs = [browF ty_uint8 A r.1 c, F r.2 y']
theorem boxOut_L {b : Nat} {r : List UInt8 × Bx.Box} {v : Value} {Fs : List Fact} (h : r.1.length = 32) (k : boxOut b r v Fs) : outL (bxF b) r v Fs := by
  obtain ⟨A, c, y', rfl, h1, h2, h3, rfl⟩ := k
  exact ⟨A, c, y', by rw [h], by rw [h]; exact h1, h2, h3, rfl⟩
theorem one_part (A : Option Addr) (l : List UInt8) (c : Nat) : partsT [(A, l, c)] = l := by simp [partsT]
theorem macL_c (w : World) (b : Nat) (B : Bx.Box) (y : Lay) (K : Option Addr) (key : List UInt8) (cK : Nat) (b0 : Nat) (A : Option Addr) (l : List UInt8) (c : Nat) (hts : y.ts.map (·.1) = B.L) (hi : BInv B) (hL : B.L.length < 4096) (hk : key.length ≤ 1000000) (hn : l.length ≤ 1000000) (hm : Mem w [bxF b B y, partF (some ⟨b0, 0, none⟩) [(A, l, c)], bsF K key, oddF 3, firstF 1]) :
    Con Tryd.prog n_box_Box_Mac #[ptrB b, .slice K key.length cK, .slice (some ⟨b0, 0, none⟩) 1 1] w [bxF b B y] (outL (bxF b) (macB B key l)) := by
  have k := macP_c w b B y K key cK b0 [(A, l, c)] 1 hts (by omega) hk (by simp) (Nat.le_refl 1) (by show 1 ≤ 1000; decide) (by rw [one_part]; exact hn) hm
  rw [one_part] at k
  exact k.mono fun v Fs h => boxOut_L (mac_good hi hL hk hn).2.1 h
end Go.Proofs.YtgbnaifckclfoaaDoor.Sx

/- A ring's new epoch. -/
namespace Go.Proofs.YtgbnaifckclfoaaDoor.Sx
open Go
attribute [local irreducible] Calls

structure RgOk (r : Rg) : Prop where
  rise : (r.ks.map (·.e)).Pairwise (· < ·)
  le : ∀ k ∈ r.ks, k.e ≤ r.epoch
  len : r.ks.length ≤ r.room
  room : r.room ≤ 8
  master : r.master.length ≤ 64
  ep : r.epoch < 98
def keyS : ByteArray := ⟨#[107, 101, 121, 32]⟩
def keyT (e : Nat) : ByteArray := keyS ++ decS e
/-- A ring with a key more. -/
def Rg.more (r : Rg) (A : Option Addr) (c : Nat) (p : List UInt8) : Rg := { r with epoch := r.epoch + 1, ks := r.ks ++ [⟨r.epoch + 1, A, c, p⟩] }
/-- Without the eldest, if they are too many. -/
def Rg.cut (r : Rg) : Rg := if r.room < r.ks.length then { r with ks := r.ks.tail } else r
theorem decS_size {u : Nat} (hu : u < 100) : (decS u).size ≤ 2 := by
  have h : ∀ u : _root_.Fin 100, (decS u.1).size ≤ 2 := by decide +kernel
  exact h ⟨u, hu⟩
theorem more_look {r : Rg} (hok : RgOk r) : ilook r.ml ((r.epoch + 1 : Nat) : Int) = none := by
  rw [Rg.ml, key_look]
  have : (r.ks.find? fun k => decide ((k.e : Int) = ((r.epoch + 1 : Nat) : Int))) = none := by
    refine List.find?_eq_none.2 fun k hk => ?_
    have := hok.le k hk
    simp
    omega
  rw [this]
  rfl
theorem iput_end : ∀ {l : MLI} {s : Int} {v : Value}, ilook l s = none → iput l s v = l ++ [(s, v)]
  | [], _, _, _ => rfl
  | (k, u) :: r, s, v, h => by
    simp only [ilook] at h
    split at h
    · cases h
    · rename_i hne
      simp only [iput, if_neg hne, List.cons_append]
      rw [iput_end h]
theorem more_rise {r : Rg} (hok : RgOk r) {A : Option Addr} {c : Nat} {p : List UInt8} : (r.more A c p).rise = (r.more A c p).es := by
  have h1 : ((r.ks ++ [(⟨r.epoch + 1, A, c, p⟩ : RKey)]).map (·.e)).Pairwise (· < ·) := by
    rw [List.map_append, List.pairwise_append]
    refine ⟨hok.rise, List.pairwise_singleton _ _, fun x hx y hy => ?_⟩
    obtain ⟨k, hk, rfl⟩ := List.mem_map.1 hx
    obtain rfl := List.mem_singleton.1 hy
    have := hok.le k hk
    show k.e < r.epoch + 1
    omega
  have h2 := List.pairwise_map.1 h1
  unfold Rg.rise
  refine List.mergeSort_of_pairwise (List.pairwise_map.2 (h2.imp fun {a b} q => ?_))
  simp
  omega
set_option maxHeartbeats 2000000 in
theorem rotate_c (w : World) (r : Rg) (B : Bx.Box) (y : Lay) (hok : RgOk r) (hts : y.ts.map (·.1) = B.L) (hi : BInv B) (hL : B.L.length < 4000) (hm : Mem w [rgF r, bxF r.bx B y, oddF 3, firstF 1]) :
    Con Tryd.prog n_ring_Ring_Rotate #[ptrR r.b] w [rgF r, bxF r.bx B y] fun v Fs => ∃ A c y', v = .tuple #[.int .u64 ((r.epoch + 1 : Nat) : Int), .int .i64 0] ∧ y'.ts.map (·.1) = (macB B r.master (keyT (r.epoch + 1)).data.toList).2.L ∧
      Fs = [rgF (r.more A c (macB B r.master (keyT (r.epoch + 1)).data.toList).1).cut, bxF r.bx (macB B r.master (keyT (r.epoch + 1)).data.toList).2 y'] := by
  have g := good_ring_Ring_Rotate w (Un [rgF r, bxF r.bx B y])
  have hml := maxLen_eq
  have hs0 : Sat (cx_ring_Ring_Rotate w (Un [rgF r, bxF r.bx B y])) Va.z 0 [] [rgF r, bxF r.bx B y, oddF 3, firstF 1] w := hm.sat0 rfl (ownIn (Gs := [rgF r, bxF r.bx B y]) (fun f hf => by
    simp only [List.mem_cons, List.not_mem_nil, or_false] at hf
    rcases hf with rfl | rfl <;> rfl))
  have hs1 := hs0.unsep 0 rfl
  obtain ⟨e, he⟩ : ∃ e, r.epoch = e := ⟨_, rfl⟩
  have hep := hok.ep
  have hma := hok.master
  refine con_of_sx (cx := cx_ring_Ring_Rotate w (Un [rgF r, bxF r.bx B y])) g b_ring_Ring_Rotate rfl rfl (β := Va.z) [.c (.v (ptrR r.b))] 0 [] _ rfl rfl hs1 ?_
  obtain ⟨x, hx⟩ : ∃ x : Int, (r.epoch : Int) = x := ⟨_, rfl⟩
  obtain ⟨x1, hx1⟩ : ∃ x1 : Int, ((r.epoch + 1 : Nat) : Int) = x1 := ⟨_, rfl⟩
  refine ⟨.int .u64 x, fun β w' hs => by rw [← hx]; exact cell_bk (hs.get 0 rfl) (o := 4) rfl, ?_⟩
  refine BIf.dec (fun h => absurd h (show ¬ (4294967296 : Int) ≤ x by omega)) (fun _ => ?_)
  refine ⟨.int .u64 x, fun β w' hs => by rw [← hx]; exact cell_bk (hs.get 0 rfl) (o := 4) rfl, ?_⟩
  refine ⟨x1, by rw [wrap_u64']; omega, ?_⟩
  refine ⟨_, fun β w' hs => hs.bkSet 0 (o := 4) (us := [.int .u64 x1]) rfl (by show 5 ≤ 5; decide) (one_mem rfl), ?_⟩
  have hds := decS_size (u := r.epoch + 1) (by omega)
  have hks : keyS.size = 4 := rfl
  have hkl : (keyT (r.epoch + 1)).data.toList.length ≤ 10 := by show (keyS ++ decS (r.epoch + 1)).size ≤ 10; rw [ByteArray.size_append]; omega
  refine draw_rule g p_ring_Ring_Rotate_6 (by kernel_rfl) [⟨0, ty_ptr_ring_Ring, [.v (ptrR r.b)]⟩] [bkF r.b ty_ring_Ring (putAll r.vs 4 [.int .u64 x1])] (subPerm [0]) ?_
  refine ⟨.map (some r.m), fun β w' hs => cell_bk (hs.get 0 rfl) (o := 3) rfl, ?_⟩
  refine ⟨.int .u64 x1, fun β w' hs => cell_bk (hs.get 0 rfl) (o := 4) rfl, ?_⟩
  refine ⟨.pointer (some ⟨r.bx, 0, none⟩), fun β w' hs => cell_bk (hs.get 0 rfl) (o := 0) rfl, ?_⟩
  refine ⟨.slice r.mA r.master.length r.mc, fun β w' hs => cell_bk (hs.get 0 rfl) (o := 1) rfl, ?_⟩
  refine ⟨.int .u64 x1, fun β w' hs => cell_bk (hs.get 0 rfl) (o := 4) rfl, ?_⟩
  refine call_pu (v := .string (decS (r.epoch + 1))) (fun β w' hs => by rw [← hx1]; exact fmtU_c w' (r.epoch + 1) (by omega)) ?_
  refine ⟨subPerm [0], ?_⟩
  refine ⟨by show keyS.size + (decS (r.epoch + 1)).size ≤ maxLen; omega, ?_⟩
  intro bb cb hcb _
  refine ⟨subPerm [1], ?_⟩
  intro br
  refine ⟨subPerm [2], ?_⟩
  refine call_con [6] (R := outL (bxF r.bx) (macB B r.master (keyT (r.epoch + 1)).data.toList)) (fun β w' hs => by
    have h2 := (((hs.rowRd 0 rfl).unown 1 rfl).ro 3 rfl).part1 (l := (keyT (r.epoch + 1)).data.toList) [0, 1] rfl
    exact macL_c w' r.bx B y r.mA r.master r.mc br (some ⟨bb, 0, none⟩) (keyT (r.epoch + 1)).data.toList cb hts hi (by omega) (by omega) (by omega) (h2.mem.take (js := [7, 0, 4, 8, 9]) rfl)) ?_
  rintro v Fs ⟨A, c, y1, rfl, q1, q2, hts1, rfl⟩
  refine ⟨subPerm [4], ?_⟩
  generalize macB B r.master (keyT (r.epoch + 1)).data.toList = k at *
  obtain ⟨kp, kB⟩ := k
  simp only at q1 hts1
  refine ⟨_, fun _ => _, fun β w' hs => hs.mapPutIY g 6 rfl (t := ty_map_uint64_sl_uint8) x1 (.slice A kp.length c), fun _ => ?_⟩
  refine ⟨subPerm [4], ?_⟩
  rw [show iput r.ml x1 (.slice A kp.length c) = (r.more A c kp).ml from by rw [iput_end (by rw [← hx1]; exact more_look hok)]; simp [Rg.ml, Rg.more, RKey.v, ← hx1]]
  have hx1' : x1 = ((r.more A c kp).epoch : Int) := hx1.symm
  have e1 : rgF (r.more A c kp) = sepF [bkF r.b ty_ring_Ring (putAll r.vs 4 [.int .u64 x1]), browF ty_uint8 r.mA r.master r.mc, mapIF .u64 r.m (r.more A c kp).ml, sepF (r.ks.map RKey.f ++ [browF ty_uint8 A kp c])] := by
    rw [hx1']
    unfold rgF
    simp [Rg.more, Rg.vs, putAll, putAt_eq, RKey.f]
  refine call_con [] (fun β w' hs => epochs_c w' (r.more A c kp)) ?_
  rintro v Fs ⟨bx2, rfl, rfl⟩
  refine range_rule (α := Int) (ι := Unit) (κ := Unit) g rfl (cv := [.pointer (some ⟨bx2, 0, none⟩)]) rfl (by kernel_rfl) 1 (Nat.le_refl 1)
    (fun pre _ => pre = []) (fun _ => [⟨0, ty_ptr_ring_Ring, [.v (ptrR r.b)]⟩]) (fun _ => [bxF r.bx kB y1]) (fun i => ⟨rfl, trivial⟩)
    (fun e _ _ => e = .exit 1) (fun _ => [⟨0, ty_ptr_ring_Ring, [.v (ptrR r.b)]⟩]) (fun _ => [rgF (r.more A c kp).cut, bxF r.bx kB y1]) (fun _ => ⟨rfl, rfl, trivial⟩)
    [bkF bx2 ty_ptr_ring_Ring [ptrR r.b], rgF (r.more A c kp)] [] [] ⟨rfl, rfl, trivial⟩ (fun g h => by cases h) () rfl
    (fun β w hs => ⟨β, Agr.refl _ _, by
      have h2 := hs.blur 1 8 (A := r.ks.map RKey.f) (B := []) (x := browF ty_uint8 A kp c) rfl (by show some (sepF (r.ks.map RKey.f)) = _; rw [List.append_nil]) rfl (by decide)
      have h3 := h2.sep [5, 6, 7, 0] rfl ⟨rfl, rfl, rfl, rfl, trivial⟩
      rw [e1]
      exact h3.perm [1, 0, 2]⟩) (insE (r.more A c kp) (r.more A c kp).rise)
    (fun xs Fs' => xs = (r.more A c kp).rise ∧ Fs' = onFst (r.more A c kp).rise [rgF (r.more A c kp)] []) (fun _ Fs' => Fs' = [])
    (fun l w f0 R J Jx hJ0 hJo hRo hY hm => (ep_it l w bx2 (r.more A c kp) f0 R J Jx (by have h1 := hok.len; have h2 := hok.room; show (r.ks ++ [_]).length ≤ 12; rw [List.length_append]; show r.ks.length + 1 ≤ 12; omega) hJ0 hJo hRo hY hm).mono fun _ Fs h => by
      obtain ⟨f, Fs', e0, h⟩ := h
      refine ⟨f, Fs', e0, ?_⟩
      rcases h with ⟨xs, a1, a2, a3⟩ | ⟨pre, a1, a2⟩
      · exact .inl ⟨xs, a1, a2, a3⟩
      · exact .inr ⟨pre, a1, a2⟩) ?_ ?_ ?_
  · rintro ⟨⟩ pre x args X W S' lb bs pn pn' hbs rfl ⟨rfl, rfl, hx0⟩
    refine ⟨_, rfl, ?_⟩
    obtain ⟨rm, hrm⟩ : ∃ rm : Int, (r.room : Int) = rm := ⟨_, rfl⟩
    refine draw_rule (rcx_good g) p_ring_Ring_Rotate_9 (by kernel_rfl) [⟨0, ty_ptr_ring_Ring, [.v (ptrR r.b)]⟩] [rgF (r.more A c kp)] (subPerm [0]) ?_
    refine ⟨.map (some r.m), fun β w' hs => cell_bk (rg_bk (hs.get 0 rfl)) (o := 3) rfl, ?_⟩
    refine ⟨(r.more A c kp).ml, fun β w' hs => rg_map (hs.get 0 rfl), ?_⟩
    refine ⟨.int .i64 rm, fun β w' hs => by rw [← hrm]; exact cell_bk (rg_bk (hs.get 0 rfl)) (o := 2) rfl, ?_⟩
    have hmll : (r.more A c kp).ml.length = (r.more A c kp).ks.length := by rw [Rg.ml, List.length_map]
    refine BIf.dec (fun hgt => ?_) (fun hle => ?_)
    · have hgt0 : rm < ((r.more A c kp).ml.length : Int) := hgt
      have hcut : (r.more A c kp).cut = { (r.more A c kp) with ks := (r.more A c kp).ks.tail } := by
        unfold Rg.cut
        rw [if_pos (by show r.room < _; omega)]
      refine ⟨.map (some r.m), fun β w' hs => cell_bk (rg_bk (hs.get 0 rfl)) (o := 3) rfl, ?_⟩
      obtain ⟨k0, t, hkt⟩ : ∃ k0 t, (r.more A c kp).ks = k0 :: t := by
        cases hq : (r.more A c kp).ks with
        | nil =>
          have h2 : (r.more A c kp).ks.length = r.ks.length + 1 := by show (r.ks ++ [_]).length = _; rw [List.length_append]; rfl
          rw [hq] at h2
          cases h2
        | cons k0 t => exact ⟨k0, t, rfl⟩
      have hxk : x = (k0.e : Int) := by
        rw [more_rise hok, Rg.es, hkt] at hx0
        exact (Option.some.inj hx0).symm
      have hdel : idel (r.more A c kp).ml x = (r.more A c kp).cut.ml := by
        rw [hcut, Rg.ml, Rg.ml, hkt, hxk]
        simp [idel]
      refine ⟨[⟨0, ty_ptr_ring_Ring, [.v (ptrR r.b)]⟩], [rgF (r.more A c kp).cut, bxF r.bx kB y1], .c (.v (.tuple #[])), fun β w' ty hs => ?_, trivial, ?_⟩
      · have h1 := Sat.unsep hs 0 rfl
        obtain ⟨w2, f1, f2⟩ := h1.mapDelI (rcx_good g) 2 rfl (t := ty_map_uint64_sl_uint8) (tk := ty_uint64) x ty _
        refine ⟨w2, f1, ?_⟩
        have h3 := f2.fuse [3] (sepF ((r.more A c kp).cut.ks.map RKey.f)) (fun w hm => by
          have h := hm.fact (sepF ((r.more A c kp).ks.map RKey.f)) List.mem_cons_self
          rw [hkt] at h
          rw [hcut, hkt]
          exact ⟨fun f hf => h.1 f (List.mem_cons_of_mem _ hf), (List.pairwise_cons.1 h.2).2⟩) (fun k hk => by
          refine ⟨sepF ((r.more A c kp).ks.map RKey.f), List.mem_cons_self, ?_⟩
          rw [hcut, hkt] at hk
          rw [hkt]
          obtain ⟨f, hf, hk⟩ := hk
          exact ⟨f, List.mem_cons_of_mem _ hf, hk⟩)
        have h4 := h3.sep [1, 2, 3, 0] rfl ⟨rfl, rfl, rfl, rfl, trivial⟩
        have e2 : rgF (r.more A c kp).cut = sepF [bkF (r.more A c kp).b ty_ring_Ring (r.more A c kp).vs, browF ty_uint8 (r.more A c kp).mA (r.more A c kp).master (r.more A c kp).mc, mapIF .u64 (r.more A c kp).m (idel (r.more A c kp).ml x), sepF ((r.more A c kp).cut.ks.map RKey.f)] := by
          rw [hdel]
          unfold rgF
          rw [hcut]
          rfl
        rw [e2]
        exact h4
      · exact ⟨(), rfl, Ent.mk' trivial rfl (fun β w hs => hs)⟩
    · have hle0 : ¬ rm < ((r.more A c kp).ml.length : Int) := hle
      have hcut : (r.more A c kp).cut = r.more A c kp := by
        unfold Rg.cut
        rw [if_neg (by show ¬ r.room < _; omega)]
      exact ⟨(), rfl, Ent.mk' trivial rfl (fun β w hs => by rw [hcut]; exact hs)⟩
  · rintro xs ⟨⟩ Fs rfl ⟨hxs, rfl⟩
    exfalso
    have h1 : (r.more A c kp).rise.length = (r.more A c kp).ks.length := by rw [Rg.rise, List.length_mergeSort, Rg.es, List.length_map]
    rw [← hxs] at h1
    have h2 : (r.more A c kp).ks.length = r.ks.length + 1 := by show (r.ks ++ [_]).length = _; rw [List.length_append]; rfl
    rw [h2] at h1
    cases h1
  · rintro e' pre ⟨⟩ Fs rfl rfl
    have hcb : (r.more A c kp).cut.b = r.b := by unfold Rg.cut; split <;> rfl
    have hcv : (r.more A c kp).cut.vs = (r.more A c kp).vs := by unfold Rg.cut; split <;> rfl
    refine ⟨.int .u64 x1, fun β w' hs => ?_, ?_⟩
    · have h := rg_bk (hs.get 0 rfl)
      rw [hcb, hcv] at h
      rw [← hx1]
      exact cell_bk h (o := 4) rfl
    intro β w' hs
    rw [← hx1] at *
    exact (hs.keepB (List.nil_sublist _)).fin [0, 1] ⟨A, c, y1, rfl, hts1, rfl⟩
end Go.Proofs.YtgbnaifckclfoaaDoor.Sx

/- Facts turned, a local block named, between two statements. -/
namespace Go.Proofs.YtgbnaifckclfoaaDoor.Sx
open Go

theorem tri_sat {cx : Cx} {c : Code} {Q : Exit → KT} {n : Nat} {env : Env} {H : List Bk} {F F' : List Fact} (hS : ∀ β w, Sat cx β n H F w → Sat cx β n H F' w) (h : Tri cx c Q n env H F') : Tri cx c Q n env H F :=
  ⟨fun β a w hi => h.run β a w ⟨hi.ag, hi.size, hi.df, hi.lte, hS β w hi.sat⟩⟩
theorem reify_tri {cx : Cx} {c : Code} {Q : Exit → KT} {n : Nat} {env : Env} {H : List Bk} {F : List Fact} (id : Nat) {ty : TypeId} {cs : List SL} (vs : Nat → List Value) (h1 : tyAt H id = some ty) (h2 : cellsAt H id = some cs) (h3 : ∀ b, allV (cs.map (SL.re id b)) = some (vs b))
    (h : ∀ b, Tri cx c Q n (envRe id b env) (bksRe id b H) (bkF b ty (vs b) :: F)) : Tri cx c Q n env H F :=
  tri_join (ι := Nat) (fun _ => True) n (fun b => envRe id b env) (fun b => bksRe id b H) (fun b => bkF b ty (vs b) :: F) (fun b _ => h b) (EntX.reify id vs h1 h2 h3 (fun b => EntX.of b trivial ⟨fun β a w hi => ⟨β, rfl, rfl, hi⟩⟩))
end Go.Proofs.YtgbnaifckclfoaaDoor.Sx

/- A new ring. -/
namespace Go.Proofs.YtgbnaifckclfoaaDoor.Sx
open Go
attribute [local irreducible] Calls

theorem more_ok {r : Rg} (hok : RgOk r) (hep : r.epoch + 1 < 98) {A : Option Addr} {c : Nat} {p : List UInt8} : RgOk (r.more A c p).cut := by
  have h1 : ((r.ks ++ [(⟨r.epoch + 1, A, c, p⟩ : RKey)]).map (·.e)).Pairwise (· < ·) := by
    rw [List.map_append, List.pairwise_append]
    refine ⟨hok.rise, List.pairwise_singleton _ _, fun x hx y hy => ?_⟩
    obtain ⟨k, hk, rfl⟩ := List.mem_map.1 hx
    obtain rfl := List.mem_singleton.1 hy
    have := hok.le k hk
    show k.e < r.epoch + 1
    omega
  have h2 : ∀ k ∈ r.ks ++ [(⟨r.epoch + 1, A, c, p⟩ : RKey)], k.e ≤ r.epoch + 1 := by
    intro k hk
    rcases List.mem_append.1 hk with hk | hk
    · have := hok.le k hk
      omega
    · obtain rfl := List.mem_singleton.1 hk
      exact Nat.le_refl _
  have h3 : (r.ks ++ [(⟨r.epoch + 1, A, c, p⟩ : RKey)]).length = r.ks.length + 1 := by rw [List.length_append]; rfl
  have hl := hok.len
  unfold Rg.cut
  split
  · refine ⟨?_, fun k hk => h2 k (List.mem_of_mem_tail hk), ?_, hok.room, hok.master, hep⟩
    · show (((r.ks ++ [(⟨r.epoch + 1, A, c, p⟩ : RKey)]).tail).map (·.e)).Pairwise (· < ·)
      exact h1.sublist ((List.tail_sublist _).map _)
    · show ((r.ks ++ [(⟨r.epoch + 1, A, c, p⟩ : RKey)]).tail).length ≤ r.room
      rw [List.length_tail, h3]
      omega
  · rename_i hn
    have hn2 : ¬ r.room < (r.ks ++ [(⟨r.epoch + 1, A, c, p⟩ : RKey)]).length := hn
    exact ⟨h1, h2, by show (r.ks ++ [(⟨r.epoch + 1, A, c, p⟩ : RKey)]).length ≤ r.room; omega, hok.room, hok.master, hep⟩
def ring0 (b bx : Nat) (mA : Option Addr) (mc : Nat) (master : List UInt8) (room m : Nat) : Rg := ⟨b, bx, mA, mc, master, room, m, [], 0⟩
theorem newR_c (w : World) (bx : Nat) (B : Bx.Box) (y : Lay) (M : Option Addr) (master : List UInt8) (cM room : Nat) (h1 : 1 ≤ master.length) (h2 : master.length ≤ 64) (h3 : 1 ≤ room) (h4 : room ≤ 8) (hts : y.ts.map (·.1) = B.L) (hi : BInv B) (hL : B.L.length < 4000) (hm : Mem w [bxF bx B y, bsF M master, oddF 3, firstF 1]) :
    Con Tryd.prog n_ring_New #[ptrB bx, .slice M master.length cM, .int .i64 (room : Int)] w [bxF bx B y] fun v Fs => ∃ b mA mc m A c y', v = .tuple #[ptrR b, .int .i64 0] ∧ y'.ts.map (·.1) = (macB B master (keyT 1).data.toList).2.L ∧
      Fs = [rgF ((ring0 b bx mA mc master room m).more A c (macB B master (keyT 1).data.toList).1).cut, bxF bx (macB B master (keyT 1).data.toList).2 y'] := by
  have g := good_ring_New w (Un [bxF bx B y])
  have hml := maxLen_eq
  have hs0 : Sat (cx_ring_New w (Un [bxF bx B y])) Va.z 0 [] [bxF bx B y, bsF M master, oddF 3, firstF 1] w := hm.sat0 rfl (ownIn (Gs := [bxF bx B y]) (fun f hf => by
    simp only [List.mem_cons, List.not_mem_nil, or_false] at hf
    rcases hf with rfl | rfl | rfl <;> rfl))
  obtain ⟨rm, hrm⟩ : ∃ rm : Int, (room : Int) = rm := ⟨_, rfl⟩
  rw [hrm]
  refine con_of_tri (cx := cx_ring_New w (Un [bxF bx B y])) g b_ring_New rfl rfl (β := Va.z) [.c (.v (ptrB bx)), .c (.v (.slice M master.length cM)), .c (.v (.int .i64 rm))] 0 [] _ rfl rfl hs0 ?_
  refine tri_seq g ?_
  refine tri_seq g ?_
  refine BIf.dec (fun h => absurd h (show ¬ (master.length : Int) < 1 by omega)) (fun _ => ?_)
  refine BIf.dec (fun h => absurd h (show ¬ (64 : Int) < (master.length : Int) by omega)) (fun _ => ?_)
  refine BIf.dec (fun h => absurd h (show ¬ rm < 1 by omega)) (fun _ => ?_)
  refine BIf.dec (fun h => absurd h (show ¬ (8 : Int) < rm by omega)) (fun _ => ?_)
  refine tri_seq g ?_
  refine call_con [] (fun β w' hs => clone_c w' M master cM (hs.get 1 rfl) (by omega)) ?_
  rintro v Fs ⟨mA, mc, rfl, q1, q2, rfl⟩
  intro m
  refine reify_tri 0 (fun _ => [.pointer (some ⟨bx, 0, none⟩), .slice mA master.length mc, .int .i64 rm, .map (some m), .int .u64 0]) rfl rfl (fun _ => rfl) (fun rb => ?_)
  refine tri_sat (F' := [rgF (ring0 rb bx mA mc master room m), bxF bx B y, oddF 3, firstF 1]) (fun β w' hs => by
    have h1 := (hs.emptyI (kk := .u64) 1 rfl).noMem (sepF []) ⟨fun f hf => (by cases hf), List.Pairwise.nil⟩ (fun k hk => by obtain ⟨f, hf, _⟩ := hk; cases hf)
    have h2 := h1.sep [1, 3, 2, 0] rfl ⟨rfl, rfl, rfl, rfl, trivial⟩
    have e : rgF (ring0 rb bx mA mc master room m) = sepF [bkF rb ty_ring_Ring [.pointer (some ⟨bx, 0, none⟩), .slice mA master.length mc, .int .i64 rm, .map (some m), .int .u64 0], browF ty_uint8 mA master mc, mapIF .u64 m [], sepF []] := by
      rw [← hrm]
      rfl
    rw [e]
    exact h2.perm [0, 1, 3, 4]) ?_
  have hok : RgOk (ring0 rb bx mA mc master room m) := ⟨List.Pairwise.nil, fun k hk => (by cases hk), Nat.zero_le _, h4, h2, by show 0 < 98; decide⟩
  refine tri_seq g ?_
  refine call_con [0, 1] (fun β w' hs => rotate_c w' (ring0 rb bx mA mc master room m) B y hok hts hi hL (hs.mem.take (js := [0, 1, 2, 3]) rfl)) ?_
  rintro v Fs ⟨A, c, y', rfl, hts', rfl⟩
  refine tri_seq g ?_
  refine tri_of g ?_
  intro β w' hs
  exact (hs.keepB (List.nil_sublist _)).fin [0, 1] ⟨rb, mA, mc, m, A, c, y', rfl, hts', rfl⟩
end Go.Proofs.YtgbnaifckclfoaaDoor.Sx

/- A ring's newest key. -/
namespace Go.Proofs.YtgbnaifckclfoaaDoor.Sx
open Go
attribute [local irreducible] Calls

def newestOut (r : Rg) (v : Value) (Fs : List Fact) : Prop := match r.key (r.epoch : Int) with
  | none => v = .tuple #[.int .u64 0, .slice none 0 0, .bool false] ∧ Fs = []
  | some k => ∃ A c, v = .tuple #[.int .u64 (r.epoch : Int), .slice A k.p.length c, .bool true] ∧ k.p.length ≤ c ∧ Fs = [browF ty_uint8 A k.p c]
theorem newest_c (w : World) (r : Rg) (h : (rgF r).p w) (hl : ∀ k, (rgF r).D k → k < w.heap.size) (hp : ∀ k ∈ r.ks, k.p.length ≤ 1000) : Con Tryd.prog n_ring_Ring_Newest #[ptrR r.b] w [] (newestOut r) := by
  have g := good_ring_Ring_Newest w (Un [])
  refine con_of_sx (cx := cx_ring_Ring_Newest w (Un [])) g b_ring_Ring_Newest rfl rfl (β := Va.z) [.c (.v (ptrR r.b))] 0 [] [oldF w] rfl rfl (old_sat rfl) ?_
  refine ⟨.int .u64 (r.epoch : Int), fun β w' hs => cell_bk (rg_bk (fact_oldR h hl (hs.get 0 rfl))) (o := 4) rfl, ?_⟩
  refine call_con [] (fun β w' hs => key_c w' r (r.epoch : Int) (fact_oldR h hl (hs.get 0 rfl)) (fun k hk => Nat.lt_of_lt_of_le (hl k hk) hs.chg.size) hp) ?_
  unfold newestOut
  cases hk : r.key (r.epoch : Int) with
  | none =>
    rintro v Fs ⟨rfl, rfl⟩
    intro β w' hs
    exact hs.fin [] ⟨rfl, rfl⟩
  | some k =>
    rintro v Fs ⟨A, c, rfl, hc, rfl⟩
    refine ⟨.int .u64 (r.epoch : Int), fun β w' hs => cell_bk (rg_bk (fact_oldR h hl (hs.get 1 rfl))) (o := 4) rfl, ?_⟩
    intro β w' hs
    exact hs.fin [0] ⟨A, c, rfl, hc, rfl⟩
end Go.Proofs.YtgbnaifckclfoaaDoor.Sx

/- A ring's sums of one part. -/
namespace Go.Proofs.YtgbnaifckclfoaaDoor.Sx
open Go
attribute [local irreducible] Calls

end Go.Proofs.YtgbnaifckclfoaaDoor.Sx

/- A sum of one part, asked for. -/
namespace Go.Proofs.YtgbnaifckclfoaaDoor.Sx
open Go
attribute [local irreducible] Calls

end Go.Proofs.YtgbnaifckclfoaaDoor.Sx

/- A key that goes. -/
namespace Go.Proofs.YtgbnaifckclfoaaDoor.Sx
open Go
attribute [local irreducible] Calls

def Rg.drop (r : Rg) (e : Int) : Rg := { r with ks := r.ks.eraseP fun k => decide ((k.e : Int) = e) }
theorem idel_drop (e : Int) : ∀ ks : List RKey, idel (ks.map fun k => ((k.e : Int), k.v)) e = (ks.eraseP fun k => decide ((k.e : Int) = e)).map fun k => ((k.e : Int), k.v)
  | [] => rfl
  | k :: t => by
    by_cases h : (k.e : Int) = e
    · simp [idel, List.eraseP, h]
    · simp only [List.map_cons, idel, if_neg h, List.eraseP, decide_eq_false h]
      rw [idel_drop e t]
      rfl
def retOut (r : Rg) (e : Int) (v : Value) (Fs : List Fact) : Prop := match r.key e with
  | none => v = .int .i64 15 ∧ Fs = [rgF r]
  | some _ => v = .int .i64 0 ∧ Fs = [rgF (r.drop e)]
theorem retire_c (w : World) (r : Rg) (e : Int) (hp : ∀ k ∈ r.ks, k.p.length ≤ 1000) (hm : Mem w [rgF r]) : Con Tryd.prog n_ring_Ring_Retire #[ptrR r.b, .int .u64 e] w [rgF r] (retOut r e) := by
  have g := good_ring_Ring_Retire w (Un [rgF r])
  have hs0 : Sat (cx_ring_Ring_Retire w (Un [rgF r])) Va.z 0 [] [rgF r] w := hm.sat0 rfl (fun f hf _ k hk => ⟨f, hf, hk⟩)
  refine con_of_sx (cx := cx_ring_Ring_Retire w (Un [rgF r])) g b_ring_Ring_Retire rfl rfl (β := Va.z) [.c (.v (ptrR r.b)), .c (.v (.int .u64 e))] 0 [] _ rfl rfl hs0 ?_
  refine call_con [] (fun β w' hs => key_c w' r e (hs.get 0 rfl) (hs.getLt 0 rfl) hp) ?_
  unfold retOut
  cases hk : r.key e with
  | none =>
    rintro v Fs ⟨rfl, rfl⟩
    intro β w' hs
    exact hs.fin [0] ⟨rfl, rfl⟩
  | some k =>
    rintro v Fs ⟨A, c, rfl, hc, rfl⟩
    refine ⟨.map (some r.m), fun β w' hs => cell_bk (rg_bk (hs.get 1 rfl)) (o := 3) rfl, ?_⟩
    refine ⟨[], [rgF (r.drop e)], .c (.v (.tuple #[])), fun β w' ty hs => ?_, trivial, ?_⟩
    · have h1 := (Sat.perm hs [1]).unsep 0 rfl
      obtain ⟨w2, f1, f2⟩ := h1.mapDelI g 2 rfl (t := ty_map_uint64_sl_uint8) (tk := ty_uint64) e ty _
      refine ⟨w2, f1, ?_⟩
      have h3 := f2.fuse [3] (sepF ((r.drop e).ks.map RKey.f)) (fun w hm => by
        have h := hm.fact (sepF (r.ks.map RKey.f)) List.mem_cons_self
        have hsl : ((r.drop e).ks.map RKey.f).Sublist (r.ks.map RKey.f) := List.eraseP_sublist.map _
        exact ⟨fun f hf => h.1 f (hsl.subset hf), h.2.sublist hsl⟩) (fun q hq => by
        have hsl : ((r.drop e).ks.map RKey.f).Sublist (r.ks.map RKey.f) := List.eraseP_sublist.map _
        obtain ⟨f, hf, hq⟩ := hq
        exact ⟨sepF (r.ks.map RKey.f), List.mem_cons_self, f, hsl.subset hf, hq⟩)
      have h4 := h3.sep [1, 2, 3, 0] rfl ⟨rfl, rfl, rfl, rfl, trivial⟩
      have e2 : rgF (r.drop e) = sepF [bkF r.b ty_ring_Ring r.vs, browF ty_uint8 r.mA r.master r.mc, mapIF .u64 r.m (idel r.ml e), sepF ((r.drop e).ks.map RKey.f)] := by
        have e3 : idel r.ml e = (r.drop e).ml := idel_drop e r.ks
        rw [e3]
        rfl
      rw [e2]
      exact h4
    · intro β w' hs
      exact hs.fin [0] ⟨rfl, rfl⟩
end Go.Proofs.YtgbnaifckclfoaaDoor.Sx

/- No ring; no box. -/
namespace Go.Proofs.YtgbnaifckclfoaaDoor.Sx
open Go
attribute [local irreducible] Calls

theorem rot0_c (w : World) : Pu Tryd.prog n_ring_Ring_Rotate #[.pointer none] w (.tuple #[.int .u64 0, .int .i64 6]) := by
  refine con_of_sx (cx := cx_ring_Ring_Rotate w (Un [])) (good_ring_Ring_Rotate w (Un [])) b_ring_Ring_Rotate rfl rfl (β := Va.z) [.c (.v (.pointer none))] 0 [] [] rfl rfl (Sat.start rfl) ?_
  intro β w' hs
  exact (hs.keepB (List.nil_sublist _)).fin [] ⟨rfl, rfl⟩
theorem newest0_c (w : World) : Pu Tryd.prog n_ring_Ring_Newest #[.pointer none] w (.tuple #[.int .u64 0, .slice none 0 0, .bool false]) := by
  refine con_of_sx (cx := cx_ring_Ring_Newest w (Un [])) (good_ring_Ring_Newest w (Un [])) b_ring_Ring_Newest rfl rfl (β := Va.z) [.c (.v (.pointer none))] 0 [] [] rfl rfl (Sat.start rfl) ?_
  intro β w' hs
  exact hs.fin [] ⟨rfl, rfl⟩
theorem key0_c (w : World) (e : Int) : Pu Tryd.prog n_ring_Ring_Key #[.pointer none, .int .u64 e] w (.tuple #[.slice none 0 0, .int .i64 6]) := by
  refine con_of_sx (cx := cx_ring_Ring_Key w (Un [])) (good_ring_Ring_Key w (Un [])) b_ring_Ring_Key rfl rfl (β := Va.z) [.c (.v (.pointer none)), .c (.v (.int .u64 e))] 0 [] [] rfl rfl (Sat.start rfl) ?_
  intro β w' hs
  exact hs.fin [] ⟨rfl, rfl⟩
theorem sign0_c (w : World) (P : Value) : Pu Tryd.prog n_ring_Ring_Sign #[.pointer none, P] w (.tuple #[.int .u64 0, .slice none 0 0, .int .i64 6]) := by
  refine con_of_sx (cx := cx_ring_Ring_Sign w (Un [])) (good_ring_Ring_Sign w (Un [])) b_ring_Ring_Sign rfl rfl (β := Va.z) [.c (.v (.pointer none)), .c (.v P)] 0 [] [] rfl rfl (Sat.start rfl) ?_
  intro β w' hs
  exact hs.fin [] ⟨rfl, rfl⟩
theorem retire0_c (w : World) (e : Int) : Pu Tryd.prog n_ring_Ring_Retire #[.pointer none, .int .u64 e] w (.int .i64 6) := by
  refine con_of_sx (cx := cx_ring_Ring_Retire w (Un [])) (good_ring_Ring_Retire w (Un [])) b_ring_Ring_Retire rfl rfl (β := Va.z) [.c (.v (.pointer none)), .c (.v (.int .u64 e))] 0 [] [] rfl rfl (Sat.start rfl) ?_
  refine call_pu (fun β w' hs => key0_c w' e) ?_
  intro β w' hs
  exact hs.fin [] ⟨rfl, rfl⟩
theorem verify0_c (w : World) (e : Int) (S P : Value) : Pu Tryd.prog n_ring_Ring_Verify #[.pointer none, .int .u64 e, S, P] w (.int .i64 6) := by
  refine con_of_sx (cx := cx_ring_Ring_Verify w (Un [])) (good_ring_Ring_Verify w (Un [])) b_ring_Ring_Verify rfl rfl (β := Va.z) [.c (.v (.pointer none)), .c (.v (.int .u64 e)), .c (.v S), .c (.v P)] 0 [] [] rfl rfl (Sat.start rfl) ?_
  refine call_pu (fun β w' hs => key0_c w' e) ?_
  intro β w' hs
  exact hs.fin [] ⟨rfl, rfl⟩
theorem len0R_c (w : World) : Pu Tryd.prog n_ring_Ring_Len #[.pointer none] w (.int .i64 0) := by
  refine con_of_sx (cx := cx_ring_Ring_Len w (Un [])) (good_ring_Ring_Len w (Un [])) b_ring_Ring_Len rfl rfl (β := Va.z) [.c (.v (.pointer none))] 0 [] [] rfl rfl (Sat.start rfl) ?_
  intro β w' hs
  exact hs.fin [] ⟨rfl, rfl⟩
theorem new0R_c (w : World) (M : Value) (n : Int) : Pu Tryd.prog n_ring_New #[.pointer none, M, .int .i64 n] w (.tuple #[.pointer none, .int .i64 6]) := by
  refine con_of_sx (cx := cx_ring_New w (Un [])) (good_ring_New w (Un [])) b_ring_New rfl rfl (β := Va.z) [.c (.v (.pointer none)), .c (.v M), .c (.v (.int .i64 n))] 0 [] [] rfl rfl (Sat.start rfl) ?_
  intro β w' hs
  exact hs.fin [] ⟨rfl, rfl⟩
end Go.Proofs.YtgbnaifckclfoaaDoor.Sx

/- No ring's epochs, collected; the ring that lost a key; sums of no part. -/
namespace Go.Proofs.YtgbnaifckclfoaaDoor.Sx
open Go
attribute [local irreducible] Calls

theorem ep0_it (l : Nat) (w : World) (bx : Nat) (f0 R : Fact) (J Jx : List Int → Fact → Prop) (hJ0 : J [] f0) (hJo : ∀ pre f, J pre f → f.own = true) (hRo : R.own = false)
    (hm : Mem w (f0 :: R :: [bkF bx ty_ptr_ring_Ring [.pointer none], noO])) :
    Con Tryd.prog n_ring_Ring_Epochs_1 #[.func (.yield l) #[] #[], .pointer (some ⟨bx, 0, none⟩)] w [f0, bkF bx ty_ptr_ring_Ring [.pointer none], noO]
      (fun _ Fs => ∃ f Fs', Fs = f :: Fs' ∧ ((∃ xs, J xs f ∧ xs = [] ∧ Fs' = [noO]) ∨ (∃ pre, Jx pre f ∧ Fs' = [noO]))) := by
  have g := good_ring_Ring_Epochs_1 w (Un [f0, bkF bx ty_ptr_ring_Ring [.pointer none], noO]) [bx]
  have hs0 : Sat (cx_ring_Ring_Epochs_1 w (Un [f0, bkF bx ty_ptr_ring_Ring [.pointer none], noO]) [bx]) (Va.of fun _ => bx) 1 [] (f0 :: R :: [bkF bx ty_ptr_ring_Ring [.pointer none], noO]) w := by
    refine hm.sat rfl (fun f hf ho k hk => ?_) ⟨Nat.le_refl 1, fun i hi => by obtain rfl : i = 0 := Nat.lt_one_iff.1 hi; rfl⟩
    simp only [List.mem_cons, List.not_mem_nil, or_false] at hf
    rcases hf with rfl | rfl | rfl | rfl
    · exact ⟨_, by simp, hk⟩
    · rw [hRo] at ho; cases ho
    · exact ⟨bkF bx ty_ptr_ring_Ring [.pointer none], by simp, hk⟩
    · exact ⟨noO, by simp, hk⟩
  have hs1 := hs0.toBk 2 rfl 0 Nat.zero_lt_one rfl
  refine con_of_sx (cx := cx_ring_Ring_Epochs_1 w (Un [f0, bkF bx ty_ptr_ring_Ring [.pointer none], noO]) [bx]) g b_ring_Ring_Epochs_1 rfl rfl (β := Va.of fun _ => bx) [.c (.v (.func (.yield l) #[] #[])), .c (.p 0 0)] 1 _ _ rfl rfl hs1 ?_
  intro β w' hs
  exact (hs.keepB (List.nil_sublist _)).fin [0, 2] ⟨f0, _, rfl, .inl ⟨[], hJ0, rfl, rfl⟩⟩ rfl rfl rfl ⟨hJo _ _ hJ0, rfl, trivial⟩
theorem ep0_gives (bx : Nat) : GivesN n_ring_Ring_Epochs_1 bx ty_ptr_ring_Ring [.pointer none] noO noO 0 (fun xs => xs = []) :=
  fun l w f0 R J Jx hJ0 hJo hRo _ hm => ep0_it l w bx f0 R J Jx hJ0 hJo hRo hm
/-- The newest key is gone: nothing is signed. -/
theorem signNo_c (w : World) (r : Rg) (P : Value) (h : (rgF r).p w) (hl : ∀ k, (rgF r).D k → k < w.heap.size) (hp : ∀ k ∈ r.ks, k.p.length ≤ 1000) (hk : r.key (r.epoch : Int) = none) : Pu Tryd.prog n_ring_Ring_Sign #[ptrR r.b, P] w (.tuple #[.int .u64 0, .slice none 0 0, .int .i64 15]) := by
  refine con_of_sx (cx := cx_ring_Ring_Sign w (Un [])) (good_ring_Ring_Sign w (Un [])) b_ring_Ring_Sign rfl rfl (β := Va.z) [.c (.v (ptrR r.b)), .c (.v P)] 0 [] [oldF w] rfl rfl (old_sat rfl) ?_
  refine call_con [] (fun β w' hs => newest_c w' r (fact_oldR h hl (hs.get 0 rfl)) (fun k hk => Nat.lt_of_lt_of_le (hl k hk) hs.chg.size) hp) ?_
  unfold newestOut
  rw [hk]
  rintro v Fs ⟨rfl, rfl⟩
  intro β w' hs
  exact hs.fin [] ⟨rfl, rfl⟩
end Go.Proofs.YtgbnaifckclfoaaDoor.Sx

/- Boxes that grow: what was made once is made again. -/
namespace Go.Proofs.YtgbnaifckclfoaaDoor.Sx
open Go

/-- A box that has the terms of another one, and more. -/
structure Pre (B B' : Bx.Box) : Prop where
  sym : B'.sym = B.sym
  full : B'.full = B.full
  terms : ∃ l, B'.L = B.L ++ l
theorem Pre.refl (B : Bx.Box) : Pre B B := ⟨rfl, rfl, [], by simp⟩
theorem Pre.trans {A B C : Bx.Box} (h : Pre A B) (k : Pre B C) : Pre A C := by
  obtain ⟨l, hl⟩ := h.terms
  obtain ⟨m, hm⟩ := k.terms
  exact ⟨k.sym.trans h.sym, k.full.trans h.full, l ++ m, by rw [hm, hl, List.append_assoc]⟩
theorem tag_pre {B : Bx.Box} (hl : B.L.length < 4096) (t : Bx.Term) : Pre B (B.tag t).2 := by
  unfold Bx.Box.tag
  cases Bx.place t B.L with
  | some i => exact Pre.refl B
  | none =>
    simp only
    rw [if_neg (by omega)]
    exact ⟨rfl, rfl, [t], rfl⟩
/-- A term's tag, or what a plain box tells. -/
noncomputable def opB (B : Bx.Box) (t : Bx.Term) (raw : List UInt8) : List UInt8 × Bx.Box := if B.sym then B.tag t else (raw, B)
theorem op_pre {B : Bx.Box} (hl : B.L.length < 4096) (t : Bx.Term) (raw : List UInt8) : Pre B (opB B t raw).2 := by
  unfold opB
  split
  · exact tag_pre hl t
  · exact Pre.refl B
theorem mac_pre {B : Bx.Box} (hl : B.L.length < 4096) (k t : List UInt8) : Pre B (macB B k t).2 := op_pre hl _ _
theorem opens_app {h : List UInt8} {r : List Nat × List UInt8} : ∀ (l : List Bx.Term) {B : Bx.Box}, B.opens h = some r → ({ B with L := B.L ++ l } : Bx.Box).opens h = some r
  | [], B, e => by rw [List.append_nil]; exact e
  | t :: l, B, e => by
    have h1 := opens_app l (opens_grow (t := t) e)
    simp only [List.append_assoc, List.cons_append, List.nil_append] at h1
    exact h1
theorem Pre.opens {B B' : Bx.Box} (h : Pre B B') {t : List UInt8} {r : List Nat × List UInt8} (e : B.opens t = some r) : B'.opens t = some r := by
  obtain ⟨l, hl⟩ := h.terms
  have h1 := opens_app l e
  have e2 : B' = { B with L := B.L ++ l } := by
    obtain ⟨s, f, L⟩ := B'
    have a := h.sym
    have b := h.full
    simp only at a b hl
    subst a b hl
    rfl
  rw [e2]
  exact h1
end Go.Proofs.YtgbnaifckclfoaaDoor.Sx

/- Keys of a ring that stay; sums of unlike keys. -/
namespace Go.Proofs.YtgbnaifckclfoaaDoor.Sx
open Go

/-- A ring that was turned t times: its first key stands, or has gone. -/
structure Kept (r : Rg) (k t : Nat) (k1 : List UInt8) : Prop where
  ok : RgOk r
  rm : r.room = k
  ep : r.epoch = t + 1
  p32 : ∀ q ∈ r.ks, q.p.length = 32
  lo : t < k → ∃ A c ks, r.ks = ⟨1, A, c, k1⟩ :: ks ∧ ks.length = t
  hi : k ≤ t → r.ks.length = k ∧ ∀ q ∈ r.ks, 1 < q.e
  eslo : t < k → r.ks.map (·.e) = List.range' 1 (t + 1)
  eshi : k ≤ t → r.ks.map (·.e) = List.range' (t + 2 - k) k
theorem Kept.p {r : Rg} {k t : Nat} {k1 : List UInt8} (h : Kept r k t k1) : ∀ q ∈ r.ks, q.p.length ≤ 1000 := fun q hq => by rw [h.p32 q hq]; decide
theorem kept_new {b bx : Nat} {mA : Option Addr} {mc : Nat} {master : List UInt8} {room m : Nat} {A : Option Addr} {c : Nat} {p : List UInt8} (h2 : master.length ≤ 64) (h3 : 1 ≤ room) (h4 : room ≤ 8) (hp : p.length = 32) : Kept ((ring0 b bx mA mc master room m).more A c p).cut room 0 p := by
  have hok : RgOk (ring0 b bx mA mc master room m) := ⟨List.Pairwise.nil, fun k hk => (by cases hk), Nat.zero_le _, h4, h2, by show 0 < 98; decide⟩
  have e : ((ring0 b bx mA mc master room m).more A c p).cut = (ring0 b bx mA mc master room m).more A c p := by
    unfold Rg.cut
    rw [if_neg]
    show ¬ room < 1
    omega
  refine ⟨more_ok hok (by show 0 + 1 < 98; decide), ?_, ?_, ?_, ?_, fun h => absurd h (by omega), fun _ => by rw [e]; rfl, fun h => absurd h (by omega)⟩
  · rw [e]; rfl
  · rw [e]; rfl
  · rw [e]
    intro q hq
    have hq' : q ∈ [(⟨1, A, c, p⟩ : RKey)] := hq
    obtain rfl := List.mem_singleton.1 hq'
    exact hp
  · intro _
    rw [e]
    exact ⟨A, c, [], rfl, rfl⟩
theorem cut_room (r : Rg) : r.cut.room = r.room := by unfold Rg.cut; split <;> rfl
theorem cut_epoch (r : Rg) : r.cut.epoch = r.epoch := by unfold Rg.cut; split <;> rfl
theorem cut_bx (r : Rg) : r.cut.bx = r.bx := by unfold Rg.cut; split <;> rfl
theorem cut_b (r : Rg) : r.cut.b = r.b := by unfold Rg.cut; split <;> rfl
theorem cut_master (r : Rg) : r.cut.master = r.master := by unfold Rg.cut; split <;> rfl
theorem cut_mem {r : Rg} {q : RKey} (h : q ∈ r.cut.ks) : q ∈ r.ks := by
  unfold Rg.cut at h
  split at h
  · exact List.mem_of_mem_tail h
  · exact h
theorem Kept.next {r : Rg} {k t : Nat} {k1 : List UInt8} (h : Kept r k t k1) (hk : 1 ≤ k) (ht : t < 90) {A : Option Addr} {c : Nat} {p : List UInt8} (hp : p.length = 32) : Kept (r.more A c p).cut k (t + 1) k1 := by
  have hrm := h.rm
  have hep := h.ep
  have hlen : (r.more A c p).ks.length = r.ks.length + 1 := by show (r.ks ++ [_]).length = _; rw [List.length_append]; rfl
  have hroom : (r.more A c p).room = k := hrm
  have hme : (r.more A c p).ks.map (·.e) = r.ks.map (·.e) ++ [t + 2] := by show (r.ks ++ [(⟨r.epoch + 1, A, c, p⟩ : RKey)]).map (·.e) = _; rw [List.map_append, hep]; rfl
  refine ⟨more_ok h.ok (by omega), by rw [cut_room]; exact hrm, by rw [cut_epoch]; show r.epoch + 1 = _; omega, ?_, ?_, ?_, ?_, ?_⟩
  · intro q hq
    have hq' : q ∈ r.ks ++ [(⟨r.epoch + 1, A, c, p⟩ : RKey)] := cut_mem hq
    rcases List.mem_append.1 hq' with hq' | hq'
    · exact h.p32 q hq'
    · obtain rfl := List.mem_singleton.1 hq'
      exact hp
  · intro hlt
    obtain ⟨A0, c0, ks, e, hl⟩ := h.lo (by omega)
    have hcut : (r.more A c p).cut = r.more A c p := by
      unfold Rg.cut
      rw [if_neg]
      rw [hlen, e, hroom, List.length_cons]
      omega
    rw [hcut]
    exact ⟨A0, c0, ks ++ [⟨r.epoch + 1, A, c, p⟩], by show r.ks ++ _ = _; rw [e]; rfl, by rw [List.length_append, hl]; rfl⟩
  · intro hge
    have hl : r.ks.length = k := by
      rcases Nat.lt_or_ge t k with hlt | hge2
      · obtain ⟨A0, c0, ks, e, hl⟩ := h.lo hlt
        rw [e, List.length_cons]
        omega
      · exact (h.hi hge2).1
    have hcut : (r.more A c p).cut = { r.more A c p with ks := (r.more A c p).ks.tail } := by
      unfold Rg.cut
      rw [if_pos (by rw [hlen, hroom]; omega)]
    rw [hcut]
    refine ⟨by show (r.more A c p).ks.tail.length = k; rw [List.length_tail, hlen]; omega, fun q hq => ?_⟩
    have hq' : q ∈ (r.ks ++ [(⟨r.epoch + 1, A, c, p⟩ : RKey)]).tail := hq
    have hrise := h.ok.rise
    have hr0 : r.ks ≠ [] := by intro e; rw [e] at hl; simp at hl; omega
    rw [List.tail_append_of_ne_nil hr0] at hq'
    rcases List.mem_append.1 hq' with hq' | hq'
    · rcases Nat.lt_or_ge t k with hlt | hge2
      · obtain ⟨A0, c0, ks, e, hl⟩ := h.lo hlt
        rw [e] at hq' hrise
        rw [List.map_cons, List.pairwise_cons] at hrise
        exact hrise.1 q.e (List.mem_map.2 ⟨q, hq', rfl⟩)
      · exact (h.hi hge2).2 q (List.mem_of_mem_tail hq')
    · obtain rfl := List.mem_singleton.1 hq'
      show 1 < r.epoch + 1
      omega
  · intro hlt
    obtain ⟨A0, c0, ks, e, hl⟩ := h.lo (by omega)
    have hcut : (r.more A c p).cut = r.more A c p := by
      unfold Rg.cut
      rw [if_neg]
      rw [hlen, e, hroom, List.length_cons]
      omega
    rw [hcut, hme, h.eslo (by omega), List.range'_concat (n := t + 1)]
    simp
    omega
  · intro hge
    have hl : r.ks.length = k := by
      rcases Nat.lt_or_ge t k with hlt | hge2
      · obtain ⟨A0, c0, ks, e, hl⟩ := h.lo hlt
        rw [e, List.length_cons]
        omega
      · exact (h.hi hge2).1
    have hcut : (r.more A c p).cut = { r.more A c p with ks := (r.more A c p).ks.tail } := by
      unfold Rg.cut
      rw [if_pos (by rw [hlen, hroom]; omega)]
    rw [hcut]
    show (r.more A c p).ks.tail.map (·.e) = _
    rw [List.map_tail, hme]
    obtain ⟨s, hs, e⟩ : ∃ s, s + k = t + 2 ∧ r.ks.map (·.e) = List.range' s k := by
      rcases Nat.lt_or_ge t k with hlt | hge2
      · obtain rfl : t + 1 = k := by omega
        exact ⟨1, by omega, h.eslo hlt⟩
      · exact ⟨t + 2 - k, by omega, h.eshi hge2⟩
    have e2 : List.range' s k ++ [t + 2] = List.range' s (k + 1) := by
      rw [List.range'_concat]
      simp
      omega
    rw [e, e2, List.range'_succ, List.tail_cons]
    congr 1
    omega
theorem key_in {r : Rg} {e : Nat} (h : e ∈ r.ks.map (·.e)) : ∃ q, r.key (e : Int) = some q ∧ q ∈ r.ks ∧ q.e = e := by
  obtain ⟨q0, h0, h1⟩ := List.mem_map.1 h
  cases hk : r.key (e : Int) with
  | none =>
    have := List.find?_eq_none.1 hk q0 h0
    simp at this
    omega
  | some q =>
    have h2 := List.find?_some hk
    simp at h2
    exact ⟨q, rfl, List.mem_of_find?_eq_some hk, by omega⟩
theorem drop_len {r : Rg} {e : Nat} (h : e ∈ r.ks.map (·.e)) : (r.drop (e : Int)).ks.length = r.ks.length - 1 := by
  obtain ⟨q0, h0, h1⟩ := List.mem_map.1 h
  exact List.length_eraseP_of_mem h0 (by simp only [decide_eq_true_eq]; omega)
theorem drop_sub {r : Rg} {e : Int} {q : RKey} (h : q ∈ (r.drop e).ks) : q ∈ r.ks := List.mem_of_mem_eraseP h
theorem Kept.key {r : Rg} {k t : Nat} {k1 : List UInt8} (h : Kept r k t k1) (hlt : t < k) : ∃ q, r.key 1 = some q ∧ q.p = k1 := by
  obtain ⟨A, c, ks, e, _⟩ := h.lo hlt
  exact ⟨⟨1, A, c, k1⟩, by unfold Rg.key; rw [e]; rfl, rfl⟩
theorem Kept.gone {r : Rg} {k t : Nat} {k1 : List UInt8} (h : Kept r k t k1) (hge : k ≤ t) : r.key 1 = none := by
  unfold Rg.key
  refine List.find?_eq_none.2 fun q hq => ?_
  have := (h.hi hge).2 q hq
  simp
  omega
theorem drop_apart (e : Int) : ∀ ks : List RKey, (ks.map (·.e)).Pairwise (· < ·) → ∀ q ∈ ks.eraseP (fun k => decide ((k.e : Int) = e)), ¬ (q.e : Int) = e
  | [], _, q, hq => by cases hq
  | k :: t, h, q, hq => by
    rw [List.map_cons, List.pairwise_cons] at h
    by_cases hk : (k.e : Int) = e
    · rw [List.eraseP_cons_of_pos (by simpa using hk)] at hq
      have := h.1 q.e (List.mem_map.2 ⟨q, hq, rfl⟩)
      omega
    · rw [List.eraseP_cons_of_neg (by simpa using hk)] at hq
      rcases List.mem_cons.1 hq with rfl | hq
      · exact hk
      · exact drop_apart e t h.2 q hq
theorem drop_none {r : Rg} (h : RgOk r) (e : Int) : (r.drop e).key e = none := by
  unfold Rg.key
  refine List.find?_eq_none.2 fun q hq => ?_
  have := drop_apart e r.ks h.rise q hq
  simpa using this
end Go.Proofs.YtgbnaifckclfoaaDoor.Sx

/- A ring's sums of any parts, made and asked for. -/
namespace Go.Proofs.YtgbnaifckclfoaaDoor.Sx
open Go
attribute [local irreducible] Calls

end Go.Proofs.YtgbnaifckclfoaaDoor.Sx

/- The document's example of a ring. -/
namespace Go.Proofs.YtgbnaifckclfoaaDoor.Sx
open Go
attribute [local irreducible] Calls

theorem box0i (sym : Bool) : BInv ⟨sym, false, []⟩ := ⟨fun _ q => (by cases q), List.nodup_nil, fun _ q => (by cases q), fun _ => rfl, Nat.zero_le _⟩
theorem keyT_len {e : Nat} (he : e < 100) : (keyT e).data.toList.length ≤ 10 := by
  have hds := decS_size he
  have hks : keyS.size = 4 := rfl
  show (keyS ++ decS e).size ≤ 10
  rw [ByteArray.size_append]
  omega
theorem newK_c (w : World) (bx : Nat) (B : Bx.Box) (y : Lay) (M : Option Addr) (master : List UInt8) (cM room : Nat) (h1 : 1 ≤ master.length) (h2 : master.length ≤ 64) (h3 : 1 ≤ room) (h4 : room ≤ 8) (hts : y.ts.map (·.1) = B.L) (hi : BInv B) (hL : B.L.length < 4000) (hm : Mem w [bxF bx B y, bsF M master, oddF 3, firstF 1]) :
    Con Tryd.prog n_ring_New #[ptrB bx, .slice M master.length cM, .int .i64 (room : Int)] w [bxF bx B y] fun v Fs => ∃ (r : Rg) (y' : Lay), v = .tuple #[ptrR r.b, .int .i64 0] ∧ r.bx = bx ∧ r.master = master ∧ Kept r room 0 (macB B master (keyT 1).data.toList).1 ∧ GoodT B (macB B master (keyT 1).data.toList) ∧ y'.ts.map (·.1) = (macB B master (keyT 1).data.toList).2.L ∧
      Fs = [rgF r, bxF bx (macB B master (keyT 1).data.toList).2 y'] := by
  have hg := mac_good hi (by omega) (k := master) (t := (keyT 1).data.toList) (by omega) (Nat.le_trans (keyT_len (by decide)) (by decide))
  refine (newR_c w bx B y M master cM room h1 h2 h3 h4 hts hi hL hm).mono fun v Fs h => ?_
  obtain ⟨b, mA, mc, m, A, c, y', rfl, hy, rfl⟩ := h
  exact ⟨_, y', by rw [cut_b]; rfl, by rw [cut_bx]; rfl, by rw [cut_master]; rfl, kept_new h2 h3 h4 hg.2.1, hg, hy, rfl⟩
theorem rotateK_c (w : World) (bx : Nat) (r : Rg) (k t : Nat) (k1 : List UInt8) (hk : Kept r k t k1) (hk1 : 1 ≤ k) (ht : t < 90) (hb : r.bx = bx) (B : Bx.Box) (y : Lay) (hts : y.ts.map (·.1) = B.L) (hi : BInv B) (hL : B.L.length < 4000) (hm : Mem w [rgF r, bxF bx B y, oddF 3, firstF 1]) :
    Con Tryd.prog n_ring_Ring_Rotate #[ptrR r.b] w [rgF r, bxF bx B y] fun v Fs => ∃ (r' : Rg) (y' : Lay), v = .tuple #[.int .u64 ((r.epoch + 1 : Nat) : Int), .int .i64 0] ∧ r'.b = r.b ∧ r'.bx = bx ∧ r'.master = r.master ∧ Kept r' k (t + 1) k1 ∧ GoodT B (macB B r.master (keyT (r.epoch + 1)).data.toList) ∧ y'.ts.map (·.1) = (macB B r.master (keyT (r.epoch + 1)).data.toList).2.L ∧
      Fs = [rgF r', bxF bx (macB B r.master (keyT (r.epoch + 1)).data.toList).2 y'] := by
  subst hb
  have hep := hk.ok.ep
  have hma := hk.ok.master
  have hg := mac_good hi (by omega) (k := r.master) (t := (keyT (r.epoch + 1)).data.toList) (by omega) (Nat.le_trans (keyT_len (by omega)) (by decide))
  refine (rotate_c w r B y hk.ok hts hi hL hm).mono fun v Fs h => ?_
  obtain ⟨A, c, y', rfl, hy, rfl⟩ := h
  exact ⟨_, y', rfl, by rw [cut_b]; rfl, by rw [cut_bx]; rfl, by rw [cut_master]; rfl, hk.next hk1 ht hg.2.1, hg, hy, rfl⟩
theorem awake17_c (w : World) (hm : Mem w [oddF 3, firstF 1]) : Con Tryd.prog n_ostiarylaw17_awake #[] w [] fun v Fs => v = .bool true ∧ Fs = [] := by
  have g := good_ostiarylaw17_awake w (Un [])
  have hs0 : Sat (cx_ostiarylaw17_awake w (Un [])) Va.z 0 [] [oddF 3, firstF 1] w := hm.sat0 rfl (ownIn (Gs := []) (fun f hf => by
    simp only [List.mem_cons, List.not_mem_nil, or_false] at hf
    rcases hf with rfl | rfl <;> rfl))
  refine con_of_sx (cx := cx_ostiarylaw17_awake w (Un [])) g b_ostiarylaw17_awake rfl rfl (β := Va.z) [] 0 [] _ rfl rfl hs0 ?_
  refine call_con [] (fun β w' hs => newX_c w' false) ?_
  rintro v Fs ⟨b, y0, rfl, hy0, rfl⟩
  intro b1
  refine ⟨0, _, rfl, ?_⟩
  have hi0 := box0i false
  obtain ⟨B, hB⟩ : ∃ B : Bx.Box, (⟨false, false, []⟩ : Bx.Box) = B := ⟨_, rfl⟩
  have hL0 : B.L.length ≤ 0 := by rw [← hB]; exact Nat.le_refl _
  have hts0 : y0.ts.map (·.1) = B.L := by rw [← hB, hy0]; rfl
  rw [hB] at hi0 ⊢
  refine call_con [1] (fun β w' hs => newK_c w' b B y0 (some ⟨b1, 0, none⟩) [109] 1 2 (by decide) (by decide) (by decide) (by decide) hts0 hi0 (by omega) (hs.mem.take (js := [1, 0, 2, 3]) rfl)) ?_
  rintro v Fs ⟨r, y1, rfl, rb1, _, k1, g1, hy1, rfl⟩
  generalize macB B [109] (keyT 1).data.toList = q1 at *
  obtain ⟨p1, B1⟩ := q1
  have l1 := g1.1.len
  simp only at l1 hy1 k1
  refine call_con [0, 1] (fun β w' hs => rotateK_c w' b r 2 0 p1 k1 (by decide) (by decide) rb1 B1 y1 hy1 g1.1.inv (by omega) (hs.mem.take (js := [0, 1, 3, 4]) rfl)) ?_
  rintro v Fs ⟨r2, y2, rfl, e2, rb2, _, k2, g2, hy2, rfl⟩
  rw [← e2]
  generalize macB B1 r.master (keyT (r.epoch + 1)).data.toList = q2 at *
  obtain ⟨p2, B2⟩ := q2
  have l2 := g2.1.len
  simp only at l2 hy2
  refine call_con [0, 1] (fun β w' hs => rotateK_c w' b r2 2 1 p1 k2 (by decide) (by decide) rb2 B2 y2 hy2 g2.1.inv (by omega) (hs.mem.take (js := [0, 1, 3, 4]) rfl)) ?_
  rintro v Fs ⟨r3, y3, rfl, e3, rb3, _, k3, g3, hy3, rfl⟩
  rw [← e3]
  have hn1 := k3.gone (Nat.le_refl 2)
  have hes := k3.eshi (Nat.le_refl 2)
  have hin : 3 ∈ r3.ks.map (·.e) := by rw [hes]; decide
  refine call_con [] (R := keyOut (r3.key 1)) (fun β w' hs => key_c w' r3 1 (hs.get 0 rfl) (hs.getLt 0 rfl) k3.p) ?_
  rw [hn1]
  rintro v Fs ⟨rfl, rfl⟩
  obtain ⟨q, hq, _, _⟩ := key_in hin
  refine call_con [0] (R := retOut r3 3) (fun β w' hs => retire_c w' r3 3 k3.p (hs.mem.take (js := [0]) rfl)) ?_
  unfold retOut
  rw [show r3.key 3 = some q from hq]
  rintro v Fs ⟨rfl, rfl⟩
  have hep := k3.ep
  refine call_pu (fun β w' hs => signNo_c w' (r3.drop 3) (.slice none 0 0) (hs.get 0 rfl) (hs.getLt 0 rfl) (fun k hk => k3.p k (drop_sub hk)) (by show (r3.drop 3).key (r3.epoch : Int) = none; rw [hep]; exact drop_none k3.ok 3)) ?_
  have hl : (r3.drop 3).ks.length = 1 := by
    rw [show r3.drop 3 = r3.drop ((3 : Nat) : Int) from rfl, drop_len hin, (k3.hi (Nat.le_refl 2)).1]
  refine call_pu (v := .int .i64 1) (fun β w' hs => by
    have h := rlen_c w' (r3.drop 3) (hs.get 0 rfl) (hs.getLt 0 rfl)
    rw [hl] at h
    exact h) ?_
  intro β w' hs
  exact hs.fin [] ⟨rfl, rfl⟩
end Go.Proofs.YtgbnaifckclfoaaDoor.Sx

/- RingHolds. -/
namespace Go.Proofs.YtgbnaifckclfoaaDoor.Sx
open Go
attribute [local irreducible] Calls

structure HJ where
  r : Rg
  B : Bx.Box
  y : Lay
  i : Nat
structure HJ.Ok (j : HJ) (b rb k : Nat) (k1 : List UInt8) (B5 : Bx.Box) (n : Nat) : Prop where
  kept : Kept j.r k j.i k1
  bx : j.r.bx = b
  b : j.r.b = rb
  inv : BInv j.B
  len : j.B.L.length ≤ 5 + j.i
  lo : j.y.ts.map (·.1) = j.B.L
  pre : Pre B5 j.B
  i : j.i ≤ n
end Go.Proofs.YtgbnaifckclfoaaDoor.Sx

/- RingNil. -/
namespace Go.Proofs.YtgbnaifckclfoaaDoor.Sx
open Go
attribute [local irreducible] Calls

theorem rise_es {r : Rg} (hok : RgOk r) : r.rise = r.es := by
  unfold Rg.rise
  refine List.mergeSort_of_pairwise (List.pairwise_map.2 ((List.pairwise_map.1 hok.rise).imp fun {a b} q => ?_))
  simp
  omega
theorem es_of (r : Rg) : r.es = (r.ks.map (·.e)).map (fun n : Nat => (n : Int)) := by simp [Rg.es]
theorem epochs0_c (w : World) : Con Tryd.prog n_ring_Ring_Epochs #[.pointer none] w [] (fun v Fs => ∃ bx, v = .func (.func n_ring_Ring_Epochs_1) #[] #[.pointer (some ⟨bx, 0, none⟩)] ∧ Fs = [bkF bx ty_ptr_ring_Ring [.pointer none], noO]) := by
  refine con_of_sx (cx := cx_ring_Ring_Epochs w (Un [])) (good_ring_Ring_Epochs w (Un [])) b_ring_Ring_Epochs rfl rfl (β := Va.z) [.c (.v (.pointer none))] 0 [] [] rfl rfl (Sat.start rfl) ?_
  intro β w' hs
  exact (hs.ofBk.noMem noO trivial (fun _ h => h)).fin [1, 0] ⟨β 0, rfl, rfl⟩ rfl rfl rfl ⟨rfl, rfl, trivial⟩
theorem six_at {j : Nat} {x : Int} (h : ([1, 2, 3, 4, 5, 6] : List Int)[j]? = some x) : x = (j : Int) + 1 ∧ j < 6 := by
  rcases j with _ | _ | _ | _ | _ | _ | j <;> simp at h <;> omega
set_option maxHeartbeats 4000000 in
theorem ringNil_c (w : World) (e0 : Int) (A0 : Option Addr) (text : List UInt8) (c0 stop : Nat) (hstop : stop < 256) (hm : Mem w [bsF A0 text, oddF 3, firstF 1]) :
    Con Tryd.prog n_ostiarylaw17_RingNil #[.int .u64 e0, .slice A0 text.length c0, .int .u8 (stop : Int)] w [] fun v Fs => v = .bool true ∧ Fs = [] := by
  have g := good_ostiarylaw17_RingNil w (Un [])
  have hs0 : Sat (cx_ostiarylaw17_RingNil w (Un [])) Va.z 0 [] [bsF A0 text, oddF 3, firstF 1] w := hm.sat0 rfl (ownIn (Gs := []) (fun f hf => by
    simp only [List.mem_cons, List.not_mem_nil, or_false] at hf
    rcases hf with rfl | rfl | rfl <;> rfl))
  obtain ⟨st, hst⟩ : ∃ st : Int, (stop : Int) = st := ⟨_, rfl⟩
  rw [hst]
  refine con_of_sx (cx := cx_ostiarylaw17_RingNil w (Un [])) g b_ostiarylaw17_RingNil rfl rfl (β := Va.z) [.c (.v (.int .u64 e0)), .c (.v (.slice A0 text.length c0)), .c (.v (.int .u8 st))] 0 [] _ rfl rfl hs0 ?_
  refine call_con [] (fun β w' hs => awake17_c w' (hs.mem.take (js := [1, 2]) rfl)) ?_
  rintro v Fs ⟨rfl, rfl⟩
  refine call_pu (fun β w' hs => rot0_c w') ?_
  refine call_pu (fun β w' hs => newest0_c w') ?_
  refine call_pu (fun β w' hs => key0_c w' e0) ?_
  intro b1
  refine call_pu (fun β w' hs => sign0_c w' (.slice (some ⟨b1, 0, none⟩) 1 1)) ?_
  intro b2
  refine ⟨0, _, rfl, ?_⟩
  refine call_pu (fun β w' hs => new0R_c w' _ 1) ?_
  refine call_con [] (fun β w' hs => newX_c w' false) ?_
  rintro v Fs ⟨b, y0, rfl, hy0, rfl⟩
  have hi0 := box0i false
  obtain ⟨B, hB⟩ : ∃ B : Bx.Box, (⟨false, false, []⟩ : Bx.Box) = B := ⟨_, rfl⟩
  have hL0 : B.L.length ≤ 0 := by rw [← hB]; exact Nat.le_refl _
  have hts0 : y0.ts.map (·.1) = B.L := by rw [← hB, hy0]; rfl
  rw [hB] at hi0 ⊢
  clear hB hy0
  intro b3
  refine ⟨0, _, rfl, ?_⟩
  refine call_con [1] (fun β w' hs => newK_c w' b B y0 (some ⟨b3, 0, none⟩) [109] 1 8 (by decide) (by decide) (by decide) (by decide) hts0 hi0 (by omega) (hs.mem.take (js := [1, 0, 5, 6]) rfl)) ?_
  rintro v Fs ⟨r, y1, rfl, rb1, _, k1, g1, hy1, rfl⟩
  obtain ⟨⟨p1, B1⟩, e1⟩ : ∃ q, macB B [109] (keyT 1).data.toList = q := ⟨_, rfl⟩
  rw [e1] at k1 g1 hy1 ⊢
  have l1 := g1.1.len
  have i1 := g1.1.inv
  simp only at l1 hy1 k1 i1
  refine loop_rule (ι := HJ) 1 (fun j => [(0, .c (.v (.int .u64 e0))), (1, .c (.v (.slice A0 text.length c0))), (2, .c (.v (.int .u8 st))), (6, .c (.p 0 0)), (7, .c (.v (.pointer none))), (9, .c (.v (.int .i64 6))), (12, .c (.v (.bool false))), (14, .c (.v (.int .i64 6))), (17, .c (.v (.int .i64 6))), (19, .c (.v (.int .i64 6))), (20, .c (.v (ptrR r.b))), (65, .c (.v (.int .i64 (j.i : Int))))]) (fun _ => [⟨0, ty_bool, [.v (.bool false)]⟩]) (fun j => [rgF j.r, bxF b j.B j.y, oddF 3, firstF 1])
    (fun j => j.Ok b r.b 8 p1 B1 5) (fun j => 5 - j.i) ⟨r, B1, y1, 0⟩ ⟨k1, rb1, rfl, i1, by show B1.L.length ≤ 5 + 0; omega, hy1, Pre.refl _, Nat.zero_le _⟩ (Ent.mk' ⟨rfl, rfl, rfl, rfl, rfl, rfl, rfl, rfl, rfl, rfl, rfl, rfl, trivial⟩ rfl (fun β w' hs => (hs.perm [0, 1, 6, 7]).lower)) g ?_
  rintro ⟨r', B', y', i⟩ ⟨hkp, hbx, hb, hinv, hlen, hlo, hpre, hi⟩
  simp only at hkp hbx hb hinv hlen hlo hpre hi
  refine BIf.dec (fun hlt => ?_) (fun hge => ?_)
  · have hlt0 : (i : Int) < 5 := hlt
    refine call_con [0, 1] (fun β w' hs => by
      have h := rotateK_c w' b r' 8 i p1 hkp (by decide) (by omega) hbx B' y' hlo hinv (by omega) (hs.mem.take (js := [0, 1, 2, 3]) rfl)
      rw [hb] at h
      exact h) ?_
    rintro v Fs ⟨r2, y2, rfl, f1, f2, _, f3, f4, f5, rfl⟩
    refine ⟨((i + 1 : Nat) : Int), by rw [wrap_i64 (by omega) (by omega)]; rfl, ?_⟩
    have f6 := f4.1.len
    exact ⟨⟨r2, _, y2, i + 1⟩, ⟨f3, f2, f1, f4.1.inv, by show (macB B' r'.master (keyT (r'.epoch + 1)).data.toList).2.L.length ≤ 5 + (i + 1); omega, f5, hpre.trans (mac_pre (by omega) _ _), by show i + 1 ≤ 5; omega⟩, by show 5 - (i + 1) < 5 - i; omega, Ent.mk' ⟨rfl, rfl, rfl, rfl, rfl, rfl, rfl, rfl, rfl, rfl, rfl, rfl, trivial⟩ rfl (fun β w' hs => hs.lower)⟩
  have hge0 : ¬ (i : Int) < 5 := hge
  obtain rfl : i = 5 := by omega
  obtain ⟨k, hk⟩ : ∃ k, 1 + stop % 8 = k := ⟨_, rfl⟩
  refine ⟨by decide, ((stop % 8 : Nat) : Int), by rw [← hst]; exact Int.ofNat_tmod _ _, ?_⟩
  refine ⟨((stop % 8 : Nat) : Int), by rw [wrap_i64 (by omega) (by omega)], ?_⟩
  obtain ⟨kk, hkk⟩ : ∃ kk : Int, (k : Int) = kk := ⟨_, rfl⟩
  refine ⟨kk, by rw [wrap_i64 (by omega) (by omega)]; omega, ?_⟩
  have hk1 : 1 ≤ k := by omega
  have hk8 : k ≤ 8 := by omega
  clear hk
  have hrl : r'.ks.length = 6 := by
    obtain ⟨A, c, ks, e, hl⟩ := hkp.lo (by decide)
    rw [e, List.length_cons, hl]
  have hrise : r'.rise = [1, 2, 3, 4, 5, 6] := by
    rw [rise_es hkp.ok, es_of, hkp.eslo (by decide)]
    rfl
  rw [← hb]
  refine call_con [] (fun β w' hs => epochs_c w' r') ?_
  rintro v Fs ⟨bx2, rfl, rfl⟩
  refine range_rule (α := Int) (ι := List Int) (κ := Unit) g rfl (cv := [.pointer (some ⟨bx2, 0, none⟩)]) rfl (by kernel_rfl) 3 (Nat.le_refl 3)
    (fun pre i => i = pre ∧ pre.length < k) (fun i => [⟨2, ty_uint64, [.v (.int .u64 (i.length : Int))]⟩, ⟨1, ty_int, [.v (.int .i64 kk)]⟩, ⟨0, ty_bool, [.v (.bool false)]⟩]) (fun i => onFst i [] [rgF r']) (fun i => by cases i with | nil => exact trivial | cons _ _ => exact ⟨rfl, trivial⟩)
    (fun e _ _ => e = .exit 2 ∧ k ≤ 6) (fun _ => [⟨2, ty_uint64, [.v (.int .u64 kk)]⟩, ⟨1, ty_int, [.v (.int .i64 kk)]⟩, ⟨0, ty_bool, [.v (.bool false)]⟩]) (fun _ => [rgF r']) (fun _ => ⟨rfl, trivial⟩)
    [bkF bx2 ty_ptr_ring_Ring [ptrR r'.b], rgF r'] [] [] ⟨rfl, rfl, trivial⟩ (fun g h => by cases h) [] ⟨rfl, by show 0 < k; omega⟩
    (fun β w hs => ⟨β, Agr.refl _ _, hs.perm [0, 1]⟩) (insE r' r'.rise)
    (fun xs Fs' => xs = r'.rise ∧ Fs' = onFst r'.rise [rgF r'] []) (fun _ Fs' => Fs' = [])
    (fun l w f0 R J Jx hJ0 hJo hRo hY hm => (ep_it l w bx2 r' f0 R J Jx (by omega) hJ0 hJo hRo hY hm).mono fun _ Fs h => by
      obtain ⟨f, Fs', e0, h⟩ := h
      refine ⟨f, Fs', e0, ?_⟩
      rcases h with ⟨xs, a1, a2, a3⟩ | ⟨pre, a1, a2⟩
      · exact .inl ⟨xs, a1, a2, a3⟩
      · exact .inr ⟨pre, a1, a2⟩) ?_ ?_ ?_
  · rintro i pre x args X W S' lb bs pn pn' hbs ⟨rfl, hlt⟩ ⟨rfl, rfl, hx0⟩
    rw [hrise] at hx0
    obtain ⟨hx1, hx2⟩ := six_at hx0
    refine ⟨_, rfl, ?_⟩
    obtain ⟨il, hil⟩ : ∃ il : Int, (i.length : Int) = il := ⟨_, rfl⟩
    rw [hil]
    refine ⟨x, by rw [wrap_u64']; omega, ?_⟩
    refine BIf.not (BIf.dec (fun _ => ?_) (fun h => absurd rfl h))
    refine ⟨x, by rw [wrap_i64 (by omega) (by omega)], ?_⟩
    refine BIf.dec (fun heq => ?_) (fun hne => ?_)
    · have heq0 : x = kk := heq
      subst heq0
      refine ⟨(), ⟨rfl, by omega⟩, Ent.mk' trivial rfl (fun β w hs => ?_)⟩
      cases i with
      | nil => exact hs
      | cons a t => exact hs.perm [1]
    · have hne0 : ¬ x = kk := hne
      have e : (i ++ [x]).length = i.length + 1 := by rw [List.length_append]; rfl
      refine ⟨i ++ [x], ⟨rfl, by rw [e]; omega⟩, Ent.mk' trivial rfl (fun β w hs => ?_)⟩
      have e2 : ((i ++ [x]).length : Int) = x := by rw [e]; omega
      simp only [e2]
      cases i with
      | nil => exact hs
      | cons a t => exact hs.perm [1]
  · rintro xs i Fs ⟨rfl, hlt⟩ ⟨hxs, rfl⟩
    rw [hrise] at hxs ⊢
    subst hxs
    have hlt0 : 6 < k := hlt
    obtain ⟨six, hsix⟩ : ∃ six : Int, (([1, 2, 3, 4, 5, 6] : List Int).length : Int) = six := ⟨_, rfl⟩
    have hsix2 : six = 6 := hsix.symm
    simp only [hsix]
    refine call_pu (fun β w' hs => retire0_c w' e0) ?_
    refine call_pu (fun β w' hs => verify0_c w' e0 _ _) ?_
    refine call_pu (fun β w' hs => len0R_c w') ?_
    refine call_con [] (fun β w' hs => epochs0_c w') ?_
    rintro v Fs ⟨bx3, rfl, rfl⟩
    refine call_con [0, 1] (hown := ⟨rfl, rfl, trivial⟩) (fun β w' hs => collectN_c w' n_ring_Ring_Epochs_1 bx3 ty_ptr_ring_Ring [.pointer none] noO noO 0 (fun xs => xs = []) (by kernel_rfl) rfl rfl (by decide) (ep0_gives bx3) (hs.mem.take (js := [0, 1]) rfl)) ?_
    rintro v Fs ⟨A9, c9, l9, rfl, rfl, _, _, rfl⟩
    refine ⟨six, by rw [wrap_i64 (by omega) (by omega)], ?_⟩
    refine ⟨six, by show min kk 6 = six; omega, ?_⟩
    conv => whnf
    generalize hee : decide (six = six) = b9
    cases b9 with
    | false => exact absurd rfl (of_decide_eq_false hee)
    | true =>
    intro β w' hs
    exact (hs.keepB (List.nil_sublist _)).fin [] ⟨rfl, rfl⟩
  · rintro e pre j Fs ⟨rfl, hk6⟩ rfl
    refine call_pu (fun β w' hs => retire0_c w' e0) ?_
    refine call_pu (fun β w' hs => verify0_c w' e0 _ _) ?_
    refine call_pu (fun β w' hs => len0R_c w') ?_
    refine call_con [] (fun β w' hs => epochs0_c w') ?_
    rintro v Fs ⟨bx3, rfl, rfl⟩
    refine call_con [0, 1] (hown := ⟨rfl, rfl, trivial⟩) (fun β w' hs => collectN_c w' n_ring_Ring_Epochs_1 bx3 ty_ptr_ring_Ring [.pointer none] noO noO 0 (fun xs => xs = []) (by kernel_rfl) rfl rfl (by decide) (ep0_gives bx3) (hs.mem.take (js := [0, 1]) rfl)) ?_
    rintro v Fs ⟨A9, c9, l9, rfl, rfl, _, _, rfl⟩
    refine ⟨kk, by rw [wrap_i64 (by omega) (by omega)], ?_⟩
    refine ⟨kk, by show min kk 6 = kk; omega, ?_⟩
    conv => whnf
    generalize hee : decide (kk = kk) = b9
    cases b9 with
    | false => exact absurd rfl (of_decide_eq_false hee)
    | true =>
    intro β w' hs
    exact (hs.keepB (List.nil_sublist _)).fin [] ⟨rfl, rfl⟩
end Go.Proofs.YtgbnaifckclfoaaDoor.Sx

/- What a statement's proof has of its arguments, in this executor's words. -/
namespace Go.Proofs.YtgbnaifckclfoaaDoor.Sx
open Go Go.RowKit

theorem below_of {w w' : World} (h : Chg None_ w w') : Below w.heap.size w w' :=
  ⟨h.os, h.tape, h.output, h.size, fun k hk => h.same k hk (fun q => q)⟩
end Go.Proofs.YtgbnaifckclfoaaDoor.Sx

/- Tables that are laid: what their cells are. -/
namespace Go.Proofs.YtgbnaifckclfoaaDoor.Sx
open Go

theorem rd_of_ints {H : Type} {enc : TypeId × Value → H} {P : Program} {W : World} {base : Nat} {sp : Nat → Bool} {held : Bool} {fuel g n : Nat} {t e : TypeId} {k : IntKind} {cs : Array Value} {zs : List Int} {q : List MemPlace}
    (ht : P.underlying t = some (.array n e)) (he : P.underlying e = some (.int k)) (hc : P.cellsOf e = 1) (hd : DataW.trod enc P W base sp held fuel t cs.toList = some (.agg (zs.map fun z => .lit (.int k z)), q)) (hcell : ∀ j, W.cell? ⟨g, j, none⟩ = cs[j]?) :
    Rd 1 (some ⟨g, 0, none⟩) zs.length (zs.map (Value.int k)) W := by
  obtain ⟨xs, m, _, hx, hlen, hn, hel⟩ := DataW.trod_array ht hd
  simp only [Prod.mk.injEq, DataW.agg.injEq] at hx
  have hzn : zs.length = n := by
    have h9 := congrArg List.length hx.1
    simp only [List.length_map] at h9
    omega
  refine ⟨by simp, fun hp => ⟨_, rfl, fun j u hu => ?_⟩⟩
  rw [List.getElem?_map] at hu
  obtain ⟨z, hz, rfl⟩ := Option.map_eq_some_iff.1 hu
  have hj : j < zs.length := (List.getElem?_eq_some_iff.1 hz).1
  have h1 := hel j (by omega)
  have h2 : (xs.map (·.1))[j]? = some (.lit (.int k z)) := by rw [← hx.1, List.getElem?_map, hz]; rfl
  rw [List.getElem?_map] at h2
  obtain ⟨x, hxj, hx1⟩ := Option.map_eq_some_iff.1 h2
  rw [hxj, hc, Nat.mul_one] at h1
  obtain ⟨y, e1, e2, _⟩ := DataW.trod_int he h1
  have hy : y = z := by
    rw [e2] at hx1
    simpa using hx1
  subst hy
  rw [add_none, Nat.zero_add, hcell j, ← Array.getElem?_toList]
  have h3 := congrArg (fun l => l[0]?) e1
  simpa [List.getElem?_drop] using h3
abbrev u32s (l : List UInt32) : List Int := l.map fun x => (x.toNat : Int)
theorem rd_u32 {g : Nat} {W : World} {l : List UInt32} (h : Rd 1 (some ⟨g, 0, none⟩) (u32s l).length ((u32s l).map (Value.int .u32)) W) : Rd 1 (some ⟨g, 0, none⟩) l.length (l.map u32) W := by
  have e : (u32s l).map (Value.int .u32) = l.map u32 := by rw [List.map_map]; rfl
  rw [e, List.length_map] at h
  exact h
end Go.Proofs.YtgbnaifckclfoaaDoor.Sx

/- Tables that are laid, of any plain types: their cells are what they hold, in order. -/
namespace Go.Proofs.YtgbnaifckclfoaaDoor.Sx
open Go

section
variable {H : Type} {enc : TypeId × Value → H} {P : Program} {w : World} {base : Nat} {sp : Nat → Bool} {held : Bool}
end
end Go.Proofs.YtgbnaifckclfoaaDoor.Sx
