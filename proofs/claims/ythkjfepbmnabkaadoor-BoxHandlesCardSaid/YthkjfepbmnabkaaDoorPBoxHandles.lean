/- BoxHandles -/
import Derived.Test.YthkjfepbmnabkaaDoorMBH5
import Derived.Test.YthkjfepbmnabkaaDoorMBH2
import Derived.Test.YthkjfepbmnabkaaDoorRows
import Derived.Test.YthkjfepbmnabkaaDoorCards
import Derived.Test.YthkjfepbmnabkaaDoorTie
import Derived.WalkKit
import Derived.ProofKit
import Derived.OpenShut
import Derived.ShutString
import Derived.ChangeOld
import Derived.Below
import Derived.LaidMore
import Derived.Stop.Joined
import Derived.SevenTiedAt
namespace Go.Proofs.YthkjfepbmnabkaaDoor.boxHandles
open Go.ChangeShapes Go.WideShapes Go.ChangeAt Go.RowKit
set_option linter.unusedVariables false

theorem own : ownKnob Tryd.prog.godebug = none := by kernel_rfl
theorem laidOut : laidOutB Tryd.prog = true := by kernel_rfl
abbrev lst : List (String × DataW Unit) := [("ostiary/sha.first", Rows.laid_ostiary_sha_first), ("ostiary/sha.odd", Rows.laid_ostiary_sha_odd)]

theorem door_met (os : Os) (args : Array Value) : laidMetH Tryd.prog lst ((World.doorLaid Tryd.prog 68 os).forCall (fun _ _ => 0) ⟨#[], args, []⟩).memory :=
  laidMetH_of_parts3 (fuel := 8) (laidMet_of_run' 8 (by kernel_rfl) (by kernel_rfl)) (by kernel_rfl) (by kernel_rfl)
/-- What the tables are. -/
theorem of_laid {W : World} (h : laidMetH Tryd.prog lst W) : (Sx.firstF 0).p W ∧ (Sx.oddF 1).p W := by
  rw [MakeChecks.laidMetH_plain _ _ _ (by kernel_rfl)] at h
  obtain ⟨ps, ⟨g0, t0, cs0, f0, p0, q0, hg0, ht0, hv0, hd0, ⟨g1, t1, cs1, f1, p1, q1, hg1, ht1, hv1, hd1, _, _⟩, _⟩, _, _⟩ := h
  obtain rfl := Option.some.inj ((show Tryd.prog.globalNamed "ostiary/sha.first" = some 0 by kernel_rfl).symm.trans hg0)
  obtain rfl := Option.some.inj ((show (Tryd.prog.globals[0]?).map (·.type) = some 124 by kernel_rfl).symm.trans ht0)
  have hc0 : ∀ i, W.cell? ⟨0, i, none⟩ = cs0[i]? := fun i => World.var?_cell hg0 hv0 i
  obtain rfl := Option.some.inj ((show Tryd.prog.globalNamed "ostiary/sha.odd" = some 1 by kernel_rfl).symm.trans hg1)
  obtain rfl := Option.some.inj ((show (Tryd.prog.globals[1]?).map (·.type) = some 170 by kernel_rfl).symm.trans ht1)
  have hc1 : ∀ i, W.cell? ⟨1, i, none⟩ = cs1[i]? := fun i => World.var?_cell hg1 hv1 i
  have e0 : (Rows.laid_ostiary_sha_first : DataW Unit) = .agg ((Sx.u32s Sha.first.l).map fun z => .lit (.int .u32 z)) := by kernel_rfl
  rw [e0] at hd0
  have e1 : (Rows.laid_ostiary_sha_odd : DataW Unit) = .agg ((Sx.u32s Sha.K).map fun z => .lit (.int .u32 z)) := by kernel_rfl
  rw [e1] at hd1
  exact ⟨Sx.rd_u32 (l := Sha.first.l) (Sx.rd_of_ints (P := Tryd.prog) (k := .u32) (n := 8) (e := 53) (zs := Sx.u32s Sha.first.l) (by kernel_rfl) (by kernel_rfl) (by kernel_rfl) hd0 hc0), Sx.rd_u32 (l := Sha.K) (Sx.rd_of_ints (P := Tryd.prog) (k := .u32) (n := 64) (e := 53) (zs := Sx.u32s Sha.K) (by kernel_rfl) (by kernel_rfl) (by kernel_rfl) hd1 hc1)⟩
theorem walk (n0 : Int) (a1 : Option Addr) (len1 cap1 : Nat) (a2 : Option Addr) (len2 cap2 : Nat) (n3 : Int) (w : World) (o0 : ∃ m, Sx.Opens Tryd.prog w m 53 (Value.cells (.int .u32 n0)).toList) (o1 : ∃ m, Sx.Opens Tryd.prog w m 26 (Value.cells (.slice a1 len1 cap1)).toList) (o2 : ∃ m, Sx.Opens Tryd.prog w m 26 (Value.cells (.slice a2 len2 cap2)).toList) (o3 : ∃ m, Sx.Opens Tryd.prog w m 5 (Value.cells (.int .u8 n3)).toList) (h0t : (Sx.firstF 0).p w) (h1t : (Sx.oddF 1).p w) :
    Calls Tryd.prog 5 #[.int .u32 n0, .slice a1 len1 cap1, .slice a2 len2 cap2, .int .u8 n3] w fun e w' => e = .returned (.bool true) ∧ Below w.heap.size w w' := by
  obtain ⟨m0, o0⟩ := o0
  obtain ⟨m1, o1⟩ := o1
  obtain ⟨m2, o2⟩ := o2
  obtain ⟨m3, o3⟩ := o3
  have c5 : Tryd.prog.cellsOf 5 = 1 := by kernel_rfl
  obtain ⟨x0, hx0, hx1, hx2⟩ := o0.int (Sx.ok53.real (d := .int .u32) rfl rfl)
  simp only [Value.cells, List.cons.injEq, and_true] at hx0
  injection hx0 with _ e0
  subst e0
  obtain ⟨A1, p, c1, hp0, hpc, _, hp⟩ := o1.bytes (Sx.ok26.real (d := .slice 5) rfl rfl) (Sx.ok5.real (d := .int .u8) rfl rfl) c5
  simp only [Value.cells, List.cons.injEq, and_true] at hp0
  injection hp0 with e1 e2 e3
  subst e1 e2 e3
  obtain ⟨A2, q, c2, hq0, hqc, hqm, hq⟩ := o2.bytes (Sx.ok26.real (d := .slice 5) rfl rfl) (Sx.ok5.real (d := .int .u8) rfl rfl) c5
  simp only [Value.cells, List.cons.injEq, and_true] at hq0
  injection hq0 with e1 e2 e3
  subst e1 e2 e3
  obtain ⟨k, hk⟩ := o3.u8 (Sx.ok5.real (d := .int .u8) rfl rfl)
  simp only [Value.cells, List.cons.injEq, and_true] at hk
  rw [hk]
  have hml := Sx.maxLen_eq
  have hmn : IntKind.u32.min = 0 := rfl
  have hmx : IntKind.u32.max = 4294967295 := rfl
  obtain ⟨n, rfl⟩ : ∃ n : Nat, n0 = (n : Int) := ⟨n0.toNat, by omega⟩
  refine Calls.mono (Sx.boxHandles_c w n (by omega) a1 a2 p q cap1 cap2 hp hpc hq (by omega) k) ?_
  rintro e w' ⟨v, rfl, Fs, ⟨rfl, rfl⟩, hc, _⟩
  refine ⟨rfl, Sx.below_of ?_⟩
  rw [Sx.Un.nil] at hc
  exact hc

set_option maxRecDepth 100000 in
theorem lifted (os : Os) (started : os.Started) (H : Type) (enc : TypeId × Value → H) :
    ReturnsInHanded {} Tryd.checked os 5 .any (fun w args => (Rows.boxHandlesSpec.pre enc Tryd.prog Tryd.f5 [] false w args ∧ laidMetH Tryd.prog lst w) ∧ sizedMet enc Tryd.prog Tryd.f5 (OpenSpec.ofChange Rows.boxHandlesSpec) false w args)
      (Rows.boxHandlesSpec.post enc Tryd.prog Tryd.f5 false true false false) := by
  refine returnsInHanded_of_change_and (C := Tryd.checked) (X := fun w _ => laidMetH Tryd.prog lst w) (fun _ _ _ hh h => h.of_heap hh) own started (by kernel_rfl) Tryd.func5
    (ChangeSpec.witness_shaped (enc := enc) (C := Tryd.checked) (os := os) (X := fun w _ => laidMetH Tryd.prog lst w) false (World.doorLaid Tryd.prog 68 os) #[.int .u32 0, .slice none 0 0, .slice none 0 0, .int .u8 0] 8 rfl (World.shaped_of_RefB (by kernel_rfl) (by kernel_rfl)) (by kernel_rfl) (by kernel_rfl) (by kernel_rfl) (door_met os _)) ?_
  intro W base args ds gs before hval0 hW _ _ hL _
  have hval : ∀ (j : Nat) t v, Tryd.f5.params[j]? = some t → args[j]? = some v → Value.okWide Tryd.prog W .any base t v := hval0
  have hW' := hW
  obtain ⟨p, q, hA0, hV, rfl, hfz, hnd⟩ := hW
  have hA : DataW.TrodAll enc Tryd.prog W 0 (fun _ => true) true Tryd.f5.params.toList args.toList ds p := hA0
  rw [Tryd.params5] at hA hval
  obtain ⟨v0, vs0, d0, ds0, p0, q0, hargs, rfl, rfl, h0, r0⟩ := trodAll_cons hA
  obtain ⟨v1, vs1, d1, ds1, p1, q1, rfl, rfl, rfl, h1, r1⟩ := trodAll_cons r0
  obtain ⟨v2, vs2, d2, ds2, p2, q2, rfl, rfl, rfl, h2, r2⟩ := trodAll_cons r1
  obtain ⟨v3, vs3, d3, ds3, p3, q3, rfl, rfl, rfl, h3, r3⟩ := trodAll_cons r2
  obtain ⟨rfl, rfl, rfl⟩ := trodAll_nil r3
  obtain rfl : args = #[v0, v1, v2, v3] := by cases args; simp_all
  obtain ⟨rfl, rfl⟩ := trodVars_none hV
  obtain ⟨n0, rfl⟩ := okWide_int Tryd.underlying53 (hval 0 53 v0 rfl rfl)
  have k0 := h0
  have lt0 : ∀ x ∈ p0, x.block < W.heap.size := by obtain ⟨m, hm⟩ := k0; exact DataW.trod_lt m _ _ _ hm
  have o0 : ∃ m, Sx.Opens Tryd.prog W m 53 (Value.cells (.int .u32 n0)).toList := by obtain ⟨m, hm⟩ := k0; exact ⟨m, Sx.opens_of m _ _ _ hm⟩
  obtain ⟨a1, len1, cap1, rfl⟩ := okWide_slice Tryd.underlying26 (hval 1 26 v1 rfl rfl)
  have k1 := h1
  have lt1 : ∀ x ∈ p1, x.block < W.heap.size := by obtain ⟨m, hm⟩ := k1; exact DataW.trod_lt m _ _ _ hm
  have o1 : ∃ m, Sx.Opens Tryd.prog W m 26 (Value.cells (.slice a1 len1 cap1)).toList := by obtain ⟨m, hm⟩ := k1; exact ⟨m, Sx.opens_of m _ _ _ hm⟩
  obtain ⟨a2, len2, cap2, rfl⟩ := okWide_slice Tryd.underlying26 (hval 2 26 v2 rfl rfl)
  have k2 := h2
  have lt2 : ∀ x ∈ p2, x.block < W.heap.size := by obtain ⟨m, hm⟩ := k2; exact DataW.trod_lt m _ _ _ hm
  have o2 : ∃ m, Sx.Opens Tryd.prog W m 26 (Value.cells (.slice a2 len2 cap2)).toList := by obtain ⟨m, hm⟩ := k2; exact ⟨m, Sx.opens_of m _ _ _ hm⟩
  obtain ⟨n3, rfl⟩ := okWide_int Tryd.underlying5 (hval 3 5 v3 rfl rfl)
  have k3 := h3
  have lt3 : ∀ x ∈ p3, x.block < W.heap.size := by obtain ⟨m, hm⟩ := k3; exact DataW.trod_lt m _ _ _ hm
  have o3 : ∃ m, Sx.Opens Tryd.prog W m 5 (Value.cells (.int .u8 n3)).toList := by obtain ⟨m, hm⟩ := k3; exact ⟨m, Sx.opens_of m _ _ _ hm⟩
  obtain ⟨l0t, l1t⟩ := of_laid hL
  clear hA0 hval0
  refine (walk n0 a1 len1 cap1 a2 len2 cap2 n3 W o0 o1 o2 o3 l0t l1t).mono fun e W' ⟨he, bel⟩ => ?_
  subst he
  exact ⟨_, rfl, _, _, _, [], _, [], hW', trodAll_mk1 (shut_bool Tryd.underlying4 _), (trodAll_cons_mk (Below.trod laidOut (by kernel_rfl) (of_decide_eq_true (by kernel_rfl)) k0 bel lt0) (trodAll_cons_mk (Below.trod laidOut (by kernel_rfl) (of_decide_eq_true (by kernel_rfl)) k1 bel lt1) (trodAll_cons_mk (Below.trod laidOut (by kernel_rfl) (of_decide_eq_true (by kernel_rfl)) k2 bel lt2) (trodAll_cons_mk (Below.trod laidOut (by kernel_rfl) (of_decide_eq_true (by kernel_rfl)) k3 bel lt3) trodAll_mk0)))), rfl, bel.frame _, fun h => by cases h⟩

theorem over : Rows.BoxHandlesSaid :=
  OpenClaim.holds_of_wide 5 Tryd.f5 rfl rfl rfl rfl rfl rfl rfl ⟨rfl, rfl, rfl, rfl, rfl⟩ rfl rfl rfl rfl rfl (by kernel_rfl) Tryd.func5 (by kernel_rfl)
    (of_decide_eq_true (by kernel_rfl)) (by unfold Func.isWrapper; first | (rw [if_pos (by decide +kernel)]; kernel_rfl) | (rw [if_neg (by decide +kernel)]; exact ⟨rfl, rfl⟩))
    (fun os started H enc _ => lifted os started H enc)

theorem proved : Rows.BoxHandlesCardSaid :=
  Claim7.holds_tied_plain_at .later [] [.data, .data] true (true, "1187f747fc85e569e7ee7433a2f9bbd829d9b306e403f363464eb034f74ecf3f") false
    over (fun _ h => by cases h) (by kernel_rfl) (fun _ h => by cases h) boxHandles_row_tie rfl ⟨rfl, rfl⟩ (by kernel_rfl) rfl
    (fun f fn hf hfn => by
      obtain rfl : f = 5 := Option.some.inj ((show Tryd.prog.funcNamed "ostiary/ostiarylaw05.BoxHandles" = some 5 by kernel_rfl).symm.trans hf) |>.symm
      obtain rfl : fn = Tryd.f5 := (Option.some.inj (Tryd.func5.symm.trans hfn)).symm
      exact ⟨by kernel_rfl, fun j t ht => by
        rw [Tryd.params5] at ht
        have hm : t ∈ [53, 26, 26, 5] := by simpa using Array.mem_of_getElem? ht
        have hall : ([53, 26, 26, 5].all fun u => !Tryd.prog.wantsStandIn u) = true := by kernel_rfl
        exact (show Tryd.prog.wantsStandIn t = false by simpa using List.all_eq_true.1 hall t hm)⟩)
    (by kernel_rfl)
#print axioms proved
end Go.Proofs.YthkjfepbmnabkaaDoor.boxHandles
