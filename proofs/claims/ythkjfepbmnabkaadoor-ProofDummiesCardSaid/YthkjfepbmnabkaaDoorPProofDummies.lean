/- Nobody's secret is the document's: for every tenant, user and number of rounds, and any two texts; the tables are as the program's text lays them. -/
import Derived.Test.YthkjfepbmnabkaaDoorPdLaw
import Derived.Test.YthkjfepbmnabkaaDoorSxOpen
import Derived.Test.YthkjfepbmnabkaaDoorSxArg
import Derived.Test.YthkjfepbmnabkaaDoorLaid
import Derived.Test.YthkjfepbmnabkaaDoorRows
import Derived.Test.YthkjfepbmnabkaaDoorCards
import Derived.Test.YthkjfepbmnabkaaDoorTie
import Derived.WalkKit
import Derived.ProofKit
import Derived.OpenShut
import Derived.ShutString
import Derived.ChangeOld
import Derived.Below
import Derived.LaidMore
import Derived.Stop.Joined
import Derived.SevenTiedAt
namespace Go.Proofs.YthkjfepbmnabkaaDoor.proofDummies
open Go.ChangeShapes Go.WideShapes Go.ChangeAt Go.RowKit
set_option linter.unusedVariables false

theorem own : ownKnob Tryd.prog.godebug = none := by kernel_rfl
theorem laidOut : laidOutB Tryd.prog = true := by kernel_rfl
abbrev lst : List (String × DataW Unit) := [("ostiary/ostiaryref01.words", Rows.laid_ostiary_ostiaryref01_words), ("ostiary/sha.first", Rows.laid_ostiary_sha_first), ("ostiary/sha.odd", Rows.laid_ostiary_sha_odd)]

theorem door_met (os : Os) (args : Array Value) : laidMetH Tryd.prog lst ((World.doorLaid Tryd.prog 68 os).forCall (fun _ _ => 0) ⟨#[], args, []⟩).memory :=
  laidMetH_of_parts3 (fuel := 8) (laidMet_of_run' 8 (by kernel_rfl) (by kernel_rfl)) (by kernel_rfl) (by kernel_rfl)
/-- What the tables are. -/
theorem of_laid {W : World} (h : laidMetH Tryd.prog lst W) : (Sx.oddF 3).p W ∧ (Sx.firstF 0).p W ∧ (Sx.oddF 1).p W := by
  rw [MakeChecks.laidMetH_plain _ _ _ (by kernel_rfl)] at h
  obtain ⟨ps, ⟨g0, t0, cs0, f0, p0, q0, hg0, ht0, hv0, hd0, ⟨g1, t1, cs1, f1, p1, q1, hg1, ht1, hv1, hd1, ⟨g2, t2, cs2, f2, p2, q2, hg2, ht2, hv2, hd2, _, _⟩, _⟩, _⟩, _, _⟩ := h
  obtain rfl := Option.some.inj ((show Tryd.prog.globalNamed "ostiary/ostiaryref01.words" = some 3 by kernel_rfl).symm.trans hg0)
  obtain rfl := Option.some.inj ((show (Tryd.prog.globals[3]?).map (·.type) = some 170 by kernel_rfl).symm.trans ht0)
  have hc0 : ∀ i, W.cell? ⟨3, i, none⟩ = cs0[i]? := fun i => World.var?_cell hg0 hv0 i
  obtain rfl := Option.some.inj ((show Tryd.prog.globalNamed "ostiary/sha.first" = some 0 by kernel_rfl).symm.trans hg1)
  obtain rfl := Option.some.inj ((show (Tryd.prog.globals[0]?).map (·.type) = some 124 by kernel_rfl).symm.trans ht1)
  have hc1 : ∀ i, W.cell? ⟨0, i, none⟩ = cs1[i]? := fun i => World.var?_cell hg1 hv1 i
  obtain rfl := Option.some.inj ((show Tryd.prog.globalNamed "ostiary/sha.odd" = some 1 by kernel_rfl).symm.trans hg2)
  obtain rfl := Option.some.inj ((show (Tryd.prog.globals[1]?).map (·.type) = some 170 by kernel_rfl).symm.trans ht2)
  have hc2 : ∀ i, W.cell? ⟨1, i, none⟩ = cs2[i]? := fun i => World.var?_cell hg2 hv2 i
  have e0 : (Rows.laid_ostiary_ostiaryref01_words : DataW Unit) = .agg ((Sx.u32s Sha.K).map fun z => .lit (.int .u32 z)) := by kernel_rfl
  rw [e0] at hd0
  have e1 : (Rows.laid_ostiary_sha_first : DataW Unit) = .agg ((Sx.u32s Sha.first.l).map fun z => .lit (.int .u32 z)) := by kernel_rfl
  rw [e1] at hd1
  have e2 : (Rows.laid_ostiary_sha_odd : DataW Unit) = .agg ((Sx.u32s Sha.K).map fun z => .lit (.int .u32 z)) := by kernel_rfl
  rw [e2] at hd2
  exact ⟨Sx.rd_u32 (l := Sha.K) (Sx.rd_of_ints (P := Tryd.prog) (k := .u32) (n := 64) (e := 53) (zs := Sx.u32s Sha.K) (by kernel_rfl) (by kernel_rfl) (by kernel_rfl) hd0 hc0), Sx.rd_u32 (l := Sha.first.l) (Sx.rd_of_ints (P := Tryd.prog) (k := .u32) (n := 8) (e := 53) (zs := Sx.u32s Sha.first.l) (by kernel_rfl) (by kernel_rfl) (by kernel_rfl) hd1 hc1), Sx.rd_u32 (l := Sha.K) (Sx.rd_of_ints (P := Tryd.prog) (k := .u32) (n := 64) (e := 53) (zs := Sx.u32s Sha.K) (by kernel_rfl) (by kernel_rfl) (by kernel_rfl) hd2 hc2)⟩
theorem walk (s0 : ByteArray) (s1 : ByteArray) (n2 : Int) (s3 : ByteArray) (s4 : ByteArray) (w : World) (o0 : ∃ m, Sx.Opens Tryd.prog w m 9 (Value.cells (.string s0)).toList) (o1 : ∃ m, Sx.Opens Tryd.prog w m 9 (Value.cells (.string s1)).toList) (o2 : ∃ m, Sx.Opens Tryd.prog w m 3 (Value.cells (.int .i64 n2)).toList) (o3 : ∃ m, Sx.Opens Tryd.prog w m 9 (Value.cells (.string s3)).toList) (o4 : ∃ m, Sx.Opens Tryd.prog w m 9 (Value.cells (.string s4)).toList) (h0t : (Sx.oddF 3).p w) (h1t : (Sx.firstF 0).p w) (h2t : (Sx.oddF 1).p w) :
    Calls Tryd.prog 3 #[.string s0, .string s1, .int .i64 n2, .string s3, .string s4] w fun e w' => e = .returned (.bool true) ∧ Below w.heap.size w w' := by
  obtain ⟨m0, o0⟩ := o0
  obtain ⟨m1, o1⟩ := o1
  obtain ⟨m3, o3⟩ := o3
  obtain ⟨m4, o4⟩ := o4
  have hs : ∀ (m : Nat) (s : ByteArray), Sx.Opens Tryd.prog w m 9 (Value.cells (.string s)).toList → s.size ≤ maxLen := fun m s h => Sx.opens_string Tryd.underlying9 h
  refine Calls.mono (Sx.proofDummies_c w s0 s1 n2 s3 s4 (hs _ _ o0) (hs _ _ o1) (hs _ _ o3) (hs _ _ o4) h2t h1t h0t) ?_
  rintro e w' ⟨v, rfl, Fs, ⟨rfl, rfl⟩, hc, _⟩
  refine ⟨rfl, Sx.below_of ?_⟩
  rw [Sx.Un.nil] at hc
  exact hc

set_option maxRecDepth 100000 in
theorem lifted (os : Os) (started : os.Started) (H : Type) (enc : TypeId × Value → H) :
    ReturnsInHanded {} Tryd.checked os 3 .any (fun w args => (Rows.proofDummiesSpec.pre enc Tryd.prog Tryd.f3 [] false w args ∧ laidMetH Tryd.prog lst w) ∧ sizedMet enc Tryd.prog Tryd.f3 (OpenSpec.ofChange Rows.proofDummiesSpec) false w args)
      (Rows.proofDummiesSpec.post enc Tryd.prog Tryd.f3 false true false false) := by
  refine returnsInHanded_of_change_and (C := Tryd.checked) (X := fun w _ => laidMetH Tryd.prog lst w) (fun _ _ _ hh h => h.of_heap hh) own started (by kernel_rfl) Tryd.func3
    (ChangeSpec.witness_shaped (enc := enc) (C := Tryd.checked) (os := os) (X := fun w _ => laidMetH Tryd.prog lst w) false (World.doorLaid Tryd.prog 68 os) #[.string ByteArray.empty, .string ByteArray.empty, .int .i64 0, .string ByteArray.empty, .string ByteArray.empty] 8 rfl (World.shaped_of_RefB (by kernel_rfl) (by kernel_rfl)) (by kernel_rfl) (by kernel_rfl) (by kernel_rfl) (door_met os _)) ?_
  intro W base args ds gs before hval0 hW _ _ hL _
  have hval : ∀ (j : Nat) t v, Tryd.f3.params[j]? = some t → args[j]? = some v → Value.okWide Tryd.prog W .any base t v := hval0
  have hW' := hW
  obtain ⟨p, q, hA0, hV, rfl, hfz, hnd⟩ := hW
  have hA : DataW.TrodAll enc Tryd.prog W 0 (fun _ => true) true Tryd.f3.params.toList args.toList ds p := hA0
  rw [Tryd.params3] at hA hval
  obtain ⟨v0, vs0, d0, ds0, p0, q0, hargs, rfl, rfl, h0, r0⟩ := trodAll_cons hA
  obtain ⟨v1, vs1, d1, ds1, p1, q1, rfl, rfl, rfl, h1, r1⟩ := trodAll_cons r0
  obtain ⟨v2, vs2, d2, ds2, p2, q2, rfl, rfl, rfl, h2, r2⟩ := trodAll_cons r1
  obtain ⟨v3, vs3, d3, ds3, p3, q3, rfl, rfl, rfl, h3, r3⟩ := trodAll_cons r2
  obtain ⟨v4, vs4, d4, ds4, p4, q4, rfl, rfl, rfl, h4, r4⟩ := trodAll_cons r3
  obtain ⟨rfl, rfl, rfl⟩ := trodAll_nil r4
  obtain rfl : args = #[v0, v1, v2, v3, v4] := by cases args; simp_all
  obtain ⟨rfl, rfl⟩ := trodVars_none hV
  obtain ⟨s0, rfl⟩ := okWide_string Tryd.underlying9 (hval 0 9 v0 rfl rfl)
  have k0 := h0
  have lt0 : ∀ x ∈ p0, x.block < W.heap.size := by obtain ⟨m, hm⟩ := k0; exact DataW.trod_lt m _ _ _ hm
  have o0 : ∃ m, Sx.Opens Tryd.prog W m 9 (Value.cells (.string s0)).toList := by obtain ⟨m, hm⟩ := k0; exact ⟨m, Sx.opens_of m _ _ _ hm⟩
  obtain ⟨s1, rfl⟩ := okWide_string Tryd.underlying9 (hval 1 9 v1 rfl rfl)
  have k1 := h1
  have lt1 : ∀ x ∈ p1, x.block < W.heap.size := by obtain ⟨m, hm⟩ := k1; exact DataW.trod_lt m _ _ _ hm
  have o1 : ∃ m, Sx.Opens Tryd.prog W m 9 (Value.cells (.string s1)).toList := by obtain ⟨m, hm⟩ := k1; exact ⟨m, Sx.opens_of m _ _ _ hm⟩
  obtain ⟨n2, rfl⟩ := okWide_int Tryd.underlying3 (hval 2 3 v2 rfl rfl)
  have k2 := h2
  have lt2 : ∀ x ∈ p2, x.block < W.heap.size := by obtain ⟨m, hm⟩ := k2; exact DataW.trod_lt m _ _ _ hm
  have o2 : ∃ m, Sx.Opens Tryd.prog W m 3 (Value.cells (.int .i64 n2)).toList := by obtain ⟨m, hm⟩ := k2; exact ⟨m, Sx.opens_of m _ _ _ hm⟩
  obtain ⟨s3, rfl⟩ := okWide_string Tryd.underlying9 (hval 3 9 v3 rfl rfl)
  have k3 := h3
  have lt3 : ∀ x ∈ p3, x.block < W.heap.size := by obtain ⟨m, hm⟩ := k3; exact DataW.trod_lt m _ _ _ hm
  have o3 : ∃ m, Sx.Opens Tryd.prog W m 9 (Value.cells (.string s3)).toList := by obtain ⟨m, hm⟩ := k3; exact ⟨m, Sx.opens_of m _ _ _ hm⟩
  obtain ⟨s4, rfl⟩ := okWide_string Tryd.underlying9 (hval 4 9 v4 rfl rfl)
  have k4 := h4
  have lt4 : ∀ x ∈ p4, x.block < W.heap.size := by obtain ⟨m, hm⟩ := k4; exact DataW.trod_lt m _ _ _ hm
  have o4 : ∃ m, Sx.Opens Tryd.prog W m 9 (Value.cells (.string s4)).toList := by obtain ⟨m, hm⟩ := k4; exact ⟨m, Sx.opens_of m _ _ _ hm⟩
  obtain ⟨l0t, l1t, l2t⟩ := of_laid hL
  clear hA0 hval0
  refine (walk s0 s1 n2 s3 s4 W o0 o1 o2 o3 o4 l0t l1t l2t).mono fun e W' ⟨he, bel⟩ => ?_
  subst he
  exact ⟨_, rfl, _, _, _, [], _, [], hW', trodAll_mk1 (shut_bool Tryd.underlying4 _), (trodAll_cons_mk (Below.trod laidOut (by kernel_rfl) (of_decide_eq_true (by kernel_rfl)) k0 bel lt0) (trodAll_cons_mk (Below.trod laidOut (by kernel_rfl) (of_decide_eq_true (by kernel_rfl)) k1 bel lt1) (trodAll_cons_mk (Below.trod laidOut (by kernel_rfl) (of_decide_eq_true (by kernel_rfl)) k2 bel lt2) (trodAll_cons_mk (Below.trod laidOut (by kernel_rfl) (of_decide_eq_true (by kernel_rfl)) k3 bel lt3) (trodAll_cons_mk (Below.trod laidOut (by kernel_rfl) (of_decide_eq_true (by kernel_rfl)) k4 bel lt4) trodAll_mk0))))), rfl, bel.frame _, fun h => by cases h⟩

theorem over : Rows.ProofDummiesSaid :=
  OpenClaim.holds_of_wide 3 Tryd.f3 rfl rfl rfl rfl rfl rfl rfl ⟨rfl, rfl, rfl, rfl, rfl⟩ rfl rfl rfl rfl rfl (by kernel_rfl) Tryd.func3 (by kernel_rfl)
    (of_decide_eq_true (by kernel_rfl)) (by unfold Func.isWrapper; first | (rw [if_pos (by decide +kernel)]; kernel_rfl) | (rw [if_neg (by decide +kernel)]; exact ⟨rfl, rfl⟩))
    (fun os started H enc _ => lifted os started H enc)

theorem proved : Rows.ProofDummiesCardSaid :=
  Claim7.holds_tied_plain_at .later [] [.data, .data, .data] true (true, "1187f747fc85e569e7ee7433a2f9bbd829d9b306e403f363464eb034f74ecf3f") false
    over (fun _ h => by cases h) (by kernel_rfl) (fun _ h => by cases h) proofDummies_row_tie rfl ⟨rfl, rfl⟩ (by kernel_rfl) rfl
    (fun f fn hf hfn => by
      obtain rfl : f = 3 := Option.some.inj ((show Tryd.prog.funcNamed "ostiary/ostiarylaw19.ProofDummies" = some 3 by kernel_rfl).symm.trans hf) |>.symm
      obtain rfl : fn = Tryd.f3 := (Option.some.inj (Tryd.func3.symm.trans hfn)).symm
      exact ⟨by kernel_rfl, fun j t ht => by
        rw [Tryd.params3] at ht
        have hm : t ∈ [9, 9, 3, 9, 9] := by simpa using Array.mem_of_getElem? ht
        have hall : ([9, 9, 3, 9, 9].all fun u => !Tryd.prog.wantsStandIn u) = true := by kernel_rfl
        exact (show Tryd.prog.wantsStandIn t = false by simpa using List.all_eq_true.1 hall t hm)⟩)
    (by kernel_rfl)
#print axioms proved
end Go.Proofs.YthkjfepbmnabkaaDoor.proofDummies
