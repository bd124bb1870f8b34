/- Every script of keys that come and go, of sums that are made and asked for, has the document's answers, by a plain box and a symbolic one; master and keys aren't kept; for every input, no condition. -/
import Derived.Test.YtjlpcjpeljlbeaaGreatDoorMRingPlays4
import Derived.Test.YtjlpcjpeljlbeaaGreatDoorMRingPlays2
import Derived.Test.YtjlpcjpeljlbeaaGreatDoorRows
import Derived.Test.YtjlpcjpeljlbeaaGreatDoorCards
import Derived.Test.YtjlpcjpeljlbeaaGreatDoorTie
import Derived.WalkKit
import Derived.ProofKit
import Derived.OpenShut
import Derived.ShutString
import Derived.ChangeOld
import Derived.Below
import Derived.LaidMore
import Derived.Stop.Joined
import Derived.SevenTiedAt
namespace Go.Proofs.YtjlpcjpeljlbeaaGreatDoor.ringPlays
open Go.ChangeShapes Go.WideShapes Go.ChangeAt Go.RowKit
set_option linter.unusedVariables false

theorem own : ownKnob Tryz.prog.godebug = none := by kernel_rfl
theorem laidOut : laidOutB Tryz.prog = true := by kernel_rfl
abbrev lst : List (String × DataW Unit) := [("math/bits.deBruijn32tab", Rows.laid_math_bits_deBruijn32tab), ("math/bits.deBruijn64tab", Rows.laid_math_bits_deBruijn64tab), ("internal/strconv.uint64pow10", Rows.laid_internal_strconv_uint64pow10), ("ostiary/ostiaryref01.words", Rows.laid_ostiary_ostiaryref01_words), ("ostiary/sha.first", Rows.laid_ostiary_sha_first), ("ostiary/sha.odd", Rows.laid_ostiary_sha_odd)]

theorem door_met (os : Os) (args : Array Value) : laidMetH Tryz.prog lst ((World.doorLaid Tryz.prog 83 os).forCall (fun _ _ => 0) ⟨#[], args, []⟩).memory :=
  laidMetH_of_parts3 (fuel := 8) (laidMet_of_run' 8 (by kernel_rfl) (by kernel_rfl)) (by kernel_rfl) (by kernel_rfl)
/-- What the tables are. -/
theorem of_laid {W : World} (h : laidMetH Tryz.prog lst W) : True ∧ True ∧ True ∧ (Sx.oddF 8).p W ∧ (Sx.firstF 0).p W ∧ (Sx.oddF 2).p W := by
  rw [MakeChecks.laidMetH_plain _ _ _ (by kernel_rfl)] at h
  obtain ⟨ps, ⟨g0, t0, cs0, f0, p0, q0, hg0, ht0, hv0, hd0, ⟨g1, t1, cs1, f1, p1, q1, hg1, ht1, hv1, hd1, ⟨g2, t2, cs2, f2, p2, q2, hg2, ht2, hv2, hd2, ⟨g3, t3, cs3, f3, p3, q3, hg3, ht3, hv3, hd3, ⟨g4, t4, cs4, f4, p4, q4, hg4, ht4, hv4, hd4, ⟨g5, t5, cs5, f5, p5, q5, hg5, ht5, hv5, hd5, _, _⟩, _⟩, _⟩, _⟩, _⟩, _⟩, _, _⟩ := h
  obtain rfl := Option.some.inj ((show Tryz.prog.globalNamed "math/bits.deBruijn32tab" = some 9 by kernel_rfl).symm.trans hg0)
  obtain rfl := Option.some.inj ((show (Tryz.prog.globals[9]?).map (·.type) = some 427 by kernel_rfl).symm.trans ht0)
  have hc0 : ∀ i, W.cell? ⟨9, i, none⟩ = cs0[i]? := fun i => World.var?_cell hg0 hv0 i
  obtain rfl := Option.some.inj ((show Tryz.prog.globalNamed "math/bits.deBruijn64tab" = some 10 by kernel_rfl).symm.trans hg1)
  obtain rfl := Option.some.inj ((show (Tryz.prog.globals[10]?).map (·.type) = some 428 by kernel_rfl).symm.trans ht1)
  have hc1 : ∀ i, W.cell? ⟨10, i, none⟩ = cs1[i]? := fun i => World.var?_cell hg1 hv1 i
  obtain rfl := Option.some.inj ((show Tryz.prog.globalNamed "internal/strconv.uint64pow10" = some 4 by kernel_rfl).symm.trans hg2)
  obtain rfl := Option.some.inj ((show (Tryz.prog.globals[4]?).map (·.type) = some 385 by kernel_rfl).symm.trans ht2)
  have hc2 : ∀ i, W.cell? ⟨4, i, none⟩ = cs2[i]? := fun i => World.var?_cell hg2 hv2 i
  obtain rfl := Option.some.inj ((show Tryz.prog.globalNamed "ostiary/ostiaryref01.words" = some 8 by kernel_rfl).symm.trans hg3)
  obtain rfl := Option.some.inj ((show (Tryz.prog.globals[8]?).map (·.type) = some 344 by kernel_rfl).symm.trans ht3)
  have hc3 : ∀ i, W.cell? ⟨8, i, none⟩ = cs3[i]? := fun i => World.var?_cell hg3 hv3 i
  obtain rfl := Option.some.inj ((show Tryz.prog.globalNamed "ostiary/sha.first" = some 0 by kernel_rfl).symm.trans hg4)
  obtain rfl := Option.some.inj ((show (Tryz.prog.globals[0]?).map (·.type) = some 289 by kernel_rfl).symm.trans ht4)
  have hc4 : ∀ i, W.cell? ⟨0, i, none⟩ = cs4[i]? := fun i => World.var?_cell hg4 hv4 i
  obtain rfl := Option.some.inj ((show Tryz.prog.globalNamed "ostiary/sha.odd" = some 2 by kernel_rfl).symm.trans hg5)
  obtain rfl := Option.some.inj ((show (Tryz.prog.globals[2]?).map (·.type) = some 344 by kernel_rfl).symm.trans ht5)
  have hc5 : ∀ i, W.cell? ⟨2, i, none⟩ = cs5[i]? := fun i => World.var?_cell hg5 hv5 i
  have e3 : (Rows.laid_ostiary_ostiaryref01_words : DataW Unit) = .agg ((Sx.u32s Sha.K).map fun z => .lit (.int .u32 z)) := by kernel_rfl
  rw [e3] at hd3
  have e4 : (Rows.laid_ostiary_sha_first : DataW Unit) = .agg ((Sx.u32s Sha.first.l).map fun z => .lit (.int .u32 z)) := by kernel_rfl
  rw [e4] at hd4
  have e5 : (Rows.laid_ostiary_sha_odd : DataW Unit) = .agg ((Sx.u32s Sha.K).map fun z => .lit (.int .u32 z)) := by kernel_rfl
  rw [e5] at hd5
  exact ⟨trivial, trivial, trivial, Sx.rd_u32 (l := Sha.K) (Sx.rd_of_ints (P := Tryz.prog) (k := .u32) (n := 64) (e := 99) (zs := Sx.u32s Sha.K) (by kernel_rfl) (by kernel_rfl) (by kernel_rfl) hd3 hc3), Sx.rd_u32 (l := Sha.first.l) (Sx.rd_of_ints (P := Tryz.prog) (k := .u32) (n := 8) (e := 99) (zs := Sx.u32s Sha.first.l) (by kernel_rfl) (by kernel_rfl) (by kernel_rfl) hd4 hc4), Sx.rd_u32 (l := Sha.K) (Sx.rd_of_ints (P := Tryz.prog) (k := .u32) (n := 64) (e := 99) (zs := Sx.u32s Sha.K) (by kernel_rfl) (by kernel_rfl) (by kernel_rfl) hd5 hc5)⟩
theorem walk (b0 : Bool) (a1 : Option Addr) (len1 cap1 : Nat) (n2 : Int) (a3 : Option Addr) (len3 cap3 : Nat) (w : World) (o0 : ∃ m, Sx.Opens Tryz.prog w m 4 (Value.cells (.bool b0)).toList) (o1 : ∃ m, Sx.Opens Tryz.prog w m 33 (Value.cells (.slice a1 len1 cap1)).toList) (o2 : ∃ m, Sx.Opens Tryz.prog w m 3 (Value.cells (.int .i64 n2)).toList) (o3 : ∃ m, Sx.Opens Tryz.prog w m 55 (Value.cells (.slice a3 len3 cap3)).toList) (h0t : True) (h1t : True) (h2t : True) (h3t : (Sx.oddF 8).p w) (h4t : (Sx.firstF 0).p w) (h5t : (Sx.oddF 2).p w) :
    Calls Tryz.prog 5 #[.bool b0, .slice a1 len1 cap1, .int .i64 n2, .slice a3 len3 cap3] w fun e w' => e = .returned (.bool true) ∧ Below w.heap.size w w' := by
  obtain ⟨m1, o1⟩ := o1
  obtain ⟨m3, o3⟩ := o3
  have c5 : Tryz.prog.cellsOf 5 = 1 := by kernel_rfl
  obtain ⟨A1, p, c1, hp0, hpc, _, hp⟩ := o1.bytes (Sx.ok33.real (d := .slice 5) rfl rfl) (Sx.ok5.real (d := .int .u8) rfl rfl) c5
  simp only [Value.cells, List.cons.injEq, and_true] at hp0
  injection hp0 with e1 e2 e3
  subst e1 e2 e3
  obtain ⟨ops, hol, hA, hin, hn⟩ := Sx.scriptR_of o3
  subst hol
  refine Calls.mono (Sx.ringPlays_c w b0 a1 p cap1 n2 a3 ops cap3 hpc hA hin (by rw [Sx.maxLen_eq] at hn; exact hn) hp h5t h4t h3t) ?_
  rintro e w' ⟨v, rfl, Fs, ⟨rfl, rfl⟩, hc, _⟩
  refine ⟨rfl, Sx.below_of ?_⟩
  rw [Sx.Un.nil] at hc
  exact hc

set_option maxRecDepth 100000 in
theorem lifted (os : Os) (started : os.Started) (H : Type) (enc : TypeId × Value → H) :
    ReturnsInHanded {} Tryz.checked os 5 .any (fun w args => (Rows.ringPlaysSpec.pre enc Tryz.prog Tryz.f5 [] false w args ∧ laidMetH Tryz.prog lst w) ∧ sizedMet enc Tryz.prog Tryz.f5 (OpenSpec.ofChange Rows.ringPlaysSpec) false w args)
      (Rows.ringPlaysSpec.post enc Tryz.prog Tryz.f5 false true false false) := by
  refine returnsInHanded_of_change_and (C := Tryz.checked) (X := fun w _ => laidMetH Tryz.prog lst w) (fun _ _ _ hh h => h.of_heap hh) own started (by kernel_rfl) Tryz.func5
    (ChangeSpec.witness_shaped (enc := enc) (C := Tryz.checked) (os := os) (X := fun w _ => laidMetH Tryz.prog lst w) false (World.doorLaid Tryz.prog 83 os) #[.bool false, .slice none 0 0, .int .i64 0, .slice none 0 0] 8 rfl (World.shaped_of_RefB (by kernel_rfl) (by kernel_rfl)) (by kernel_rfl) (by kernel_rfl) (by kernel_rfl) (door_met os _)) ?_
  intro W base args ds gs before hval0 hW _ _ hL _
  have hval : ∀ (j : Nat) t v, Tryz.f5.params[j]? = some t → args[j]? = some v → Value.okWide Tryz.prog W .any base t v := hval0
  have hW' := hW
  obtain ⟨p, q, hA0, hV, rfl, hfz, hnd⟩ := hW
  have hA : DataW.TrodAll enc Tryz.prog W 0 (fun _ => true) true Tryz.f5.params.toList args.toList ds p := hA0
  rw [Tryz.params5] at hA hval
  obtain ⟨v0, vs0, d0, ds0, p0, q0, hargs, rfl, rfl, h0, r0⟩ := trodAll_cons hA
  obtain ⟨v1, vs1, d1, ds1, p1, q1, rfl, rfl, rfl, h1, r1⟩ := trodAll_cons r0
  obtain ⟨v2, vs2, d2, ds2, p2, q2, rfl, rfl, rfl, h2, r2⟩ := trodAll_cons r1
  obtain ⟨v3, vs3, d3, ds3, p3, q3, rfl, rfl, rfl, h3, r3⟩ := trodAll_cons r2
  obtain ⟨rfl, rfl, rfl⟩ := trodAll_nil r3
  obtain rfl : args = #[v0, v1, v2, v3] := by cases args; simp_all
  obtain ⟨rfl, rfl⟩ := trodVars_none hV
  obtain ⟨b0, rfl⟩ := okWide_bool Tryz.underlying4 (hval 0 4 v0 rfl rfl)
  have k0 := h0
  have lt0 : ∀ x ∈ p0, x.block < W.heap.size := by obtain ⟨m, hm⟩ := k0; exact DataW.trod_lt m _ _ _ hm
  have o0 : ∃ m, Sx.Opens Tryz.prog W m 4 (Value.cells (.bool b0)).toList := by obtain ⟨m, hm⟩ := k0; exact ⟨m, Sx.opens_of m _ _ _ hm⟩
  obtain ⟨a1, len1, cap1, rfl⟩ := okWide_slice Tryz.underlying33 (hval 1 33 v1 rfl rfl)
  have k1 := h1
  have lt1 : ∀ x ∈ p1, x.block < W.heap.size := by obtain ⟨m, hm⟩ := k1; exact DataW.trod_lt m _ _ _ hm
  have o1 : ∃ m, Sx.Opens Tryz.prog W m 33 (Value.cells (.slice a1 len1 cap1)).toList := by obtain ⟨m, hm⟩ := k1; exact ⟨m, Sx.opens_of m _ _ _ hm⟩
  obtain ⟨n2, rfl⟩ := okWide_int Tryz.underlying3 (hval 2 3 v2 rfl rfl)
  have k2 := h2
  have lt2 : ∀ x ∈ p2, x.block < W.heap.size := by obtain ⟨m, hm⟩ := k2; exact DataW.trod_lt m _ _ _ hm
  have o2 : ∃ m, Sx.Opens Tryz.prog W m 3 (Value.cells (.int .i64 n2)).toList := by obtain ⟨m, hm⟩ := k2; exact ⟨m, Sx.opens_of m _ _ _ hm⟩
  obtain ⟨a3, len3, cap3, rfl⟩ := okWide_slice Tryz.underlying55 (hval 3 55 v3 rfl rfl)
  have k3 := h3
  have lt3 : ∀ x ∈ p3, x.block < W.heap.size := by obtain ⟨m, hm⟩ := k3; exact DataW.trod_lt m _ _ _ hm
  have o3 : ∃ m, Sx.Opens Tryz.prog W m 55 (Value.cells (.slice a3 len3 cap3)).toList := by obtain ⟨m, hm⟩ := k3; exact ⟨m, Sx.opens_of m _ _ _ hm⟩
  obtain ⟨l0t, l1t, l2t, l3t, l4t, l5t⟩ := of_laid hL
  clear hA0 hval0
  refine (walk b0 a1 len1 cap1 n2 a3 len3 cap3 W o0 o1 o2 o3 l0t l1t l2t l3t l4t l5t).mono fun e W' ⟨he, bel⟩ => ?_
  subst he
  exact ⟨_, rfl, _, _, _, [], _, [], hW', trodAll_mk1 (shut_bool Tryz.underlying4 _), (trodAll_cons_mk (Below.trod laidOut (by kernel_rfl) (of_decide_eq_true (by kernel_rfl)) k0 bel lt0) (trodAll_cons_mk (Below.trod laidOut (by kernel_rfl) (of_decide_eq_true (by kernel_rfl)) k1 bel lt1) (trodAll_cons_mk (Below.trod laidOut (by kernel_rfl) (of_decide_eq_true (by kernel_rfl)) k2 bel lt2) (trodAll_cons_mk (Below.trod laidOut (by kernel_rfl) (of_decide_eq_true (by kernel_rfl)) k3 bel lt3) trodAll_mk0)))), rfl, bel.frame _, fun h => by cases h⟩

end Go.Proofs.YtjlpcjpeljlbeaaGreatDoor.ringPlays
