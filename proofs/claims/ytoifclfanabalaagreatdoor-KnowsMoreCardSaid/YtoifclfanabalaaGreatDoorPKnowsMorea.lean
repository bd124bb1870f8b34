/- Who has seen more can make more, and what was seen of the box's handles can be made; whose secrets are fewer, too. -/
import Derived.Test.YtoifclfanabalaaGreatDoorMKnowsMore6
import Derived.Test.YtoifclfanabalaaGreatDoorMKnowsMore2
import Derived.Test.YtoifclfanabalaaGreatDoorRows
import Derived.Test.YtoifclfanabalaaGreatDoorCards
import Derived.Test.YtoifclfanabalaaGreatDoorTie
import Derived.WalkKit
import Derived.ProofKit
import Derived.OpenShut
import Derived.ShutString
import Derived.ChangeOld
import Derived.Below
import Derived.LaidMore
import Derived.Stop.Joined
import Derived.SevenTiedAt
namespace Go.Proofs.YtoifclfanabalaaGreatDoor.knowsMore
open Go.ChangeShapes Go.WideShapes Go.ChangeAt Go.RowKit
set_option linter.unusedVariables false

theorem own : ownKnob Tryz.prog.godebug = none := by kernel_rfl
theorem laidOut : laidOutB Tryz.prog = true := by kernel_rfl
abbrev lst : List (String × DataW Unit) := [("ostiary/ostiaryref01.words", Rows.laid_ostiary_ostiaryref01_words), ("ostiary/sha.first", Rows.laid_ostiary_sha_first), ("ostiary/sha.odd", Rows.laid_ostiary_sha_odd)]

theorem door_met (os : Os) (args : Array Value) : laidMetH Tryz.prog lst ((World.doorLaid Tryz.prog 24 os).forCall (fun _ _ => 0) ⟨#[], args, []⟩).memory :=
  laidMetH_of_parts3 (fuel := 8) (laidMet_of_run' 8 (by kernel_rfl) (by kernel_rfl)) (by kernel_rfl) (by kernel_rfl)
/-- What the tables are. -/
theorem of_laid {W : World} (h : laidMetH Tryz.prog lst W) : (Sx.oddF 3).p W ∧ (Sx.firstF 0).p W ∧ (Sx.oddF 2).p W := by
  rw [MakeChecks.laidMetH_plain _ _ _ (by kernel_rfl)] at h
  obtain ⟨ps, ⟨g0, t0, cs0, f0, p0, q0, hg0, ht0, hv0, hd0, ⟨g1, t1, cs1, f1, p1, q1, hg1, ht1, hv1, hd1, ⟨g2, t2, cs2, f2, p2, q2, hg2, ht2, hv2, hd2, _, _⟩, _⟩, _⟩, _, _⟩ := h
  obtain rfl := Option.some.inj ((show Tryz.prog.globalNamed "ostiary/ostiaryref01.words" = some 3 by kernel_rfl).symm.trans hg0)
  obtain rfl := Option.some.inj ((show (Tryz.prog.globals[3]?).map (·.type) = some 182 by kernel_rfl).symm.trans ht0)
  have hc0 : ∀ i, W.cell? ⟨3, i, none⟩ = cs0[i]? := fun i => World.var?_cell hg0 hv0 i
  obtain rfl := Option.some.inj ((show Tryz.prog.globalNamed "ostiary/sha.first" = some 0 by kernel_rfl).symm.trans hg1)
  obtain rfl := Option.some.inj ((show (Tryz.prog.globals[0]?).map (·.type) = some 144 by kernel_rfl).symm.trans ht1)
  have hc1 : ∀ i, W.cell? ⟨0, i, none⟩ = cs1[i]? := fun i => World.var?_cell hg1 hv1 i
  obtain rfl := Option.some.inj ((show Tryz.prog.globalNamed "ostiary/sha.odd" = some 2 by kernel_rfl).symm.trans hg2)
  obtain rfl := Option.some.inj ((show (Tryz.prog.globals[2]?).map (·.type) = some 182 by kernel_rfl).symm.trans ht2)
  have hc2 : ∀ i, W.cell? ⟨2, i, none⟩ = cs2[i]? := fun i => World.var?_cell hg2 hv2 i
  have e0 : (Rows.laid_ostiary_ostiaryref01_words : DataW Unit) = .agg ((Sx.u32s Sha.K).map fun z => .lit (.int .u32 z)) := by kernel_rfl
  rw [e0] at hd0
  have e1 : (Rows.laid_ostiary_sha_first : DataW Unit) = .agg ((Sx.u32s Sha.first.l).map fun z => .lit (.int .u32 z)) := by kernel_rfl
  rw [e1] at hd1
  have e2 : (Rows.laid_ostiary_sha_odd : DataW Unit) = .agg ((Sx.u32s Sha.K).map fun z => .lit (.int .u32 z)) := by kernel_rfl
  rw [e2] at hd2
  exact ⟨Sx.rd_u32 (l := Sha.K) (Sx.rd_of_ints (P := Tryz.prog) (k := .u32) (n := 64) (e := 41) (zs := Sx.u32s Sha.K) (by kernel_rfl) (by kernel_rfl) (by kernel_rfl) hd0 hc0), Sx.rd_u32 (l := Sha.first.l) (Sx.rd_of_ints (P := Tryz.prog) (k := .u32) (n := 8) (e := 41) (zs := Sx.u32s Sha.first.l) (by kernel_rfl) (by kernel_rfl) (by kernel_rfl) hd1 hc1), Sx.rd_u32 (l := Sha.K) (Sx.rd_of_ints (P := Tryz.prog) (k := .u32) (n := 64) (e := 41) (zs := Sx.u32s Sha.K) (by kernel_rfl) (by kernel_rfl) (by kernel_rfl) hd2 hc2)⟩
theorem walk (a0 : Option Addr) (len0 cap0 : Nat) (a1 : Option Addr) (len1 cap1 : Nat) (a2 : Option Addr) (len2 cap2 : Nat) (a3 : Option Addr) (len3 cap3 : Nat) (w : World) (o0 : ∃ m, Sx.Opens Tryz.prog w m 63 (Value.cells (.slice a0 len0 cap0)).toList) (o1 : ∃ m, Sx.Opens Tryz.prog w m 23 (Value.cells (.slice a1 len1 cap1)).toList) (o2 : ∃ m, Sx.Opens Tryz.prog w m 23 (Value.cells (.slice a2 len2 cap2)).toList) (o3 : ∃ m, Sx.Opens Tryz.prog w m 22 (Value.cells (.slice a3 len3 cap3)).toList) (h0t : (Sx.oddF 3).p w) (h1t : (Sx.firstF 0).p w) (h2t : (Sx.oddF 2).p w) (hmlt : Sx.mlF.p w) :
    Calls Tryz.prog 6 #[.slice a0 len0 cap0, .slice a1 len1 cap1, .slice a2 len2 cap2, .slice a3 len3 cap3] w fun e w' => e = .returned (.bool true) ∧ Below w.heap.size w w' := by
  obtain ⟨m0, o0⟩ := o0
  obtain ⟨m1, o1⟩ := o1
  obtain ⟨m2, o2⟩ := o2
  obtain ⟨m3, o3⟩ := o3
  have c5 : Tryz.prog.cellsOf 5 = 1 := by kernel_rfl
  have c6 : Tryz.prog.cellsOf 22 = 1 := by kernel_rfl
  obtain ⟨ops, hol, hA, hin, hn⟩ := Sx.scriptK_of o0
  subst hol
  obtain ⟨A1, ps, q1, hp1, hpn, hpq, hpr⟩ := o1.parts (Sx.ok23.real (d := .slice 22) rfl rfl) (Sx.ok22.real (d := .slice 5) rfl rfl) (Sx.ok5.real (d := .int .u8) rfl rfl) c5 c6
  simp only [Value.cells, List.cons.injEq, and_true] at hp1
  injection hp1 with e1 e2 e3
  subst e1 e2 e3
  obtain ⟨A2, ss, q2, hp2, hsn, hsq, hsr⟩ := o2.parts (Sx.ok23.real (d := .slice 22) rfl rfl) (Sx.ok22.real (d := .slice 5) rfl rfl) (Sx.ok5.real (d := .int .u8) rfl rfl) c5 c6
  simp only [Value.cells, List.cons.injEq, and_true] at hp2
  injection hp2 with e1 e2 e3
  subst e1 e2 e3
  obtain ⟨A3, p3, q3, hp3, hpc3, _, hr3⟩ := o3.bytes (Sx.ok22.real (d := .slice 5) rfl rfl) (Sx.ok5.real (d := .int .u8) rfl rfl) c5
  simp only [Value.cells, List.cons.injEq, and_true] at hp3
  injection hp3 with e1 e2 e3
  subst e1 e2 e3
  rw [Sx.maxLen_eq] at hn hpn hsn
  refine Calls.mono (Sx.knowsMore_c w a0 a1 a2 a3 cap0 cap1 cap2 cap3 ops ps ss p3 hA hin hn hpr hpn hpq hsr hsn hsq hr3 hpc3 hmlt (Sx.ml_ok hmlt).2.2 h2t h1t h0t) ?_
  rintro e w' ⟨v, rfl, Fs, ⟨rfl, rfl⟩, hc, _⟩
  refine ⟨rfl, Sx.below_of ?_⟩
  rw [Sx.Un.nil] at hc
  exact hc

set_option maxRecDepth 100000 in
theorem lifted (os : Os) (started : os.Started) (H : Type) (enc : TypeId × Value → H) :
    ReturnsInHanded {} Tryz.checked os 6 .any (fun w args => (Rows.knowsMoreSpec.pre enc Tryz.prog Tryz.f6 [] false w args ∧ laidMetH Tryz.prog lst w) ∧ sizedMet enc Tryz.prog Tryz.f6 (OpenSpec.ofChange Rows.knowsMoreSpec) false w args)
      (Rows.knowsMoreSpec.post enc Tryz.prog Tryz.f6 false true false false) := by
  refine Sx.handed_shaped (C := Tryz.checked) (X := fun w _ => laidMetH Tryz.prog lst w) (fun _ _ _ hh h => h.of_heap hh) own started (by kernel_rfl) Tryz.func6
    (ChangeSpec.witness_shaped (enc := enc) (C := Tryz.checked) (os := os) (X := fun w _ => laidMetH Tryz.prog lst w) false (World.doorLaid Tryz.prog 24 os) #[.slice none 0 0, .slice none 0 0, .slice none 0 0, .slice none 0 0] 8 rfl (World.shaped_of_RefB (by kernel_rfl) (by kernel_rfl)) (by kernel_rfl) (by kernel_rfl) (by kernel_rfl) (door_met os _)) ?_
  intro W base args ds gs before hval0 hW hL hsh
  have hval : ∀ (j : Nat) t v, Tryz.f6.params[j]? = some t → args[j]? = some v → Value.okWide Tryz.prog W .any base t v := hval0
  have hW' := hW
  obtain ⟨p, q, hA0, hV, rfl, hfz, hnd⟩ := hW
  have hA : DataW.TrodAll enc Tryz.prog W 0 (fun _ => true) true Tryz.f6.params.toList args.toList ds p := hA0
  rw [Tryz.params6] at hA hval
  obtain ⟨v0, vs0, d0, ds0, p0, q0, hargs, rfl, rfl, h0, r0⟩ := trodAll_cons hA
  obtain ⟨v1, vs1, d1, ds1, p1, q1, rfl, rfl, rfl, h1, r1⟩ := trodAll_cons r0
  obtain ⟨v2, vs2, d2, ds2, p2, q2, rfl, rfl, rfl, h2, r2⟩ := trodAll_cons r1
  obtain ⟨v3, vs3, d3, ds3, p3, q3, rfl, rfl, rfl, h3, r3⟩ := trodAll_cons r2
  obtain ⟨rfl, rfl, rfl⟩ := trodAll_nil r3
  obtain rfl : args = #[v0, v1, v2, v3] := by cases args; simp_all
  obtain ⟨rfl, rfl⟩ := trodVars_none hV
  obtain ⟨a0, len0, cap0, rfl⟩ := okWide_slice Tryz.underlying63 (hval 0 63 v0 rfl rfl)
  have k0 := h0
  have lt0 : ∀ x ∈ p0, x.block < W.heap.size := by obtain ⟨m, hm⟩ := k0; exact DataW.trod_lt m _ _ _ hm
  have o0 : ∃ m, Sx.Opens Tryz.prog W m 63 (Value.cells (.slice a0 len0 cap0)).toList := by obtain ⟨m, hm⟩ := k0; exact ⟨m, Sx.opens_of m _ _ _ hm⟩
  obtain ⟨a1, len1, cap1, rfl⟩ := okWide_slice Tryz.underlying23 (hval 1 23 v1 rfl rfl)
  have k1 := h1
  have lt1 : ∀ x ∈ p1, x.block < W.heap.size := by obtain ⟨m, hm⟩ := k1; exact DataW.trod_lt m _ _ _ hm
  have o1 : ∃ m, Sx.Opens Tryz.prog W m 23 (Value.cells (.slice a1 len1 cap1)).toList := by obtain ⟨m, hm⟩ := k1; exact ⟨m, Sx.opens_of m _ _ _ hm⟩
  obtain ⟨a2, len2, cap2, rfl⟩ := okWide_slice Tryz.underlying23 (hval 2 23 v2 rfl rfl)
  have k2 := h2
  have lt2 : ∀ x ∈ p2, x.block < W.heap.size := by obtain ⟨m, hm⟩ := k2; exact DataW.trod_lt m _ _ _ hm
  have o2 : ∃ m, Sx.Opens Tryz.prog W m 23 (Value.cells (.slice a2 len2 cap2)).toList := by obtain ⟨m, hm⟩ := k2; exact ⟨m, Sx.opens_of m _ _ _ hm⟩
  obtain ⟨a3, len3, cap3, rfl⟩ := okWide_slice Tryz.underlying22 (hval 3 22 v3 rfl rfl)
  have k3 := h3
  have lt3 : ∀ x ∈ p3, x.block < W.heap.size := by obtain ⟨m, hm⟩ := k3; exact DataW.trod_lt m _ _ _ hm
  have o3 : ∃ m, Sx.Opens Tryz.prog W m 22 (Value.cells (.slice a3 len3 cap3)).toList := by obtain ⟨m, hm⟩ := k3; exact ⟨m, Sx.opens_of m _ _ _ hm⟩
  obtain ⟨l0t, l1t, l2t⟩ := of_laid hL
  clear hA0 hval0
  have lml := Sx.ml_of hsh
  refine (walk a0 len0 cap0 a1 len1 cap1 a2 len2 cap2 a3 len3 cap3 W o0 o1 o2 o3 l0t l1t l2t lml).mono fun e W' ⟨he, bel⟩ => ?_
  subst he
  exact ⟨_, rfl, _, _, _, [], _, [], hW', trodAll_mk1 (shut_bool Tryz.underlying4 _), (trodAll_cons_mk (Below.trod laidOut (by kernel_rfl) (of_decide_eq_true (by kernel_rfl)) k0 bel lt0) (trodAll_cons_mk (Below.trod laidOut (by kernel_rfl) (of_decide_eq_true (by kernel_rfl)) k1 bel lt1) (trodAll_cons_mk (Below.trod laidOut (by kernel_rfl) (of_decide_eq_true (by kernel_rfl)) k2 bel lt2) (trodAll_cons_mk (Below.trod laidOut (by kernel_rfl) (of_decide_eq_true (by kernel_rfl)) k3 bel lt3) trodAll_mk0)))), rfl, bel.frame _, fun h => by cases h⟩

end Go.Proofs.YtoifclfanabalaaGreatDoor.knowsMore
