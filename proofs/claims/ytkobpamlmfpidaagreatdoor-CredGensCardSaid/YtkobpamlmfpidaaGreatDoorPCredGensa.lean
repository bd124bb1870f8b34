/- No generation comes twice, whoever goes and comes again; of a credential that was touched no elder generation is current. -/
import Derived.Test.YtkobpamlmfpidaaGreatDoorMCredGens3
import Derived.Test.YtkobpamlmfpidaaGreatDoorMCredGens5
import Derived.Test.YtkobpamlmfpidaaGreatDoorMCredGens2
import Derived.Test.YtkobpamlmfpidaaGreatDoorRows
import Derived.Test.YtkobpamlmfpidaaGreatDoorCards
import Derived.Test.YtkobpamlmfpidaaGreatDoorTie
import Derived.WalkKit
import Derived.ProofKit
import Derived.OpenShut
import Derived.ShutString
import Derived.ChangeOld
import Derived.Below
import Derived.LaidMore
import Derived.Stop.Joined
import Derived.SevenTiedAt
namespace Go.Proofs.YtkobpamlmfpidaaGreatDoor.credGens
open Go.ChangeShapes Go.WideShapes Go.ChangeAt Go.RowKit
set_option linter.unusedVariables false

theorem own : ownKnob Tryz.prog.godebug = none := by kernel_rfl
theorem laidOut : laidOutB Tryz.prog = true := by kernel_rfl
abbrev lst : List (String × DataW Unit) := [("ostiary/name.blanks", Rows.laid_ostiary_name_blanks), ("ostiary/name.nothing", Rows.laid_ostiary_name_nothing), ("ostiary/name.barred", Rows.laid_ostiary_name_barred), ("ostiary/name.forms", Rows.laid_ostiary_name_forms)]

theorem door_met (os : Os) (args : Array Value) : laidMetH Tryz.prog lst ((World.doorLaid Tryz.prog 53 os).forCall (fun _ _ => 0) ⟨#[], args, []⟩).memory :=
  laidMetH_of_parts3 (fuel := 8) (laidMet_of_run' 8 (by kernel_rfl) (by kernel_rfl)) (by kernel_rfl) (by kernel_rfl)
/-- What the tables are. -/
theorem of_laid {W : World} (h : laidMetH Tryz.prog lst W) : (Sx.spansF 1 Sx.blanksL).p W ∧ (Sx.spansF 2 Sx.nothingL).p W ∧ (Sx.spansF 0 Sx.barredL).p W ∧ Sx.Forms 3 W := by
  rw [MakeChecks.laidMetH_plain _ _ _ (by kernel_rfl)] at h
  obtain ⟨ps, ⟨g0, t0, cs0, f0, p0, q0, hg0, ht0, hv0, hd0, ⟨g1, t1, cs1, f1, p1, q1, hg1, ht1, hv1, hd1, ⟨g2, t2, cs2, f2, p2, q2, hg2, ht2, hv2, hd2, ⟨g3, t3, cs3, f3, p3, q3, hg3, ht3, hv3, hd3, _, _⟩, _⟩, _⟩, _⟩, _, _⟩ := h
  obtain rfl := Option.some.inj ((show Tryz.prog.globalNamed "ostiary/name.blanks" = some 1 by kernel_rfl).symm.trans hg0)
  obtain rfl := Option.some.inj ((show (Tryz.prog.globals[1]?).map (·.type) = some 167 by kernel_rfl).symm.trans ht0)
  have hc0 : ∀ i, W.cell? ⟨1, i, none⟩ = cs0[i]? := fun i => World.var?_cell hg0 hv0 i
  obtain rfl := Option.some.inj ((show Tryz.prog.globalNamed "ostiary/name.nothing" = some 2 by kernel_rfl).symm.trans hg1)
  obtain rfl := Option.some.inj ((show (Tryz.prog.globals[2]?).map (·.type) = some 168 by kernel_rfl).symm.trans ht1)
  have hc1 : ∀ i, W.cell? ⟨2, i, none⟩ = cs1[i]? := fun i => World.var?_cell hg1 hv1 i
  obtain rfl := Option.some.inj ((show Tryz.prog.globalNamed "ostiary/name.barred" = some 0 by kernel_rfl).symm.trans hg2)
  obtain rfl := Option.some.inj ((show (Tryz.prog.globals[0]?).map (·.type) = some 149 by kernel_rfl).symm.trans ht2)
  have hc2 : ∀ i, W.cell? ⟨0, i, none⟩ = cs2[i]? := fun i => World.var?_cell hg2 hv2 i
  obtain rfl := Option.some.inj ((show Tryz.prog.globalNamed "ostiary/name.forms" = some 3 by kernel_rfl).symm.trans hg3)
  obtain rfl := Option.some.inj ((show (Tryz.prog.globals[3]?).map (·.type) = some 171 by kernel_rfl).symm.trans ht3)
  have hc3 : ∀ i, W.cell? ⟨3, i, none⟩ = cs3[i]? := fun i => World.var?_cell hg3 hv3 i
  exact ⟨Sx.rd_of_laid (P := Tryz.prog) (d := (Rows.laid_ostiary_name_blanks : DataW Unit)) (vs := Sx.blanksL.flatMap Sx.spanV) (by kernel_rfl) (by kernel_rfl) (by kernel_rfl) hd0 hc0, Sx.rd_of_laid (P := Tryz.prog) (d := (Rows.laid_ostiary_name_nothing : DataW Unit)) (vs := Sx.nothingL.flatMap Sx.spanV) (by kernel_rfl) (by kernel_rfl) (by kernel_rfl) hd1 hc1, Sx.rd_of_laid (P := Tryz.prog) (d := (Rows.laid_ostiary_name_barred : DataW Unit)) (vs := Sx.barredL.flatMap Sx.spanV) (by kernel_rfl) (by kernel_rfl) (by kernel_rfl) hd2 hc2, Sx.rd_of_laid (P := Tryz.prog) (d := (Rows.laid_ostiary_name_forms : DataW Unit)) (vs := Sx.formCells) (by kernel_rfl) (by kernel_rfl) (by kernel_rfl) hd3 hc3⟩
theorem walk (a0 : Option Addr) (len0 cap0 : Nat) (w : World) (o0 : ∃ m, Sx.Opens Tryz.prog w m 22 (Value.cells (.slice a0 len0 cap0)).toList) (h0t : (Sx.spansF 1 Sx.blanksL).p w) (h1t : (Sx.spansF 2 Sx.nothingL).p w) (h2t : (Sx.spansF 0 Sx.barredL).p w) (h3t : Sx.Forms 3 w) :
    Calls Tryz.prog 3 #[.slice a0 len0 cap0] w fun e w' => e = .returned (.bool true) ∧ Below w.heap.size w w' := by
  obtain ⟨m0, o0⟩ := o0
  obtain ⟨ops, hol, hA, hin, hn⟩ := Sx.scriptC_of o0
  subst hol
  refine Calls.mono (Sx.credGens_c w a0 ops cap0 hA hin (by rw [Sx.maxLen_eq] at hn; exact hn) (Sx.mem_ro (Sx.ro_cons (Sx.nam_ok h3t h0t h1t h2t) Sx.ro_nil))) ?_
  rintro e w' ⟨v, rfl, Fs, ⟨rfl, rfl⟩, hc, _⟩
  refine ⟨rfl, Sx.below_of ?_⟩
  rw [Sx.Un.nil] at hc
  exact hc

set_option maxRecDepth 100000 in
theorem lifted (os : Os) (started : os.Started) (H : Type) (enc : TypeId × Value → H) :
    ReturnsInHanded {} Tryz.checked os 3 .any (fun w args => (Rows.credGensSpec.pre enc Tryz.prog Tryz.f3 [] false w args ∧ laidMetH Tryz.prog lst w) ∧ sizedMet enc Tryz.prog Tryz.f3 (OpenSpec.ofChange Rows.credGensSpec) false w args)
      (Rows.credGensSpec.post enc Tryz.prog Tryz.f3 false true false false) := by
  refine returnsInHanded_of_change_and (C := Tryz.checked) (X := fun w _ => laidMetH Tryz.prog lst w) (fun _ _ _ hh h => h.of_heap hh) own started (by kernel_rfl) Tryz.func3
    (ChangeSpec.witness_shaped (enc := enc) (C := Tryz.checked) (os := os) (X := fun w _ => laidMetH Tryz.prog lst w) false (World.doorLaid Tryz.prog 53 os) #[.slice none 0 0] 8 rfl (World.shaped_of_RefB (by kernel_rfl) (by kernel_rfl)) (by kernel_rfl) (by kernel_rfl) (by kernel_rfl) (door_met os _)) ?_
  intro W base args ds gs before hval0 hW _ _ hL _
  have hval : ∀ (j : Nat) t v, Tryz.f3.params[j]? = some t → args[j]? = some v → Value.okWide Tryz.prog W .any base t v := hval0
  have hW' := hW
  obtain ⟨p, q, hA0, hV, rfl, hfz, hnd⟩ := hW
  have hA : DataW.TrodAll enc Tryz.prog W 0 (fun _ => true) true Tryz.f3.params.toList args.toList ds p := hA0
  rw [Tryz.params3] at hA hval
  obtain ⟨v0, vs0, d0, ds0, p0, q0, hargs, rfl, rfl, h0, r0⟩ := trodAll_cons hA
  obtain ⟨rfl, rfl, rfl⟩ := trodAll_nil r0
  obtain rfl : args = #[v0] := by cases args; simp_all
  obtain ⟨rfl, rfl⟩ := trodVars_none hV
  obtain ⟨a0, len0, cap0, rfl⟩ := okWide_slice Tryz.underlying22 (hval 0 22 v0 rfl rfl)
  have k0 := h0
  have lt0 : ∀ x ∈ p0, x.block < W.heap.size := by obtain ⟨m, hm⟩ := k0; exact DataW.trod_lt m _ _ _ hm
  have o0 : ∃ m, Sx.Opens Tryz.prog W m 22 (Value.cells (.slice a0 len0 cap0)).toList := by obtain ⟨m, hm⟩ := k0; exact ⟨m, Sx.opens_of m _ _ _ hm⟩
  obtain ⟨l0t, l1t, l2t, l3t⟩ := of_laid hL
  clear hA0 hval0
  refine (walk a0 len0 cap0 W o0 l0t l1t l2t l3t).mono fun e W' ⟨he, bel⟩ => ?_
  subst he
  exact ⟨_, rfl, _, _, _, [], _, [], hW', trodAll_mk1 (shut_bool Tryz.underlying4 _), (trodAll_cons_mk (Below.trod laidOut (by kernel_rfl) (of_decide_eq_true (by kernel_rfl)) k0 bel lt0) trodAll_mk0), rfl, bel.frame _, fun h => by cases h⟩

end Go.Proofs.YtkobpamlmfpidaaGreatDoor.credGens
