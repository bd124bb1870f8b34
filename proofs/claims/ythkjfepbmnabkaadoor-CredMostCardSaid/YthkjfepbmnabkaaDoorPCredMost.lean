/- CredMost -/
import Derived.Test.YthkjfepbmnabkaaDoorMCredMost2
import Derived.Test.YthkjfepbmnabkaaDoorMCredMost3
import Derived.Test.YthkjfepbmnabkaaDoorRows
import Derived.Test.YthkjfepbmnabkaaDoorCards
import Derived.Test.YthkjfepbmnabkaaDoorTie
import Derived.WalkKit
import Derived.ProofKit
import Derived.OpenShut
import Derived.ShutString
import Derived.ChangeOld
import Derived.Below
import Derived.LaidMore
import Derived.Stop.Joined
import Derived.SevenTiedAt
namespace Go.Proofs.YthkjfepbmnabkaaDoor.credMost
open Go.ChangeShapes Go.WideShapes Go.ChangeAt Go.RowKit
set_option linter.unusedVariables false

theorem own : ownKnob Tryd.prog.godebug = none := by kernel_rfl
theorem laidOut : laidOutB Tryd.prog = true := by kernel_rfl
abbrev lst : List (String × DataW Unit) := [("ostiary/name.blanks", Rows.laid_ostiary_name_blanks), ("ostiary/name.nothing", Rows.laid_ostiary_name_nothing), ("ostiary/name.barred", Rows.laid_ostiary_name_barred), ("ostiary/name.forms", Rows.laid_ostiary_name_forms)]

theorem door_met (os : Os) (args : Array Value) : laidMetH Tryd.prog lst ((World.doorLaid Tryd.prog 68 os).forCall (fun _ _ => 0) ⟨#[], args, []⟩).memory :=
  laidMetH_of_parts3 (fuel := 8) (laidMet_of_run' 8 (by kernel_rfl) (by kernel_rfl)) (by kernel_rfl) (by kernel_rfl)
/-- What the tables are. -/
theorem of_laid {W : World} (h : laidMetH Tryd.prog lst W) : (Sx.spansF 5 Sx.blanksL).p W ∧ (Sx.spansF 6 Sx.nothingL).p W ∧ (Sx.spansF 4 Sx.barredL).p W ∧ Sx.Forms 7 W := by
  rw [MakeChecks.laidMetH_plain _ _ _ (by kernel_rfl)] at h
  obtain ⟨ps, ⟨g0, t0, cs0, f0, p0, q0, hg0, ht0, hv0, hd0, ⟨g1, t1, cs1, f1, p1, q1, hg1, ht1, hv1, hd1, ⟨g2, t2, cs2, f2, p2, q2, hg2, ht2, hv2, hd2, ⟨g3, t3, cs3, f3, p3, q3, hg3, ht3, hv3, hd3, _, _⟩, _⟩, _⟩, _⟩, _, _⟩ := h
  obtain rfl := Option.some.inj ((show Tryd.prog.globalNamed "ostiary/name.blanks" = some 5 by kernel_rfl).symm.trans hg0)
  obtain rfl := Option.some.inj ((show (Tryd.prog.globals[5]?).map (·.type) = some 202 by kernel_rfl).symm.trans ht0)
  have hc0 : ∀ i, W.cell? ⟨5, i, none⟩ = cs0[i]? := fun i => World.var?_cell hg0 hv0 i
  obtain rfl := Option.some.inj ((show Tryd.prog.globalNamed "ostiary/name.nothing" = some 6 by kernel_rfl).symm.trans hg1)
  obtain rfl := Option.some.inj ((show (Tryd.prog.globals[6]?).map (·.type) = some 203 by kernel_rfl).symm.trans ht1)
  have hc1 : ∀ i, W.cell? ⟨6, i, none⟩ = cs1[i]? := fun i => World.var?_cell hg1 hv1 i
  obtain rfl := Option.some.inj ((show Tryd.prog.globalNamed "ostiary/name.barred" = some 4 by kernel_rfl).symm.trans hg2)
  obtain rfl := Option.some.inj ((show (Tryd.prog.globals[4]?).map (·.type) = some 192 by kernel_rfl).symm.trans ht2)
  have hc2 : ∀ i, W.cell? ⟨4, i, none⟩ = cs2[i]? := fun i => World.var?_cell hg2 hv2 i
  obtain rfl := Option.some.inj ((show Tryd.prog.globalNamed "ostiary/name.forms" = some 7 by kernel_rfl).symm.trans hg3)
  obtain rfl := Option.some.inj ((show (Tryd.prog.globals[7]?).map (·.type) = some 206 by kernel_rfl).symm.trans ht3)
  have hc3 : ∀ i, W.cell? ⟨7, i, none⟩ = cs3[i]? := fun i => World.var?_cell hg3 hv3 i
  exact ⟨Sx.rd_of_laid (P := Tryd.prog) (d := (Rows.laid_ostiary_name_blanks : DataW Unit)) (vs := Sx.blanksL.flatMap Sx.spanV) (by kernel_rfl) (by kernel_rfl) (by kernel_rfl) hd0 hc0, Sx.rd_of_laid (P := Tryd.prog) (d := (Rows.laid_ostiary_name_nothing : DataW Unit)) (vs := Sx.nothingL.flatMap Sx.spanV) (by kernel_rfl) (by kernel_rfl) (by kernel_rfl) hd1 hc1, Sx.rd_of_laid (P := Tryd.prog) (d := (Rows.laid_ostiary_name_barred : DataW Unit)) (vs := Sx.barredL.flatMap Sx.spanV) (by kernel_rfl) (by kernel_rfl) (by kernel_rfl) hd2 hc2, Sx.rd_of_laid (P := Tryd.prog) (d := (Rows.laid_ostiary_name_forms : DataW Unit)) (vs := Sx.formCells) (by kernel_rfl) (by kernel_rfl) (by kernel_rfl) hd3 hc3⟩
theorem walk (n0 : Int) (w : World) (o0 : ∃ m, Sx.Opens Tryd.prog w m 5 (Value.cells (.int .u8 n0)).toList) (h0t : (Sx.spansF 5 Sx.blanksL).p w) (h1t : (Sx.spansF 6 Sx.nothingL).p w) (h2t : (Sx.spansF 4 Sx.barredL).p w) (h3t : Sx.Forms 7 w) :
    Calls Tryd.prog 6 #[.int .u8 n0] w fun e w' => e = .returned (.bool true) ∧ Below w.heap.size w w' := by
  obtain ⟨m0, o0⟩ := o0
  obtain ⟨k, hk⟩ := o0.u8 (Sx.ok5.real (d := .int .u8) rfl rfl)
  simp only [Value.cells, List.cons.injEq, and_true] at hk
  rw [hk]
  refine Calls.mono (Sx.credMost_c w k.toNat k.toNat_lt (Sx.mem_ro (Sx.ro_cons (Sx.nam_ok h3t h0t h1t h2t) Sx.ro_nil))) ?_
  rintro e w' ⟨v, rfl, Fs, ⟨rfl, rfl⟩, hc, _⟩
  refine ⟨rfl, Sx.below_of ?_⟩
  rw [Sx.Un.nil] at hc
  exact hc

set_option maxRecDepth 100000 in
theorem lifted (os : Os) (started : os.Started) (H : Type) (enc : TypeId × Value → H) :
    ReturnsInHanded {} Tryd.checked os 6 .any (fun w args => (Rows.credMostSpec.pre enc Tryd.prog Tryd.f6 [] false w args ∧ laidMetH Tryd.prog lst w) ∧ sizedMet enc Tryd.prog Tryd.f6 (OpenSpec.ofChange Rows.credMostSpec) false w args)
      (Rows.credMostSpec.post enc Tryd.prog Tryd.f6 false true false false) := by
  refine returnsInHanded_of_change_and (C := Tryd.checked) (X := fun w _ => laidMetH Tryd.prog lst w) (fun _ _ _ hh h => h.of_heap hh) own started (by kernel_rfl) Tryd.func6
    (ChangeSpec.witness_shaped (enc := enc) (C := Tryd.checked) (os := os) (X := fun w _ => laidMetH Tryd.prog lst w) false (World.doorLaid Tryd.prog 68 os) #[.int .u8 0] 8 rfl (World.shaped_of_RefB (by kernel_rfl) (by kernel_rfl)) (by kernel_rfl) (by kernel_rfl) (by kernel_rfl) (door_met os _)) ?_
  intro W base args ds gs before hval0 hW _ _ hL _
  have hval : ∀ (j : Nat) t v, Tryd.f6.params[j]? = some t → args[j]? = some v → Value.okWide Tryd.prog W .any base t v := hval0
  have hW' := hW
  obtain ⟨p, q, hA0, hV, rfl, hfz, hnd⟩ := hW
  have hA : DataW.TrodAll enc Tryd.prog W 0 (fun _ => true) true Tryd.f6.params.toList args.toList ds p := hA0
  rw [Tryd.params6] at hA hval
  obtain ⟨v0, vs0, d0, ds0, p0, q0, hargs, rfl, rfl, h0, r0⟩ := trodAll_cons hA
  obtain ⟨rfl, rfl, rfl⟩ := trodAll_nil r0
  obtain rfl : args = #[v0] := by cases args; simp_all
  obtain ⟨rfl, rfl⟩ := trodVars_none hV
  obtain ⟨n0, rfl⟩ := okWide_int Tryd.underlying5 (hval 0 5 v0 rfl rfl)
  have k0 := h0
  have lt0 : ∀ x ∈ p0, x.block < W.heap.size := by obtain ⟨m, hm⟩ := k0; exact DataW.trod_lt m _ _ _ hm
  have o0 : ∃ m, Sx.Opens Tryd.prog W m 5 (Value.cells (.int .u8 n0)).toList := by obtain ⟨m, hm⟩ := k0; exact ⟨m, Sx.opens_of m _ _ _ hm⟩
  obtain ⟨l0t, l1t, l2t, l3t⟩ := of_laid hL
  clear hA0 hval0
  refine (walk n0 W o0 l0t l1t l2t l3t).mono fun e W' ⟨he, bel⟩ => ?_
  subst he
  exact ⟨_, rfl, _, _, _, [], _, [], hW', trodAll_mk1 (shut_bool Tryd.underlying4 _), (trodAll_cons_mk (Below.trod laidOut (by kernel_rfl) (of_decide_eq_true (by kernel_rfl)) k0 bel lt0) trodAll_mk0), rfl, bel.frame _, fun h => by cases h⟩

theorem over : Rows.CredMostSaid :=
  OpenClaim.holds_of_wide 6 Tryd.f6 rfl rfl rfl rfl rfl rfl rfl ⟨rfl, rfl, rfl, rfl, rfl⟩ rfl rfl rfl rfl rfl (by kernel_rfl) Tryd.func6 (by kernel_rfl)
    (of_decide_eq_true (by kernel_rfl)) (by unfold Func.isWrapper; first | (rw [if_pos (by decide +kernel)]; kernel_rfl) | (rw [if_neg (by decide +kernel)]; exact ⟨rfl, rfl⟩))
    (fun os started H enc _ => lifted os started H enc)

theorem proved : Rows.CredMostCardSaid :=
  Claim7.holds_tied_plain_at .later [] [.widerDeep, .widerDeep, .widerDeep, .data] true (true, "1187f747fc85e569e7ee7433a2f9bbd829d9b306e403f363464eb034f74ecf3f") false
    over (fun _ h => by cases h) (by kernel_rfl) (fun _ h => by cases h) credMost_row_tie rfl ⟨rfl, rfl⟩ (by kernel_rfl) rfl
    (fun f fn hf hfn => by
      obtain rfl : f = 6 := Option.some.inj ((show Tryd.prog.funcNamed "ostiary/ostiarylaw14.CredMost" = some 6 by kernel_rfl).symm.trans hf) |>.symm
      obtain rfl : fn = Tryd.f6 := (Option.some.inj (Tryd.func6.symm.trans hfn)).symm
      exact ⟨by kernel_rfl, fun j t ht => by
        rw [Tryd.params6] at ht
        have hm : t ∈ [5] := by simpa using Array.mem_of_getElem? ht
        have hall : ([5].all fun u => !Tryd.prog.wantsStandIn u) = true := by kernel_rfl
        exact (show Tryd.prog.wantsStandIn t = false by simpa using List.all_eq_true.1 hall t hm)⟩)
    (by kernel_rfl)
#print axioms proved
end Go.Proofs.YthkjfepbmnabkaaDoor.credMost
