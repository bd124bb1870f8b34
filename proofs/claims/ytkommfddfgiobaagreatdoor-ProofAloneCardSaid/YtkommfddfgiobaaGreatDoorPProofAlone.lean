/- ProofAlone -/
import Derived.Test.YtkommfddfgiobaaGreatDoorMProofAlone3
import Derived.Test.YtkommfddfgiobaaGreatDoorMProofAlone4
import Derived.Test.YtkommfddfgiobaaGreatDoorMProofAlone2
import Derived.Test.YtkommfddfgiobaaGreatDoorRows
import Derived.Test.YtkommfddfgiobaaGreatDoorCards
import Derived.Test.YtkommfddfgiobaaGreatDoorTie
import Derived.WalkKit
import Derived.ProofKit
import Derived.OpenShut
import Derived.ShutString
import Derived.ChangeOld
import Derived.Below
import Derived.LaidMore
import Derived.Stop.Joined
import Derived.SevenTiedAt
namespace Go.Proofs.YtkommfddfgiobaaGreatDoor.proofAlone
open Go.ChangeShapes Go.WideShapes Go.ChangeAt Go.RowKit
set_option linter.unusedVariables false

theorem own : ownKnob Tryz.prog.godebug = none := by kernel_rfl
theorem laidOut : laidOutB Tryz.prog = true := by kernel_rfl
abbrev lst : List (String × DataW Unit) := [("ostiary/sha.first", Rows.laid_ostiary_sha_first), ("ostiary/sha.odd", Rows.laid_ostiary_sha_odd), ("ostiary/name.blanks", Rows.laid_ostiary_name_blanks), ("ostiary/name.nothing", Rows.laid_ostiary_name_nothing), ("ostiary/name.barred", Rows.laid_ostiary_name_barred), ("ostiary/name.forms", Rows.laid_ostiary_name_forms)]

theorem door_met (os : Os) (args : Array Value) : laidMetH Tryz.prog lst ((World.doorLaid Tryz.prog 83 os).forCall (fun _ _ => 0) ⟨#[], args, []⟩).memory :=
  laidMetH_of_parts3 (fuel := 8) (laidMet_of_run' 8 (by kernel_rfl) (by kernel_rfl)) (by kernel_rfl) (by kernel_rfl)
/-- What the tables are. -/
theorem of_laid {W : World} (h : laidMetH Tryz.prog lst W) : (Sx.firstF 0).p W ∧ (Sx.oddF 3).p W ∧ (Sx.spansF 5 Sx.blanksL).p W ∧ (Sx.spansF 6 Sx.nothingL).p W ∧ (Sx.spansF 2 Sx.barredL).p W ∧ Sx.Forms 7 W := by
  rw [MakeChecks.laidMetH_plain _ _ _ (by kernel_rfl)] at h
  obtain ⟨ps, ⟨g0, t0, cs0, f0, p0, q0, hg0, ht0, hv0, hd0, ⟨g1, t1, cs1, f1, p1, q1, hg1, ht1, hv1, hd1, ⟨g2, t2, cs2, f2, p2, q2, hg2, ht2, hv2, hd2, ⟨g3, t3, cs3, f3, p3, q3, hg3, ht3, hv3, hd3, ⟨g4, t4, cs4, f4, p4, q4, hg4, ht4, hv4, hd4, ⟨g5, t5, cs5, f5, p5, q5, hg5, ht5, hv5, hd5, _, _⟩, _⟩, _⟩, _⟩, _⟩, _⟩, _, _⟩ := h
  obtain rfl := Option.some.inj ((show Tryz.prog.globalNamed "ostiary/sha.first" = some 0 by kernel_rfl).symm.trans hg0)
  obtain rfl := Option.some.inj ((show (Tryz.prog.globals[0]?).map (·.type) = some 175 by kernel_rfl).symm.trans ht0)
  have hc0 : ∀ i, W.cell? ⟨0, i, none⟩ = cs0[i]? := fun i => World.var?_cell hg0 hv0 i
  obtain rfl := Option.some.inj ((show Tryz.prog.globalNamed "ostiary/sha.odd" = some 3 by kernel_rfl).symm.trans hg1)
  obtain rfl := Option.some.inj ((show (Tryz.prog.globals[3]?).map (·.type) = some 216 by kernel_rfl).symm.trans ht1)
  have hc1 : ∀ i, W.cell? ⟨3, i, none⟩ = cs1[i]? := fun i => World.var?_cell hg1 hv1 i
  obtain rfl := Option.some.inj ((show Tryz.prog.globalNamed "ostiary/name.blanks" = some 5 by kernel_rfl).symm.trans hg2)
  obtain rfl := Option.some.inj ((show (Tryz.prog.globals[5]?).map (·.type) = some 250 by kernel_rfl).symm.trans ht2)
  have hc2 : ∀ i, W.cell? ⟨5, i, none⟩ = cs2[i]? := fun i => World.var?_cell hg2 hv2 i
  obtain rfl := Option.some.inj ((show Tryz.prog.globalNamed "ostiary/name.nothing" = some 6 by kernel_rfl).symm.trans hg3)
  obtain rfl := Option.some.inj ((show (Tryz.prog.globals[6]?).map (·.type) = some 251 by kernel_rfl).symm.trans ht3)
  have hc3 : ∀ i, W.cell? ⟨6, i, none⟩ = cs3[i]? := fun i => World.var?_cell hg3 hv3 i
  obtain rfl := Option.some.inj ((show Tryz.prog.globalNamed "ostiary/name.barred" = some 2 by kernel_rfl).symm.trans hg4)
  obtain rfl := Option.some.inj ((show (Tryz.prog.globals[2]?).map (·.type) = some 209 by kernel_rfl).symm.trans ht4)
  have hc4 : ∀ i, W.cell? ⟨2, i, none⟩ = cs4[i]? := fun i => World.var?_cell hg4 hv4 i
  obtain rfl := Option.some.inj ((show Tryz.prog.globalNamed "ostiary/name.forms" = some 7 by kernel_rfl).symm.trans hg5)
  obtain rfl := Option.some.inj ((show (Tryz.prog.globals[7]?).map (·.type) = some 254 by kernel_rfl).symm.trans ht5)
  have hc5 : ∀ i, W.cell? ⟨7, i, none⟩ = cs5[i]? := fun i => World.var?_cell hg5 hv5 i
  have e0 : (Rows.laid_ostiary_sha_first : DataW Unit) = .agg ((Sx.u32s Sha.first.l).map fun z => .lit (.int .u32 z)) := by kernel_rfl
  rw [e0] at hd0
  have e1 : (Rows.laid_ostiary_sha_odd : DataW Unit) = .agg ((Sx.u32s Sha.K).map fun z => .lit (.int .u32 z)) := by kernel_rfl
  rw [e1] at hd1
  exact ⟨Sx.rd_u32 (l := Sha.first.l) (Sx.rd_of_ints (P := Tryz.prog) (k := .u32) (n := 8) (e := 73) (zs := Sx.u32s Sha.first.l) (by kernel_rfl) (by kernel_rfl) (by kernel_rfl) hd0 hc0), Sx.rd_u32 (l := Sha.K) (Sx.rd_of_ints (P := Tryz.prog) (k := .u32) (n := 64) (e := 73) (zs := Sx.u32s Sha.K) (by kernel_rfl) (by kernel_rfl) (by kernel_rfl) hd1 hc1), Sx.rd_of_laid (P := Tryz.prog) (d := (Rows.laid_ostiary_name_blanks : DataW Unit)) (vs := Sx.blanksL.flatMap Sx.spanV) (by kernel_rfl) (by kernel_rfl) (by kernel_rfl) hd2 hc2, Sx.rd_of_laid (P := Tryz.prog) (d := (Rows.laid_ostiary_name_nothing : DataW Unit)) (vs := Sx.nothingL.flatMap Sx.spanV) (by kernel_rfl) (by kernel_rfl) (by kernel_rfl) hd3 hc3, Sx.rd_of_laid (P := Tryz.prog) (d := (Rows.laid_ostiary_name_barred : DataW Unit)) (vs := Sx.barredL.flatMap Sx.spanV) (by kernel_rfl) (by kernel_rfl) (by kernel_rfl) hd4 hc4, Sx.rd_of_laid (P := Tryz.prog) (d := (Rows.laid_ostiary_name_forms : DataW Unit)) (vs := Sx.formCells) (by kernel_rfl) (by kernel_rfl) (by kernel_rfl) hd5 hc5⟩
theorem walk (s0 : ByteArray) (s1 : ByteArray) (a2 : Option Addr) (len2 cap2 : Nat) (s3 : ByteArray) (s4 : ByteArray) (a5 : Option Addr) (len5 cap5 : Nat) (w : World) (o0 : ∃ m, Sx.Opens Tryz.prog w m 9 (Value.cells (.string s0)).toList) (o1 : ∃ m, Sx.Opens Tryz.prog w m 9 (Value.cells (.string s1)).toList) (o2 : ∃ m, Sx.Opens Tryz.prog w m 22 (Value.cells (.slice a2 len2 cap2)).toList) (o3 : ∃ m, Sx.Opens Tryz.prog w m 9 (Value.cells (.string s3)).toList) (o4 : ∃ m, Sx.Opens Tryz.prog w m 9 (Value.cells (.string s4)).toList) (o5 : ∃ m, Sx.Opens Tryz.prog w m 22 (Value.cells (.slice a5 len5 cap5)).toList) (h0t : (Sx.firstF 0).p w) (h1t : (Sx.oddF 3).p w) (h2t : (Sx.spansF 5 Sx.blanksL).p w) (h3t : (Sx.spansF 6 Sx.nothingL).p w) (h4t : (Sx.spansF 2 Sx.barredL).p w) (h5t : Sx.Forms 7 w) :
    Calls Tryz.prog 5 #[.string s0, .string s1, .slice a2 len2 cap2, .string s3, .string s4, .slice a5 len5 cap5] w fun e w' => e = .returned (.bool true) ∧ Below w.heap.size w w' := by
  obtain ⟨m0, o0⟩ := o0
  obtain ⟨m1, o1⟩ := o1
  obtain ⟨m2, o2⟩ := o2
  obtain ⟨m3, o3⟩ := o3
  obtain ⟨m4, o4⟩ := o4
  obtain ⟨m5, o5⟩ := o5
  have c5 : Tryz.prog.cellsOf 5 = 1 := by kernel_rfl
  have hs : ∀ (m : Nat) (s : ByteArray), Sx.Opens Tryz.prog w m 9 (Value.cells (.string s)).toList → s.size ≤ maxLen := fun m s h => Sx.opens_string Tryz.underlying9 h
  obtain ⟨A1, p, c1, hp0, hpc, _, hp⟩ := o2.bytes (Sx.ok22.real (d := .slice 5) rfl rfl) (Sx.ok5.real (d := .int .u8) rfl rfl) c5
  simp only [Value.cells, List.cons.injEq, and_true] at hp0
  injection hp0 with e1 e2 e3
  subst e1 e2 e3
  obtain ⟨A2, q, c2, hq0, hqc, _, hq⟩ := o5.bytes (Sx.ok22.real (d := .slice 5) rfl rfl) (Sx.ok5.real (d := .int .u8) rfl rfl) c5
  simp only [Value.cells, List.cons.injEq, and_true] at hq0
  injection hq0 with f1 f2 f3
  subst f1 f2 f3
  refine Calls.mono (Sx.proofAlone_c w s0 s1 a2 p cap2 s3 s4 a5 q cap5 (hs _ _ o0) (hs _ _ o1) (hs _ _ o3) (hs _ _ o4) hpc hqc (Sx.mem_ro (Sx.ro_cons (Sx.rd_ok hp) (Sx.ro_cons (Sx.rd_ok hq) (Sx.ro_cons (Sx.rd_ok h1t) (Sx.ro_cons (Sx.rd_ok h0t) (Sx.ro_cons (Sx.nam_ok h5t h2t h3t h4t) Sx.ro_nil))))))) ?_
  rintro e w' ⟨v, rfl, Fs, ⟨rfl, rfl⟩, hc, _⟩
  refine ⟨rfl, Sx.below_of ?_⟩
  rw [Sx.Un.nil] at hc
  exact hc

set_option maxRecDepth 100000 in
theorem lifted (os : Os) (started : os.Started) (H : Type) (enc : TypeId × Value → H) :
    ReturnsInHanded {} Tryz.checked os 5 .any (fun w args => (Rows.proofAloneSpec.pre enc Tryz.prog Tryz.f5 [] false w args ∧ laidMetH Tryz.prog lst w) ∧ sizedMet enc Tryz.prog Tryz.f5 (OpenSpec.ofChange Rows.proofAloneSpec) false w args)
      (Rows.proofAloneSpec.post enc Tryz.prog Tryz.f5 false true false false) := by
  refine returnsInHanded_of_change_and (C := Tryz.checked) (X := fun w _ => laidMetH Tryz.prog lst w) (fun _ _ _ hh h => h.of_heap hh) own started (by kernel_rfl) Tryz.func5
    (ChangeSpec.witness_shaped (enc := enc) (C := Tryz.checked) (os := os) (X := fun w _ => laidMetH Tryz.prog lst w) false (World.doorLaid Tryz.prog 83 os) #[.string ByteArray.empty, .string ByteArray.empty, .slice none 0 0, .string ByteArray.empty, .string ByteArray.empty, .slice none 0 0] 8 rfl (World.shaped_of_RefB (by kernel_rfl) (by kernel_rfl)) (by kernel_rfl) (by kernel_rfl) (by kernel_rfl) (door_met os _)) ?_
  intro W base args ds gs before hval0 hW _ _ hL _
  have hval : ∀ (j : Nat) t v, Tryz.f5.params[j]? = some t → args[j]? = some v → Value.okWide Tryz.prog W .any base t v := hval0
  have hW' := hW
  obtain ⟨p, q, hA0, hV, rfl, hfz, hnd⟩ := hW
  have hA : DataW.TrodAll enc Tryz.prog W 0 (fun _ => true) true Tryz.f5.params.toList args.toList ds p := hA0
  rw [Tryz.params5] at hA hval
  obtain ⟨v0, vs0, d0, ds0, p0, q0, hargs, rfl, rfl, h0, r0⟩ := trodAll_cons hA
  obtain ⟨v1, vs1, d1, ds1, p1, q1, rfl, rfl, rfl, h1, r1⟩ := trodAll_cons r0
  obtain ⟨v2, vs2, d2, ds2, p2, q2, rfl, rfl, rfl, h2, r2⟩ := trodAll_cons r1
  obtain ⟨v3, vs3, d3, ds3, p3, q3, rfl, rfl, rfl, h3, r3⟩ := trodAll_cons r2
  obtain ⟨v4, vs4, d4, ds4, p4, q4, rfl, rfl, rfl, h4, r4⟩ := trodAll_cons r3
  obtain ⟨v5, vs5, d5, ds5, p5, q5, rfl, rfl, rfl, h5, r5⟩ := trodAll_cons r4
  obtain ⟨rfl, rfl, rfl⟩ := trodAll_nil r5
  obtain rfl : args = #[v0, v1, v2, v3, v4, v5] := by cases args; simp_all
  obtain ⟨rfl, rfl⟩ := trodVars_none hV
  obtain ⟨s0, rfl⟩ := okWide_string Tryz.underlying9 (hval 0 9 v0 rfl rfl)
  have k0 := h0
  have lt0 : ∀ x ∈ p0, x.block < W.heap.size := by obtain ⟨m, hm⟩ := k0; exact DataW.trod_lt m _ _ _ hm
  have o0 : ∃ m, Sx.Opens Tryz.prog W m 9 (Value.cells (.string s0)).toList := by obtain ⟨m, hm⟩ := k0; exact ⟨m, Sx.opens_of m _ _ _ hm⟩
  obtain ⟨s1, rfl⟩ := okWide_string Tryz.underlying9 (hval 1 9 v1 rfl rfl)
  have k1 := h1
  have lt1 : ∀ x ∈ p1, x.block < W.heap.size := by obtain ⟨m, hm⟩ := k1; exact DataW.trod_lt m _ _ _ hm
  have o1 : ∃ m, Sx.Opens Tryz.prog W m 9 (Value.cells (.string s1)).toList := by obtain ⟨m, hm⟩ := k1; exact ⟨m, Sx.opens_of m _ _ _ hm⟩
  obtain ⟨a2, len2, cap2, rfl⟩ := okWide_slice Tryz.underlying22 (hval 2 22 v2 rfl rfl)
  have k2 := h2
  have lt2 : ∀ x ∈ p2, x.block < W.heap.size := by obtain ⟨m, hm⟩ := k2; exact DataW.trod_lt m _ _ _ hm
  have o2 : ∃ m, Sx.Opens Tryz.prog W m 22 (Value.cells (.slice a2 len2 cap2)).toList := by obtain ⟨m, hm⟩ := k2; exact ⟨m, Sx.opens_of m _ _ _ hm⟩
  obtain ⟨s3, rfl⟩ := okWide_string Tryz.underlying9 (hval 3 9 v3 rfl rfl)
  have k3 := h3
  have lt3 : ∀ x ∈ p3, x.block < W.heap.size := by obtain ⟨m, hm⟩ := k3; exact DataW.trod_lt m _ _ _ hm
  have o3 : ∃ m, Sx.Opens Tryz.prog W m 9 (Value.cells (.string s3)).toList := by obtain ⟨m, hm⟩ := k3; exact ⟨m, Sx.opens_of m _ _ _ hm⟩
  obtain ⟨s4, rfl⟩ := okWide_string Tryz.underlying9 (hval 4 9 v4 rfl rfl)
  have k4 := h4
  have lt4 : ∀ x ∈ p4, x.block < W.heap.size := by obtain ⟨m, hm⟩ := k4; exact DataW.trod_lt m _ _ _ hm
  have o4 : ∃ m, Sx.Opens Tryz.prog W m 9 (Value.cells (.string s4)).toList := by obtain ⟨m, hm⟩ := k4; exact ⟨m, Sx.opens_of m _ _ _ hm⟩
  obtain ⟨a5, len5, cap5, rfl⟩ := okWide_slice Tryz.underlying22 (hval 5 22 v5 rfl rfl)
  have k5 := h5
  have lt5 : ∀ x ∈ p5, x.block < W.heap.size := by obtain ⟨m, hm⟩ := k5; exact DataW.trod_lt m _ _ _ hm
  have o5 : ∃ m, Sx.Opens Tryz.prog W m 22 (Value.cells (.slice a5 len5 cap5)).toList := by obtain ⟨m, hm⟩ := k5; exact ⟨m, Sx.opens_of m _ _ _ hm⟩
  obtain ⟨l0t, l1t, l2t, l3t, l4t, l5t⟩ := of_laid hL
  clear hA0 hval0
  refine (walk s0 s1 a2 len2 cap2 s3 s4 a5 len5 cap5 W o0 o1 o2 o3 o4 o5 l0t l1t l2t l3t l4t l5t).mono fun e W' ⟨he, bel⟩ => ?_
  subst he
  exact ⟨_, rfl, _, _, _, [], _, [], hW', trodAll_mk1 (shut_bool Tryz.underlying4 _), (trodAll_cons_mk (Below.trod laidOut (by kernel_rfl) (of_decide_eq_true (by kernel_rfl)) k0 bel lt0) (trodAll_cons_mk (Below.trod laidOut (by kernel_rfl) (of_decide_eq_true (by kernel_rfl)) k1 bel lt1) (trodAll_cons_mk (Below.trod laidOut (by kernel_rfl) (of_decide_eq_true (by kernel_rfl)) k2 bel lt2) (trodAll_cons_mk (Below.trod laidOut (by kernel_rfl) (of_decide_eq_true (by kernel_rfl)) k3 bel lt3) (trodAll_cons_mk (Below.trod laidOut (by kernel_rfl) (of_decide_eq_true (by kernel_rfl)) k4 bel lt4) (trodAll_cons_mk (Below.trod laidOut (by kernel_rfl) (of_decide_eq_true (by kernel_rfl)) k5 bel lt5) trodAll_mk0)))))), rfl, bel.frame _, fun h => by cases h⟩

theorem over : Rows.ProofAloneSaid :=
  OpenClaim.holds_of_wide 5 Tryz.f5 rfl rfl rfl rfl rfl rfl rfl ⟨rfl, rfl, rfl, rfl, rfl⟩ rfl rfl rfl rfl rfl (by kernel_rfl) Tryz.func5 (by kernel_rfl)
    (of_decide_eq_true (by kernel_rfl)) (by unfold Func.isWrapper; first | (rw [if_pos (by decide +kernel)]; kernel_rfl) | (rw [if_neg (by decide +kernel)]; exact ⟨rfl, rfl⟩))
    (fun os started H enc _ => lifted os started H enc)

theorem proved : Rows.ProofAloneCardSaid :=
  Claim7.holds_tied_plain_at .later [] [.data, .data, .widerDeep, .widerDeep, .widerDeep, .data] true (true, "dbaf79673db563dbbeb02ace36d6c6098e4ccccdfdd7ce9a01226ee852f46e1e") false
    over (fun _ h => by cases h) (by kernel_rfl) (fun _ h => by cases h) proofAlone_row_tie rfl ⟨rfl, rfl⟩ (by kernel_rfl) rfl
    (fun f fn hf hfn => by
      obtain rfl : f = 5 := Option.some.inj ((show Tryz.prog.funcNamed "ostiary/ostiarylaw19.ProofAlone" = some 5 by kernel_rfl).symm.trans hf) |>.symm
      obtain rfl : fn = Tryz.f5 := (Option.some.inj (Tryz.func5.symm.trans hfn)).symm
      exact ⟨by kernel_rfl, fun j t ht => by
        rw [Tryz.params5] at ht
        have hm : t ∈ [9, 9, 22, 9, 9, 22] := by simpa using Array.mem_of_getElem? ht
        have hall : ([9, 9, 22, 9, 9, 22].all fun u => !Tryz.prog.wantsStandIn u) = true := by kernel_rfl
        exact (show Tryz.prog.wantsStandIn t = false by simpa using List.all_eq_true.1 hall t hm)⟩)
    (by kernel_rfl)
#print axioms proved
end Go.Proofs.YtkommfddfgiobaaGreatDoor.proofAlone
