/- hands without their things answer each command, and panic at none -/
import Derived.Test.YteenjgfbbkdlhaaGreatDoorMOrderBare6
import Derived.Test.YteenjgfbbkdlhaaGreatDoorMOrderBare2
import Derived.Test.YteenjgfbbkdlhaaGreatDoorRows
import Derived.Test.YteenjgfbbkdlhaaGreatDoorCards
import Derived.Test.YteenjgfbbkdlhaaGreatDoorTie
import Derived.WalkKit
import Derived.ProofKit
import Derived.OpenShut
import Derived.ShutString
import Derived.ChangeOld
import Derived.Below
import Derived.LaidMore
import Derived.Stop.Joined
import Derived.SevenTiedAt
import Derived.Lay
namespace Go.Proofs.YteenjgfbbkdlhaaGreatDoor.orderBare
open Go.ChangeShapes Go.WideShapes Go.ChangeAt Go.RowKit
set_option linter.unusedVariables false

theorem own : ownKnob Tryz.prog.godebug = none := by kernel_rfl
theorem laidOut : laidOutB Tryz.prog = true := by kernel_rfl
abbrev lst : List (String × DataW Unit) := [("math/bits.deBruijn32tab", Rows.laid_math_bits_deBruijn32tab), ("math/bits.deBruijn64tab", Rows.laid_math_bits_deBruijn64tab), ("internal/strconv.uint64pow10", Rows.laid_internal_strconv_uint64pow10), ("unicode/utf8.acceptRanges", Rows.laid_unicode_utf8_acceptRanges), ("strconv.ErrRange", Rows.laid_strconv_ErrRange), ("strconv.ErrSyntax", Rows.laid_strconv_ErrSyntax), ("ostiary/sha.first", Rows.laid_ostiary_sha_first), ("ostiary/sha.odd", Rows.laid_ostiary_sha_odd), ("ostiary/name.blanks", Rows.laid_ostiary_name_blanks), ("ostiary/name.nothing", Rows.laid_ostiary_name_nothing), ("ostiary/name.barred", Rows.laid_ostiary_name_barred), ("ostiary/name.forms", Rows.laid_ostiary_name_forms), ("ostiary/order.verbs", Rows.laid_ostiary_order_verbs), ("unicode/utf8.first", Rows.laid_unicode_utf8_first)]

theorem door_met (os : Os) (args : Array Value) : laidMetH Tryz.prog lst ((World.laidAll Tryz.prog os lst).forCall (fun _ _ => 0) ⟨#[], args, []⟩).memory := by
  rw [MakeChecks.laidMetH_plain _ _ _ (by kernel_rfl)]
  exact laidMet_laidAll _ (by kernel_rfl) (by kernel_rfl)
/-- What the tables are. -/
theorem of_laid {W : World} (h : laidMetH Tryz.prog lst W) : True ∧ True ∧ Sx.powF.p W ∧ True ∧ (Sx.errF 7).p W ∧ (Sx.errF 6).p W ∧ (Sx.firstF 2).p W ∧ (Sx.oddF 5).p W ∧ (Sx.spansF 8 Sx.blanksL).p W ∧ (Sx.spansF 9 Sx.nothingL).p W ∧ (Sx.spansF 4 Sx.barredL).p W ∧ Sx.Forms 10 W ∧ (Sx.verbF 0).p W ∧ True := by
  rw [MakeChecks.laidMetH_plain _ _ _ (by kernel_rfl)] at h
  obtain ⟨ps, ⟨g0, t0, cs0, f0, p0, q0, hg0, ht0, hv0, hd0, ⟨g1, t1, cs1, f1, p1, q1, hg1, ht1, hv1, hd1, ⟨g2, t2, cs2, f2, p2, q2, hg2, ht2, hv2, hd2, ⟨g3, t3, cs3, f3, p3, q3, hg3, ht3, hv3, hd3, ⟨g4, t4, cs4, f4, p4, q4, hg4, ht4, hv4, hd4, ⟨g5, t5, cs5, f5, p5, q5, hg5, ht5, hv5, hd5, ⟨g6, t6, cs6, f6, p6, q6, hg6, ht6, hv6, hd6, ⟨g7, t7, cs7, f7, p7, q7, hg7, ht7, hv7, hd7, ⟨g8, t8, cs8, f8, p8, q8, hg8, ht8, hv8, hd8, ⟨g9, t9, cs9, f9, p9, q9, hg9, ht9, hv9, hd9, ⟨g10, t10, cs10, f10, p10, q10, hg10, ht10, hv10, hd10, ⟨g11, t11, cs11, f11, p11, q11, hg11, ht11, hv11, hd11, ⟨g12, t12, cs12, f12, p12, q12, hg12, ht12, hv12, hd12, ⟨g13, t13, cs13, f13, p13, q13, hg13, ht13, hv13, hd13, _, _⟩, _⟩, _⟩, _⟩, _⟩, _⟩, _⟩, _⟩, _⟩, _⟩, _⟩, _⟩, _⟩, _⟩, _, _⟩ := h
  obtain rfl := Option.some.inj ((show Tryz.prog.globalNamed "math/bits.deBruijn32tab" = some 11 by kernel_rfl).symm.trans hg0)
  obtain rfl := Option.some.inj ((show (Tryz.prog.globals[11]?).map (·.type) = some 375 by kernel_rfl).symm.trans ht0)
  have hc0 : ∀ i, W.cell? ⟨11, i, none⟩ = cs0[i]? := fun i => World.var?_cell hg0 hv0 i
  obtain rfl := Option.some.inj ((show Tryz.prog.globalNamed "math/bits.deBruijn64tab" = some 12 by kernel_rfl).symm.trans hg1)
  obtain rfl := Option.some.inj ((show (Tryz.prog.globals[12]?).map (·.type) = some 376 by kernel_rfl).symm.trans ht1)
  have hc1 : ∀ i, W.cell? ⟨12, i, none⟩ = cs1[i]? := fun i => World.var?_cell hg1 hv1 i
  obtain rfl := Option.some.inj ((show Tryz.prog.globalNamed "internal/strconv.uint64pow10" = some 3 by kernel_rfl).symm.trans hg2)
  obtain rfl := Option.some.inj ((show (Tryz.prog.globals[3]?).map (·.type) = some 299 by kernel_rfl).symm.trans ht2)
  have hc2 : ∀ i, W.cell? ⟨3, i, none⟩ = cs2[i]? := fun i => World.var?_cell hg2 hv2 i
  obtain rfl := Option.some.inj ((show Tryz.prog.globalNamed "unicode/utf8.acceptRanges" = some 14 by kernel_rfl).symm.trans hg3)
  obtain rfl := Option.some.inj ((show (Tryz.prog.globals[14]?).map (·.type) = some 405 by kernel_rfl).symm.trans ht3)
  have hc3 : ∀ i, W.cell? ⟨14, i, none⟩ = cs3[i]? := fun i => World.var?_cell hg3 hv3 i
  obtain rfl := Option.some.inj ((show Tryz.prog.globalNamed "strconv.ErrRange" = some 7 by kernel_rfl).symm.trans hg4)
  obtain rfl := Option.some.inj ((show (Tryz.prog.globals[7]?).map (·.type) = some 155 by kernel_rfl).symm.trans ht4)
  have hc4 : ∀ i, W.cell? ⟨7, i, none⟩ = cs4[i]? := fun i => World.var?_cell hg4 hv4 i
  obtain rfl := Option.some.inj ((show Tryz.prog.globalNamed "strconv.ErrSyntax" = some 6 by kernel_rfl).symm.trans hg5)
  obtain rfl := Option.some.inj ((show (Tryz.prog.globals[6]?).map (·.type) = some 155 by kernel_rfl).symm.trans ht5)
  have hc5 : ∀ i, W.cell? ⟨6, i, none⟩ = cs5[i]? := fun i => World.var?_cell hg5 hv5 i
  obtain rfl := Option.some.inj ((show Tryz.prog.globalNamed "ostiary/sha.first" = some 2 by kernel_rfl).symm.trans hg6)
  obtain rfl := Option.some.inj ((show (Tryz.prog.globals[2]?).map (·.type) = some 290 by kernel_rfl).symm.trans ht6)
  have hc6 : ∀ i, W.cell? ⟨2, i, none⟩ = cs6[i]? := fun i => World.var?_cell hg6 hv6 i
  obtain rfl := Option.some.inj ((show Tryz.prog.globalNamed "ostiary/sha.odd" = some 5 by kernel_rfl).symm.trans hg7)
  obtain rfl := Option.some.inj ((show (Tryz.prog.globals[5]?).map (·.type) = some 332 by kernel_rfl).symm.trans ht7)
  have hc7 : ∀ i, W.cell? ⟨5, i, none⟩ = cs7[i]? := fun i => World.var?_cell hg7 hv7 i
  obtain rfl := Option.some.inj ((show Tryz.prog.globalNamed "ostiary/name.blanks" = some 8 by kernel_rfl).symm.trans hg8)
  obtain rfl := Option.some.inj ((show (Tryz.prog.globals[8]?).map (·.type) = some 363 by kernel_rfl).symm.trans ht8)
  have hc8 : ∀ i, W.cell? ⟨8, i, none⟩ = cs8[i]? := fun i => World.var?_cell hg8 hv8 i
  obtain rfl := Option.some.inj ((show Tryz.prog.globalNamed "ostiary/name.nothing" = some 9 by kernel_rfl).symm.trans hg9)
  obtain rfl := Option.some.inj ((show (Tryz.prog.globals[9]?).map (·.type) = some 364 by kernel_rfl).symm.trans ht9)
  have hc9 : ∀ i, W.cell? ⟨9, i, none⟩ = cs9[i]? := fun i => World.var?_cell hg9 hv9 i
  obtain rfl := Option.some.inj ((show Tryz.prog.globalNamed "ostiary/name.barred" = some 4 by kernel_rfl).symm.trans hg10)
  obtain rfl := Option.some.inj ((show (Tryz.prog.globals[4]?).map (·.type) = some 325 by kernel_rfl).symm.trans ht10)
  have hc10 : ∀ i, W.cell? ⟨4, i, none⟩ = cs10[i]? := fun i => World.var?_cell hg10 hv10 i
  obtain rfl := Option.some.inj ((show Tryz.prog.globalNamed "ostiary/name.forms" = some 10 by kernel_rfl).symm.trans hg11)
  obtain rfl := Option.some.inj ((show (Tryz.prog.globals[10]?).map (·.type) = some 367 by kernel_rfl).symm.trans ht11)
  have hc11 : ∀ i, W.cell? ⟨10, i, none⟩ = cs11[i]? := fun i => World.var?_cell hg11 hv11 i
  obtain rfl := Option.some.inj ((show Tryz.prog.globalNamed "ostiary/order.verbs" = some 0 by kernel_rfl).symm.trans hg12)
  obtain rfl := Option.some.inj ((show (Tryz.prog.globals[0]?).map (·.type) = some 68 by kernel_rfl).symm.trans ht12)
  have hc12 : ∀ i, W.cell? ⟨0, i, none⟩ = cs12[i]? := fun i => World.var?_cell hg12 hv12 i
  obtain rfl := Option.some.inj ((show Tryz.prog.globalNamed "unicode/utf8.first" = some 13 by kernel_rfl).symm.trans hg13)
  obtain rfl := Option.some.inj ((show (Tryz.prog.globals[13]?).map (·.type) = some 402 by kernel_rfl).symm.trans ht13)
  have hc13 : ∀ i, W.cell? ⟨13, i, none⟩ = cs13[i]? := fun i => World.var?_cell hg13 hv13 i
  have e6 : (Rows.laid_ostiary_sha_first : DataW Unit) = .agg ((Sx.u32s Sha.first.l).map fun z => .lit (.int .u32 z)) := by kernel_rfl
  rw [e6] at hd6
  have e7 : (Rows.laid_ostiary_sha_odd : DataW Unit) = .agg ((Sx.u32s Sha.K).map fun z => .lit (.int .u32 z)) := by kernel_rfl
  rw [e7] at hd7
  exact ⟨trivial, trivial, Sx.pow_of (n := 20) (e := 32) (d := (Rows.laid_internal_strconv_uint64pow10 : DataW Unit)) (by kernel_rfl) (by kernel_rfl) (by kernel_rfl) (by kernel_rfl) (by kernel_rfl) hd2 hv2, trivial, Sx.err_of (P := Tryz.prog) (by kernel_rfl) hd4 hc4, Sx.err_of (P := Tryz.prog) (by kernel_rfl) hd5 hc5, Sx.rd_u32 (l := Sha.first.l) (Sx.rd_of_ints (P := Tryz.prog) (k := .u32) (n := 8) (e := 184) (zs := Sx.u32s Sha.first.l) (by kernel_rfl) (by kernel_rfl) (by kernel_rfl) hd6 hc6), Sx.rd_u32 (l := Sha.K) (Sx.rd_of_ints (P := Tryz.prog) (k := .u32) (n := 64) (e := 184) (zs := Sx.u32s Sha.K) (by kernel_rfl) (by kernel_rfl) (by kernel_rfl) hd7 hc7), Sx.rd_of_laid (P := Tryz.prog) (d := (Rows.laid_ostiary_name_blanks : DataW Unit)) (vs := Sx.blanksL.flatMap Sx.spanV) (by kernel_rfl) (by kernel_rfl) (by kernel_rfl) hd8 hc8, Sx.rd_of_laid (P := Tryz.prog) (d := (Rows.laid_ostiary_name_nothing : DataW Unit)) (vs := Sx.nothingL.flatMap Sx.spanV) (by kernel_rfl) (by kernel_rfl) (by kernel_rfl) hd9 hc9, Sx.rd_of_laid (P := Tryz.prog) (d := (Rows.laid_ostiary_name_barred : DataW Unit)) (vs := Sx.barredL.flatMap Sx.spanV) (by kernel_rfl) (by kernel_rfl) (by kernel_rfl) hd10 hc10, Sx.rd_of_laid (P := Tryz.prog) (d := (Rows.laid_ostiary_name_forms : DataW Unit)) (vs := Sx.formCells) (by kernel_rfl) (by kernel_rfl) (by kernel_rfl) hd11 hc11, Sx.rd_of_laid (P := Tryz.prog) (d := (Rows.laid_ostiary_order_verbs : DataW Unit)) (vs := Sx.verbCells) (by kernel_rfl) (by kernel_rfl) (by kernel_rfl) hd12 hc12, trivial⟩
theorem walk (a0 : Option Addr) (len0 cap0 : Nat) (w : World) (o0 : ∃ m, Sx.Opens Tryz.prog w m 38 (Value.cells (.slice a0 len0 cap0)).toList) (h0t : True) (h1t : True) (h2t : Sx.powF.p w) (h3t : True) (h4t : (Sx.errF 7).p w) (h5t : (Sx.errF 6).p w) (h6t : (Sx.firstF 2).p w) (h7t : (Sx.oddF 5).p w) (h8t : (Sx.spansF 8 Sx.blanksL).p w) (h9t : (Sx.spansF 9 Sx.nothingL).p w) (h10t : (Sx.spansF 4 Sx.barredL).p w) (h11t : Sx.Forms 10 w) (h12t : (Sx.verbF 0).p w) (h13t : True) (hmlt : Sx.mlF.p w) :
    Calls Tryz.prog 4 #[.slice a0 len0 cap0] w fun e w' => e = .returned (.bool true) ∧ Below w.heap.size w w' := by
  obtain ⟨m0, o0⟩ := o0
  obtain ⟨cs, hol, hA, hin, hn⟩ := Sx.cmds_of o0
  subst hol
  refine Calls.mono (Sx.orderBareL_c w a0 cs cap0 hA hin (by rw [Sx.maxLen_eq] at hn; exact hn) (Sx.mem_ro (Sx.ro_cons (Sx.rd_ok h7t) (Sx.ro_cons (Sx.rd_ok h6t) (Sx.ro_cons (Sx.nam_ok h11t h8t h9t h10t) (Sx.ro_cons (Sx.rd_ok h12t) (Sx.ro_cons (Sx.ml_ok hmlt) (Sx.ro_cons (Sx.err_ok h5t) (Sx.ro_cons (Sx.err_ok h4t) (Sx.ro_cons (Sx.pow_ok h2t) Sx.ro_nil)))))))))) ?_
  rintro e w' ⟨v, rfl, Fs, ⟨rfl, rfl⟩, hc, _⟩
  refine ⟨rfl, Sx.below_of ?_⟩
  rw [Sx.Un.nil] at hc
  exact hc

set_option maxRecDepth 100000 in
theorem lifted (os : Os) (started : os.Started) (H : Type) (enc : TypeId × Value → H) :
    ReturnsInHanded {} Tryz.checked os 4 .any (fun w args => (Rows.orderBareSpec.pre enc Tryz.prog Tryz.f4 [] false w args ∧ laidMetH Tryz.prog lst w) ∧ sizedMet enc Tryz.prog Tryz.f4 (OpenSpec.ofChange Rows.orderBareSpec) false w args)
      (Rows.orderBareSpec.post enc Tryz.prog Tryz.f4 false true false false) := by
  refine Sx.handed_shaped (C := Tryz.checked) (X := fun w _ => laidMetH Tryz.prog lst w) (fun _ _ _ hh h => h.of_heap hh) own started (by kernel_rfl) Tryz.func4
    (ChangeSpec.witness_shaped (enc := enc) (C := Tryz.checked) (os := os) (X := fun w _ => laidMetH Tryz.prog lst w) false (World.laidAll Tryz.prog os lst) #[.slice none 0 0] 8 (World.laidAll_os _ _ _) (World.shaped_of_ZipB (by kernel_rfl) (by kernel_rfl)) (by kernel_rfl) (by kernel_rfl) (by kernel_rfl) (door_met os _)) ?_
  intro W base args ds gs before hval0 hW hL hsh
  have hval : ∀ (j : Nat) t v, Tryz.f4.params[j]? = some t → args[j]? = some v → Value.okWide Tryz.prog W .any base t v := hval0
  have hW' := hW
  obtain ⟨p, q, hA0, hV, rfl, hfz, hnd⟩ := hW
  have hA : DataW.TrodAll enc Tryz.prog W 0 (fun _ => true) true Tryz.f4.params.toList args.toList ds p := hA0
  rw [Tryz.params4] at hA hval
  obtain ⟨v0, vs0, d0, ds0, p0, q0, hargs, rfl, rfl, h0, r0⟩ := trodAll_cons hA
  obtain ⟨rfl, rfl, rfl⟩ := trodAll_nil r0
  obtain rfl : args = #[v0] := by cases args; simp_all
  obtain ⟨rfl, rfl⟩ := trodVars_none hV
  obtain ⟨a0, len0, cap0, rfl⟩ := okWide_slice Tryz.underlying38 (hval 0 38 v0 rfl rfl)
  have k0 := h0
  have lt0 : ∀ x ∈ p0, x.block < W.heap.size := by obtain ⟨m, hm⟩ := k0; exact DataW.trod_lt m _ _ _ hm
  have o0 : ∃ m, Sx.Opens Tryz.prog W m 38 (Value.cells (.slice a0 len0 cap0)).toList := by obtain ⟨m, hm⟩ := k0; exact ⟨m, Sx.opens_of m _ _ _ hm⟩
  obtain ⟨l0t, l1t, l2t, l3t, l4t, l5t, l6t, l7t, l8t, l9t, l10t, l11t, l12t, l13t⟩ := of_laid hL
  clear hA0 hval0
  have lml := Sx.ml_of hsh
  refine (walk a0 len0 cap0 W o0 l0t l1t l2t l3t l4t l5t l6t l7t l8t l9t l10t l11t l12t l13t lml).mono fun e W' ⟨he, bel⟩ => ?_
  subst he
  exact ⟨_, rfl, _, _, _, [], _, [], hW', trodAll_mk1 (shut_bool Tryz.underlying4 _), (trodAll_cons_mk (Below.trod laidOut (by kernel_rfl) (of_decide_eq_true (by kernel_rfl)) k0 bel lt0) trodAll_mk0), rfl, bel.frame _, fun h => by cases h⟩

end Go.Proofs.YteenjgfbbkdlhaaGreatDoor.orderBare
