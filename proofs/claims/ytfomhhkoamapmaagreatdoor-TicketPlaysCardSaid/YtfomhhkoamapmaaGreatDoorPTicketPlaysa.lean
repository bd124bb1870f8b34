/- every script of tickets that are given out, shown, spoilt, revoked and swept, of keys that come and go, as time goes by, has the document's answers, by a plain box and a symbolic one -/
import Derived.Test.YtfomhhkoamapmaaGreatDoorMTicketPlays7
import Derived.Test.YtfomhhkoamapmaaGreatDoorMTicketPlays2
import Derived.Test.YtfomhhkoamapmaaGreatDoorRows
import Derived.Test.YtfomhhkoamapmaaGreatDoorCards
import Derived.Test.YtfomhhkoamapmaaGreatDoorTie
import Derived.WalkKit
import Derived.ProofKit
import Derived.OpenShut
import Derived.ShutString
import Derived.ChangeOld
import Derived.Below
import Derived.LaidMore
import Derived.Stop.Joined
import Derived.SevenTiedAt
namespace Go.Proofs.YtfomhhkoamapmaaGreatDoor.ticketPlays
open Go.ChangeShapes Go.WideShapes Go.ChangeAt Go.RowKit
set_option linter.unusedVariables false

theorem own : ownKnob Tryz.prog.godebug = none := by kernel_rfl
theorem laidOut : laidOutB Tryz.prog = true := by kernel_rfl
abbrev lst : List (String × DataW Unit) := [("math/bits.deBruijn32tab", Rows.laid_math_bits_deBruijn32tab), ("math/bits.deBruijn64tab", Rows.laid_math_bits_deBruijn64tab), ("internal/strconv.uint64pow10", Rows.laid_internal_strconv_uint64pow10), ("ostiary/ostiaryref01.words", Rows.laid_ostiary_ostiaryref01_words), ("ostiary/sha.first", Rows.laid_ostiary_sha_first), ("ostiary/sha.odd", Rows.laid_ostiary_sha_odd), ("ostiary/name.blanks", Rows.laid_ostiary_name_blanks), ("ostiary/name.nothing", Rows.laid_ostiary_name_nothing), ("ostiary/name.barred", Rows.laid_ostiary_name_barred), ("ostiary/name.forms", Rows.laid_ostiary_name_forms)]

theorem door_met (os : Os) (args : Array Value) : laidMetH Tryz.prog lst ((World.doorLaid Tryz.prog 83 os).forCall (fun _ _ => 0) ⟨#[], args, []⟩).memory :=
  laidMetH_of_parts3 (fuel := 8) (laidMet_of_run' 8 (by kernel_rfl) (by kernel_rfl)) (by kernel_rfl) (by kernel_rfl)
/-- What the tables are. -/
theorem of_laid {W : World} (h : laidMetH Tryz.prog lst W) : True ∧ True ∧ True ∧ (Sx.oddF 10).p W ∧ (Sx.firstF 1).p W ∧ (Sx.oddF 3).p W ∧ (Sx.spansF 7 Sx.blanksL).p W ∧ (Sx.spansF 8 Sx.nothingL).p W ∧ (Sx.spansF 4 Sx.barredL).p W ∧ Sx.Forms 9 W := by
  rw [MakeChecks.laidMetH_plain _ _ _ (by kernel_rfl)] at h
  obtain ⟨ps, ⟨g0, t0, cs0, f0, p0, q0, hg0, ht0, hv0, hd0, ⟨g1, t1, cs1, f1, p1, q1, hg1, ht1, hv1, hd1, ⟨g2, t2, cs2, f2, p2, q2, hg2, ht2, hv2, hd2, ⟨g3, t3, cs3, f3, p3, q3, hg3, ht3, hv3, hd3, ⟨g4, t4, cs4, f4, p4, q4, hg4, ht4, hv4, hd4, ⟨g5, t5, cs5, f5, p5, q5, hg5, ht5, hv5, hd5, ⟨g6, t6, cs6, f6, p6, q6, hg6, ht6, hv6, hd6, ⟨g7, t7, cs7, f7, p7, q7, hg7, ht7, hv7, hd7, ⟨g8, t8, cs8, f8, p8, q8, hg8, ht8, hv8, hd8, ⟨g9, t9, cs9, f9, p9, q9, hg9, ht9, hv9, hd9, _, _⟩, _⟩, _⟩, _⟩, _⟩, _⟩, _⟩, _⟩, _⟩, _⟩, _, _⟩ := h
  obtain rfl := Option.some.inj ((show Tryz.prog.globalNamed "math/bits.deBruijn32tab" = some 5 by kernel_rfl).symm.trans hg0)
  obtain rfl := Option.some.inj ((show (Tryz.prog.globals[5]?).map (·.type) = some 272 by kernel_rfl).symm.trans ht0)
  have hc0 : ∀ i, W.cell? ⟨5, i, none⟩ = cs0[i]? := fun i => World.var?_cell hg0 hv0 i
  obtain rfl := Option.some.inj ((show Tryz.prog.globalNamed "math/bits.deBruijn64tab" = some 6 by kernel_rfl).symm.trans hg1)
  obtain rfl := Option.some.inj ((show (Tryz.prog.globals[6]?).map (·.type) = some 273 by kernel_rfl).symm.trans ht1)
  have hc1 : ∀ i, W.cell? ⟨6, i, none⟩ = cs1[i]? := fun i => World.var?_cell hg1 hv1 i
  obtain rfl := Option.some.inj ((show Tryz.prog.globalNamed "internal/strconv.uint64pow10" = some 2 by kernel_rfl).symm.trans hg2)
  obtain rfl := Option.some.inj ((show (Tryz.prog.globals[2]?).map (·.type) = some 227 by kernel_rfl).symm.trans ht2)
  have hc2 : ∀ i, W.cell? ⟨2, i, none⟩ = cs2[i]? := fun i => World.var?_cell hg2 hv2 i
  obtain rfl := Option.some.inj ((show Tryz.prog.globalNamed "ostiary/ostiaryref01.words" = some 10 by kernel_rfl).symm.trans hg3)
  obtain rfl := Option.some.inj ((show (Tryz.prog.globals[10]?).map (·.type) = some 245 by kernel_rfl).symm.trans ht3)
  have hc3 : ∀ i, W.cell? ⟨10, i, none⟩ = cs3[i]? := fun i => World.var?_cell hg3 hv3 i
  obtain rfl := Option.some.inj ((show Tryz.prog.globalNamed "ostiary/sha.first" = some 1 by kernel_rfl).symm.trans hg4)
  obtain rfl := Option.some.inj ((show (Tryz.prog.globals[1]?).map (·.type) = some 221 by kernel_rfl).symm.trans ht4)
  have hc4 : ∀ i, W.cell? ⟨1, i, none⟩ = cs4[i]? := fun i => World.var?_cell hg4 hv4 i
  obtain rfl := Option.some.inj ((show Tryz.prog.globalNamed "ostiary/sha.odd" = some 3 by kernel_rfl).symm.trans hg5)
  obtain rfl := Option.some.inj ((show (Tryz.prog.globals[3]?).map (·.type) = some 245 by kernel_rfl).symm.trans ht5)
  have hc5 : ∀ i, W.cell? ⟨3, i, none⟩ = cs5[i]? := fun i => World.var?_cell hg5 hv5 i
  obtain rfl := Option.some.inj ((show Tryz.prog.globalNamed "ostiary/name.blanks" = some 7 by kernel_rfl).symm.trans hg6)
  obtain rfl := Option.some.inj ((show (Tryz.prog.globals[7]?).map (·.type) = some 280 by kernel_rfl).symm.trans ht6)
  have hc6 : ∀ i, W.cell? ⟨7, i, none⟩ = cs6[i]? := fun i => World.var?_cell hg6 hv6 i
  obtain rfl := Option.some.inj ((show Tryz.prog.globalNamed "ostiary/name.nothing" = some 8 by kernel_rfl).symm.trans hg7)
  obtain rfl := Option.some.inj ((show (Tryz.prog.globals[8]?).map (·.type) = some 281 by kernel_rfl).symm.trans ht7)
  have hc7 : ∀ i, W.cell? ⟨8, i, none⟩ = cs7[i]? := fun i => World.var?_cell hg7 hv7 i
  obtain rfl := Option.some.inj ((show Tryz.prog.globalNamed "ostiary/name.barred" = some 4 by kernel_rfl).symm.trans hg8)
  obtain rfl := Option.some.inj ((show (Tryz.prog.globals[4]?).map (·.type) = some 268 by kernel_rfl).symm.trans ht8)
  have hc8 : ∀ i, W.cell? ⟨4, i, none⟩ = cs8[i]? := fun i => World.var?_cell hg8 hv8 i
  obtain rfl := Option.some.inj ((show Tryz.prog.globalNamed "ostiary/name.forms" = some 9 by kernel_rfl).symm.trans hg9)
  obtain rfl := Option.some.inj ((show (Tryz.prog.globals[9]?).map (·.type) = some 284 by kernel_rfl).symm.trans ht9)
  have hc9 : ∀ i, W.cell? ⟨9, i, none⟩ = cs9[i]? := fun i => World.var?_cell hg9 hv9 i
  have e3 : (Rows.laid_ostiary_ostiaryref01_words : DataW Unit) = .agg ((Sx.u32s Sha.K).map fun z => .lit (.int .u32 z)) := by kernel_rfl
  rw [e3] at hd3
  have e4 : (Rows.laid_ostiary_sha_first : DataW Unit) = .agg ((Sx.u32s Sha.first.l).map fun z => .lit (.int .u32 z)) := by kernel_rfl
  rw [e4] at hd4
  have e5 : (Rows.laid_ostiary_sha_odd : DataW Unit) = .agg ((Sx.u32s Sha.K).map fun z => .lit (.int .u32 z)) := by kernel_rfl
  rw [e5] at hd5
  exact ⟨trivial, trivial, trivial, Sx.rd_u32 (l := Sha.K) (Sx.rd_of_ints (P := Tryz.prog) (k := .u32) (n := 64) (e := 205) (zs := Sx.u32s Sha.K) (by kernel_rfl) (by kernel_rfl) (by kernel_rfl) hd3 hc3), Sx.rd_u32 (l := Sha.first.l) (Sx.rd_of_ints (P := Tryz.prog) (k := .u32) (n := 8) (e := 205) (zs := Sx.u32s Sha.first.l) (by kernel_rfl) (by kernel_rfl) (by kernel_rfl) hd4 hc4), Sx.rd_u32 (l := Sha.K) (Sx.rd_of_ints (P := Tryz.prog) (k := .u32) (n := 64) (e := 205) (zs := Sx.u32s Sha.K) (by kernel_rfl) (by kernel_rfl) (by kernel_rfl) hd5 hc5), Sx.rd_of_laid (P := Tryz.prog) (d := (Rows.laid_ostiary_name_blanks : DataW Unit)) (vs := Sx.blanksL.flatMap Sx.spanV) (by kernel_rfl) (by kernel_rfl) (by kernel_rfl) hd6 hc6, Sx.rd_of_laid (P := Tryz.prog) (d := (Rows.laid_ostiary_name_nothing : DataW Unit)) (vs := Sx.nothingL.flatMap Sx.spanV) (by kernel_rfl) (by kernel_rfl) (by kernel_rfl) hd7 hc7, Sx.rd_of_laid (P := Tryz.prog) (d := (Rows.laid_ostiary_name_barred : DataW Unit)) (vs := Sx.barredL.flatMap Sx.spanV) (by kernel_rfl) (by kernel_rfl) (by kernel_rfl) hd8 hc8, Sx.rd_of_laid (P := Tryz.prog) (d := (Rows.laid_ostiary_name_forms : DataW Unit)) (vs := Sx.formCells) (by kernel_rfl) (by kernel_rfl) (by kernel_rfl) hd9 hc9⟩
theorem walk (b0 : Bool) (n1 : Int) (a2 : Option Addr) (len2 cap2 : Nat) (w : World) (o0 : ∃ m, Sx.Opens Tryz.prog w m 4 (Value.cells (.bool b0)).toList) (o1 : ∃ m, Sx.Opens Tryz.prog w m 22 (Value.cells (.int .u64 n1)).toList) (o2 : ∃ m, Sx.Opens Tryz.prog w m 23 (Value.cells (.slice a2 len2 cap2)).toList) (h0t : True) (h1t : True) (h2t : True) (h3t : (Sx.oddF 10).p w) (h4t : (Sx.firstF 1).p w) (h5t : (Sx.oddF 3).p w) (h6t : (Sx.spansF 7 Sx.blanksL).p w) (h7t : (Sx.spansF 8 Sx.nothingL).p w) (h8t : (Sx.spansF 4 Sx.barredL).p w) (h9t : Sx.Forms 9 w) (hmlt : Sx.mlF.p w) :
    Calls Tryz.prog 3 #[.bool b0, .int .u64 n1, .slice a2 len2 cap2] w fun e w' => e = .returned (.bool true) ∧ Below w.heap.size w w' := by
  obtain ⟨m1, o1⟩ := o1
  obtain ⟨m2, o2⟩ := o2
  obtain ⟨x1, hx1, q1, _⟩ := o1.int (Sx.ok22.real (d := .int .u64) rfl rfl)
  simp only [Value.cells, List.cons.injEq, and_true] at hx1
  have q1 : 0 ≤ x1 := q1
  obtain ⟨y1, rfl⟩ : ∃ N : Nat, x1 = (N : Int) := ⟨x1.toNat, (Int.toNat_of_nonneg q1).symm⟩
  obtain ⟨ops, hol, hA, hin, hn⟩ := Sx.scriptT_of o2
  subst hol
  rw [hx1]
  refine Calls.mono (Sx.ticketPlays_c w b0 y1 a2 ops cap2 hA hin (by rw [Sx.maxLen_eq] at hn; exact hn) (Sx.mem_ro (Sx.ro_cons (Sx.rd_ok h5t) (Sx.ro_cons (Sx.rd_ok h4t) (Sx.ro_cons (Sx.rd_ok h3t) (Sx.ro_cons (Sx.ml_ok hmlt) (Sx.ro_cons (Sx.nam_ok h9t h6t h7t h8t) Sx.ro_nil))))))) ?_
  rintro e w' ⟨v, rfl, Fs, ⟨rfl, rfl⟩, hc, _⟩
  refine ⟨rfl, Sx.below_of ?_⟩
  rw [Sx.Un.nil] at hc
  exact hc

set_option maxRecDepth 100000 in
theorem lifted (os : Os) (started : os.Started) (H : Type) (enc : TypeId × Value → H) :
    ReturnsInHanded {} Tryz.checked os 3 .any (fun w args => (Rows.ticketPlaysSpec.pre enc Tryz.prog Tryz.f3 [] false w args ∧ laidMetH Tryz.prog lst w) ∧ sizedMet enc Tryz.prog Tryz.f3 (OpenSpec.ofChange Rows.ticketPlaysSpec) false w args)
      (Rows.ticketPlaysSpec.post enc Tryz.prog Tryz.f3 false true false false) := by
  refine Sx.handed_shaped (C := Tryz.checked) (X := fun w _ => laidMetH Tryz.prog lst w) (fun _ _ _ hh h => h.of_heap hh) own started (by kernel_rfl) Tryz.func3
    (ChangeSpec.witness_shaped (enc := enc) (C := Tryz.checked) (os := os) (X := fun w _ => laidMetH Tryz.prog lst w) false (World.doorLaid Tryz.prog 83 os) #[.bool false, .int .u64 0, .slice none 0 0] 8 rfl (World.shaped_of_RefB (by kernel_rfl) (by kernel_rfl)) (by kernel_rfl) (by kernel_rfl) (by kernel_rfl) (door_met os _)) ?_
  intro W base args ds gs before hval0 hW hL hsh
  have hval : ∀ (j : Nat) t v, Tryz.f3.params[j]? = some t → args[j]? = some v → Value.okWide Tryz.prog W .any base t v := hval0
  have hW' := hW
  obtain ⟨p, q, hA0, hV, rfl, hfz, hnd⟩ := hW
  have hA : DataW.TrodAll enc Tryz.prog W 0 (fun _ => true) true Tryz.f3.params.toList args.toList ds p := hA0
  rw [Tryz.params3] at hA hval
  obtain ⟨v0, vs0, d0, ds0, p0, q0, hargs, rfl, rfl, h0, r0⟩ := trodAll_cons hA
  obtain ⟨v1, vs1, d1, ds1, p1, q1, rfl, rfl, rfl, h1, r1⟩ := trodAll_cons r0
  obtain ⟨v2, vs2, d2, ds2, p2, q2, rfl, rfl, rfl, h2, r2⟩ := trodAll_cons r1
  obtain ⟨rfl, rfl, rfl⟩ := trodAll_nil r2
  obtain rfl : args = #[v0, v1, v2] := by cases args; simp_all
  obtain ⟨rfl, rfl⟩ := trodVars_none hV
  obtain ⟨b0, rfl⟩ := okWide_bool Tryz.underlying4 (hval 0 4 v0 rfl rfl)
  have k0 := h0
  have lt0 : ∀ x ∈ p0, x.block < W.heap.size := by obtain ⟨m, hm⟩ := k0; exact DataW.trod_lt m _ _ _ hm
  have o0 : ∃ m, Sx.Opens Tryz.prog W m 4 (Value.cells (.bool b0)).toList := by obtain ⟨m, hm⟩ := k0; exact ⟨m, Sx.opens_of m _ _ _ hm⟩
  obtain ⟨n1, rfl⟩ := okWide_int Tryz.underlying22 (hval 1 22 v1 rfl rfl)
  have k1 := h1
  have lt1 : ∀ x ∈ p1, x.block < W.heap.size := by obtain ⟨m, hm⟩ := k1; exact DataW.trod_lt m _ _ _ hm
  have o1 : ∃ m, Sx.Opens Tryz.prog W m 22 (Value.cells (.int .u64 n1)).toList := by obtain ⟨m, hm⟩ := k1; exact ⟨m, Sx.opens_of m _ _ _ hm⟩
  obtain ⟨a2, len2, cap2, rfl⟩ := okWide_slice Tryz.underlying23 (hval 2 23 v2 rfl rfl)
  have k2 := h2
  have lt2 : ∀ x ∈ p2, x.block < W.heap.size := by obtain ⟨m, hm⟩ := k2; exact DataW.trod_lt m _ _ _ hm
  have o2 : ∃ m, Sx.Opens Tryz.prog W m 23 (Value.cells (.slice a2 len2 cap2)).toList := by obtain ⟨m, hm⟩ := k2; exact ⟨m, Sx.opens_of m _ _ _ hm⟩
  obtain ⟨l0t, l1t, l2t, l3t, l4t, l5t, l6t, l7t, l8t, l9t⟩ := of_laid hL
  clear hA0 hval0
  have lml := Sx.ml_of hsh
  refine (walk b0 n1 a2 len2 cap2 W o0 o1 o2 l0t l1t l2t l3t l4t l5t l6t l7t l8t l9t lml).mono fun e W' ⟨he, bel⟩ => ?_
  subst he
  exact ⟨_, rfl, _, _, _, [], _, [], hW', trodAll_mk1 (shut_bool Tryz.underlying4 _), (trodAll_cons_mk (Below.trod laidOut (by kernel_rfl) (of_decide_eq_true (by kernel_rfl)) k0 bel lt0) (trodAll_cons_mk (Below.trod laidOut (by kernel_rfl) (of_decide_eq_true (by kernel_rfl)) k1 bel lt1) (trodAll_cons_mk (Below.trod laidOut (by kernel_rfl) (of_decide_eq_true (by kernel_rfl)) k2 bel lt2) trodAll_mk0))), rfl, bel.frame _, fun h => by cases h⟩

end Go.Proofs.YtfomhhkoamapmaaGreatDoor.ticketPlays
