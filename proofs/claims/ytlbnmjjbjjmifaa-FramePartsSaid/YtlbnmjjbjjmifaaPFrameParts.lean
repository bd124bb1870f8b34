/- In whatever parts the bytes of frames come, just these frames are told, in order: FrameParts returns true for every input, and changes nothing that was there. Condition: none beyond the statement. -/
import Derived.Test.YtlbnmjjbjjmifaaLawP
import Derived.Test.YtlbnmjjbjjmifaaSxOpen
import Derived.Test.YtlbnmjjbjjmifaaSxArg
import Derived.Test.YtlbnmjjbjjmifaaRows
import Derived.WalkKit
import Derived.ProofKit
import Derived.OpenShut
import Derived.ShutString
import Derived.ChangeOld
import Derived.Below
namespace Go.Proofs.Ytlbnmjjbjjmifaa.frameParts
open Go.ChangeShapes Go.WideShapes Go.ChangeAt Go.RowKit
set_option linter.unusedVariables false

theorem own : ownKnob Try.prog.godebug = none := by kernel_rfl
theorem laidOut : laidOutB Try.prog = true := by kernel_rfl

theorem walk (a0 : Option Addr) (len0 cap0 : Nat) (a1 : Option Addr) (len1 cap1 : Nat) (w : World) (o0 : ∃ m, Sx.Opens Try.prog w m 65 (Value.cells (.slice a0 len0 cap0)).toList) (o1 : ∃ m, Sx.Opens Try.prog w m 22 (Value.cells (.slice a1 len1 cap1)).toList) :
    Calls Try.prog 7 #[.slice a0 len0 cap0, .slice a1 len1 cap1] w fun e w' => e = .returned (.bool true) ∧ Below w.heap.size w w' := by
  obtain ⟨m, ho⟩ := o0
  obtain ⟨m', ho'⟩ := o1
  obtain ⟨A, n, c, xs, m2, hcs, h1, h2, hxl, hnil, hlen, hr, hx⟩ := ho.slice (Sx.ok65.real (d := .slice 22) rfl rfl)
  simp only [Value.cells, List.cons.injEq, and_true] at hcs
  injection hcs with e1 e2 e3
  subst e1 e2 e3
  have c5 : Try.prog.cellsOf 5 = 1 := by kernel_rfl
  have c22 : Try.prog.cellsOf 22 = 1 := by kernel_rfl
  obtain ⟨bs, hol, hfl, hok⟩ := Sx.list_choose (f := fun b => [Sx.Bf.cell b]) (p := Sx.Bf.ok w) (xs := xs) (fun x hxm => by
    obtain ⟨B, p, cp, hp, h3, h4, hb⟩ := (hx x hxm).bytes (Sx.ok22.real (d := .slice 5) rfl rfl) (Sx.ok5.real (d := .int .u8) rfl rfl) c5
    subst hp
    exact ⟨⟨B, p, cp⟩, rfl, hb, h3⟩)
  obtain ⟨B, cuts, cc, hcs2, h5, h6, hC⟩ := ho'.bytes (Sx.ok22.real (d := .slice 5) rfl rfl) (Sx.ok5.real (d := .int .u8) rfl rfl) c5
  simp only [Value.cells, List.cons.injEq, and_true] at hcs2
  injection hcs2 with e1 e2 e3
  subst e1 e2 e3
  rw [c22, hfl, Sx.flat_one Sx.Bf.cell] at hr
  rw [← hxl, ← hol] at hr h1 ⊢
  have hml := Sx.maxLen_eq
  refine (Sx.frameParts_c w a0 cap0 bs hr hok (by omega) a1 cuts cap1 hC (by omega)).mono ?_
  rintro e w' ⟨v, rfl, rfl, hc⟩
  exact ⟨rfl, Sx.below_of hc⟩

set_option maxRecDepth 100000 in
theorem lifted (os : Os) (started : os.Started) (H : Type) (enc : TypeId × Value → H) :
    ReturnsInHanded {} Try.checked os 7 .any (Rows.framePartsSpec.pre6 enc Try.prog Try.f7 Rows.framePartsRow.domain false) (Rows.framePartsSpec.post enc Try.prog Try.f7 false true false false) := by
  refine returnsInHanded_of_change (C := Try.checked) own started (by kernel_rfl) Try.func7
    (ChangeSpec.witness6 (enc := enc) (C := Try.checked) false ⟨#[], #[.slice none 0 0, .slice none 0 0], []⟩ 8 (by kernel_rfl) (by kernel_rfl) (by kernel_rfl) (by kernel_rfl)) ?_
  intro W base args ds gs before hval0 hW hcnd _
  have hval : ∀ (j : Nat) t v, Try.f7.params[j]? = some t → args[j]? = some v → Value.okWide Try.prog W .any base t v := hval0
  have hW' := hW
  obtain ⟨p, q, hA0, hV, rfl, hfz, hnd⟩ := hW
  have hA : DataW.TrodAll enc Try.prog W 0 (fun _ => true) true Try.f7.params.toList args.toList ds p := hA0
  rw [Try.params7] at hA hval
  obtain ⟨v0, vs0, d0, ds0, p0, q0, hargs, rfl, rfl, h0, r0⟩ := trodAll_cons hA
  obtain ⟨v1, vs1, d1, ds1, p1, q1, rfl, rfl, rfl, h1, r1⟩ := trodAll_cons r0
  obtain ⟨rfl, rfl, rfl⟩ := trodAll_nil r1
  obtain rfl : args = #[v0, v1] := by cases args; simp_all
  obtain ⟨rfl, rfl⟩ := trodVars_none hV
  obtain ⟨a0, len0, cap0, rfl⟩ := okWide_slice Try.underlying65 (hval 0 65 v0 rfl rfl)
  have k0 := h0
  have lt0 : ∀ x ∈ p0, x.block < W.heap.size := by obtain ⟨m, hm⟩ := k0; exact DataW.trod_lt m _ _ _ hm
  have o0 : ∃ m, Sx.Opens Try.prog W m 65 (Value.cells (.slice a0 len0 cap0)).toList := by obtain ⟨m, hm⟩ := k0; exact ⟨m, Sx.opens_of m _ _ _ hm⟩
  obtain ⟨a1, len1, cap1, rfl⟩ := okWide_slice Try.underlying22 (hval 1 22 v1 rfl rfl)
  have k1 := h1
  have lt1 : ∀ x ∈ p1, x.block < W.heap.size := by obtain ⟨m, hm⟩ := k1; exact DataW.trod_lt m _ _ _ hm
  have o1 : ∃ m, Sx.Opens Try.prog W m 22 (Value.cells (.slice a1 len1 cap1)).toList := by obtain ⟨m, hm⟩ := k1; exact ⟨m, Sx.opens_of m _ _ _ hm⟩
  clear hA0 hval0
  refine (walk a0 len0 cap0 a1 len1 cap1 W o0 o1).mono fun e W' ⟨he, bel⟩ => ?_
  subst he
  exact ⟨_, rfl, _, _, _, [], _, [], hW', trodAll_mk1 (shut_bool Try.underlying4 _), (trodAll_cons_mk (Below.trod laidOut (by kernel_rfl) (of_decide_eq_true (by kernel_rfl)) k0 bel lt0) (trodAll_cons_mk (Below.trod laidOut (by kernel_rfl) (of_decide_eq_true (by kernel_rfl)) k1 bel lt1) trodAll_mk0)), rfl, bel.frame _, fun h => by cases h⟩

theorem over : Rows.framePartsRow.holds Try.pinned (OpenSpec.ofChange Rows.framePartsSpec) :=
  OpenClaim.holds_of_wide 7 Try.f7 rfl rfl rfl rfl rfl rfl rfl ⟨rfl, rfl, rfl, rfl, rfl⟩ rfl rfl rfl rfl rfl (by kernel_rfl) Try.func7 (by kernel_rfl)
    (of_decide_eq_true (by kernel_rfl)) (by unfold Func.isWrapper; first | (rw [if_pos (by decide +kernel)]; kernel_rfl) | (rw [if_neg (by decide +kernel)]; exact ⟨rfl, rfl⟩))
    (fun os started H enc _ => lifted os started H enc)

theorem proved : Rows.FramePartsSaid := over
#print axioms proved
end Go.Proofs.Ytlbnmjjbjjmifaa.frameParts
