/- Bytes that come in any parts are the document's frames, at each step: FrameReads returns true for every input, and changes nothing that was there. Condition: none beyond the statement. -/
import Derived.Test.YtlbnmjjbjjmifaaLawR
import Derived.Test.YtlbnmjjbjjmifaaSxOpen
import Derived.Test.YtlbnmjjbjjmifaaSxArg
import Derived.Test.YtlbnmjjbjjmifaaRows
import Derived.WalkKit
import Derived.ProofKit
import Derived.OpenShut
import Derived.ShutString
import Derived.ChangeOld
import Derived.Below
namespace Go.Proofs.Ytlbnmjjbjjmifaa.frameReads
open Go.ChangeShapes Go.WideShapes Go.ChangeAt Go.RowKit
set_option linter.unusedVariables false

theorem own : ownKnob Try.prog.godebug = none := by kernel_rfl
theorem laidOut : laidOutB Try.prog = true := by kernel_rfl

theorem walk (b0 : Bool) (a1 : Option Addr) (len1 cap1 : Nat) (w : World) (o0 : ∃ m, Sx.Opens Try.prog w m 4 (Value.cells (.bool b0)).toList) (o1 : ∃ m, Sx.Opens Try.prog w m 52 (Value.cells (.slice a1 len1 cap1)).toList) :
    Calls Try.prog 6 #[.bool b0, .slice a1 len1 cap1] w fun e w' => e = .returned (.bool true) ∧ Below w.heap.size w w' := by
  obtain ⟨m, ho⟩ := o1
  obtain ⟨A, n, c, xs, m2, hcs, h1, h2, hxl, hnil, hlen, hr, hx⟩ := ho.slice (Sx.ok52.real (d := .slice 57) rfl rfl)
  simp only [Value.cells, List.cons.injEq, and_true] at hcs
  injection hcs with e1 e2 e3
  subst e1 e2 e3
  have c57 : Try.prog.cellsOf 57 = 3 := by kernel_rfl
  have c5 : Try.prog.cellsOf 5 = 1 := by kernel_rfl
  have c22 : Try.prog.cellsOf 22 = 1 := by kernel_rfl
  obtain ⟨ops, hol, hfl, hok⟩ := Sx.list_choose (f := Sx.OpR.cells) (p := Sx.OpR.ok w) (xs := xs) (fun x hxm => by
    obtain ⟨m3, hl, hf⟩ := (hx x hxm).structT Sx.ok57 rfl
    have f0 := hf 0 0 1 5 rfl rfl
    have f1 := hf 1 1 1 22 rfl rfl
    have f2 := hf 2 2 1 5 rfl rfl
    rw [c57] at hl
    rw [c5] at f0 f2
    rw [c22] at f1
    obtain ⟨x0, x1, x2, rfl⟩ : ∃ x0 x1 x2, x = [x0, x1, x2] := by
      match x, hl with
      | [x0, x1, x2], _ => exact ⟨x0, x1, x2, rfl⟩
    obtain ⟨d, hd⟩ := f0.u8 (Sx.ok5.real (d := .int .u8) rfl rfl)
    obtain ⟨B, p, cp, hp, h3, h4, hb⟩ := f1.bytes (Sx.ok22.real (d := .slice 5) rfl rfl) (Sx.ok5.real (d := .int .u8) rfl rfl) c5
    obtain ⟨k, hk⟩ := f2.u8 (Sx.ok5.real (d := .int .u8) rfl rfl)
    simp at hd hp hk
    subst hd hp hk
    exact ⟨⟨d, B, p, cp, k⟩, rfl, hb, h3⟩)
  rw [c57, hfl] at hr
  rw [← hxl, ← hol] at hr h1 ⊢
  refine (Sx.frameReads_c w b0 a1 cap1 ops hr hok (by have : ops.length ≤ maxLen := Nat.le_trans h1 h2; rw [Sx.maxLen_eq] at this; exact this)).mono ?_
  rintro e w' ⟨v, rfl, rfl, hc⟩
  exact ⟨rfl, Sx.below_of hc⟩

set_option maxRecDepth 100000 in
theorem lifted (os : Os) (started : os.Started) (H : Type) (enc : TypeId × Value → H) :
    ReturnsInHanded {} Try.checked os 6 .any (Rows.frameReadsSpec.pre6 enc Try.prog Try.f6 Rows.frameReadsRow.domain false) (Rows.frameReadsSpec.post enc Try.prog Try.f6 false true false false) := by
  refine returnsInHanded_of_change (C := Try.checked) own started (by kernel_rfl) Try.func6
    (ChangeSpec.witness6 (enc := enc) (C := Try.checked) false ⟨#[], #[.bool false, .slice none 0 0], []⟩ 8 (by kernel_rfl) (by kernel_rfl) (by kernel_rfl) (by kernel_rfl)) ?_
  intro W base args ds gs before hval0 hW hcnd _
  have hval : ∀ (j : Nat) t v, Try.f6.params[j]? = some t → args[j]? = some v → Value.okWide Try.prog W .any base t v := hval0
  have hW' := hW
  obtain ⟨p, q, hA0, hV, rfl, hfz, hnd⟩ := hW
  have hA : DataW.TrodAll enc Try.prog W 0 (fun _ => true) true Try.f6.params.toList args.toList ds p := hA0
  rw [Try.params6] at hA hval
  obtain ⟨v0, vs0, d0, ds0, p0, q0, hargs, rfl, rfl, h0, r0⟩ := trodAll_cons hA
  obtain ⟨v1, vs1, d1, ds1, p1, q1, rfl, rfl, rfl, h1, r1⟩ := trodAll_cons r0
  obtain ⟨rfl, rfl, rfl⟩ := trodAll_nil r1
  obtain rfl : args = #[v0, v1] := by cases args; simp_all
  obtain ⟨rfl, rfl⟩ := trodVars_none hV
  obtain ⟨b0, rfl⟩ := okWide_bool Try.underlying4 (hval 0 4 v0 rfl rfl)
  have k0 := h0
  have lt0 : ∀ x ∈ p0, x.block < W.heap.size := by obtain ⟨m, hm⟩ := k0; exact DataW.trod_lt m _ _ _ hm
  have o0 : ∃ m, Sx.Opens Try.prog W m 4 (Value.cells (.bool b0)).toList := by obtain ⟨m, hm⟩ := k0; exact ⟨m, Sx.opens_of m _ _ _ hm⟩
  obtain ⟨a1, len1, cap1, rfl⟩ := okWide_slice Try.underlying52 (hval 1 52 v1 rfl rfl)
  have k1 := h1
  have lt1 : ∀ x ∈ p1, x.block < W.heap.size := by obtain ⟨m, hm⟩ := k1; exact DataW.trod_lt m _ _ _ hm
  have o1 : ∃ m, Sx.Opens Try.prog W m 52 (Value.cells (.slice a1 len1 cap1)).toList := by obtain ⟨m, hm⟩ := k1; exact ⟨m, Sx.opens_of m _ _ _ hm⟩
  clear hA0 hval0
  refine (walk b0 a1 len1 cap1 W o0 o1).mono fun e W' ⟨he, bel⟩ => ?_
  subst he
  exact ⟨_, rfl, _, _, _, [], _, [], hW', trodAll_mk1 (shut_bool Try.underlying4 _), (trodAll_cons_mk (Below.trod laidOut (by kernel_rfl) (of_decide_eq_true (by kernel_rfl)) k0 bel lt0) (trodAll_cons_mk (Below.trod laidOut (by kernel_rfl) (of_decide_eq_true (by kernel_rfl)) k1 bel lt1) trodAll_mk0)), rfl, bel.frame _, fun h => by cases h⟩

theorem over : Rows.frameReadsRow.holds Try.pinned (OpenSpec.ofChange Rows.frameReadsSpec) :=
  OpenClaim.holds_of_wide 6 Try.f6 rfl rfl rfl rfl rfl rfl rfl ⟨rfl, rfl, rfl, rfl, rfl⟩ rfl rfl rfl rfl rfl (by kernel_rfl) Try.func6 (by kernel_rfl)
    (of_decide_eq_true (by kernel_rfl)) (by unfold Func.isWrapper; first | (rw [if_pos (by decide +kernel)]; kernel_rfl) | (rw [if_neg (by decide +kernel)]; exact ⟨rfl, rfl⟩))
    (fun os started H enc _ => lifted os started H enc)

theorem proved : Rows.FrameReadsSaid := over
#print axioms proved
end Go.Proofs.Ytlbnmjjbjjmifaa.frameReads
