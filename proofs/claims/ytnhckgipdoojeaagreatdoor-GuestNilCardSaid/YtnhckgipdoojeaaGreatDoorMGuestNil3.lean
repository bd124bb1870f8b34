/- Texts joined: Gn3, Gn4, SxTri, SxTriL, SxGo, Gn5, Box1, Gn6, Gn7, TabR, Tabs, RHx, SxIter, KyI, ColI, SrU, SrU2, FmU, Dec, Rl5, Rl7, Rm3, Rm4, Tb2, SxArg, Laid, Laid2. -/
import Derived.Test.YtnhckgipdoojeaaGreatDoorMGuestNil2
import Derived.Maps.RangeRun
import Derived.Lib.LaidTab
import Derived.Test.YtnhckgipdoojeaaGreatDoorMGuestNil1
import Derived.Below
import Derived.OpenShut
import Derived.ChangeArms
import Derived.LaidMore
set_option linter.unusedVariables false
set_option linter.unusedSimpArgs false
namespace Go.Proofs.YtnhckgipdoojeaaGreatDoor.Sx
open Go
attribute [local irreducible] Calls
theorem exts0_c (w : World) (c : Nat) : Pu Tryz.prog n_scram_extensions #[.slice none 0 c] w (.string (mkS [])) := by
  have g := good_scram_extensions w (Un [])
  refine con_of_sx (cx := cx_scram_extensions w (Un [])) g b_scram_extensions rfl rfl (β := Va.z) [.c (.v (.slice none 0 c))] 0 [] [] rfl rfl (Sat.start rfl) ?_
  refine reify_rule g 0 (fun _ => [.pointer none, .slice none 0 0]) rfl rfl (fun _ => rfl) (fun b => ?_)
  refine loop_rule 1 (fun _ : Unit => [(6, .c (.v (.slice none 0 c))), (7, .c (.v (.int .i64 0))), (8, .c (.v (.int .i64 0))), (3, .c (.v (selfV b)))]) (fun _ => []) (fun _ => [bkF b ty_strings_Builder [.pointer none, .slice none 0 0]]) (fun _ => True) (fun _ => 0) () trivial (Ent.mk' ⟨rfl, rfl, rfl, rfl, trivial⟩ rfl (fun β w' hs => hs)) g ?_
  rintro ⟨⟩ -
  refine call_con [0] (fun β w' hs => text0_c w' b (.pointer none) 0 (hs.mem.take (js := [0]) rfl)) ?_
  rintro v Fs ⟨rfl, rfl⟩
  intro β w' hs
  exact (hs.keepB (List.nil_sublist _)).fin [] ⟨rfl, rfl⟩
theorem extd0_c (w : World) (c : Nat) (no : ByteArray) : Pu Tryz.prog n_scram_extended #[.slice none 0 c, .string no] w (.bool true) := by
  have g := good_scram_extended w (Un [])
  refine con_of_sx (cx := cx_scram_extended w (Un [])) g b_scram_extended rfl rfl (β := Va.z) [.c (.v (.slice none 0 c)), .c (.v (.string no))] 0 [] [] rfl rfl (Sat.start rfl) ?_
  refine loop_rule 0 (fun _ : Unit => [(7, .c (.v (.slice none 0 c))), (8, .c (.v (.int .i64 0))), (9, .c (.v (.int .i64 0)))]) (fun _ => []) (fun _ => []) (fun _ => True) (fun _ => 0) () trivial (Ent.same ⟨rfl, rfl, rfl, trivial⟩ rfl) g ?_
  rintro ⟨⟩ -
  intro β w' hs
  exact (hs.keepB (List.nil_sublist _)).fin [] ⟨rfl, rfl⟩
def fstV (u n : List UInt8) : Value := .agg #[.string (mkS [110]), .string (mkS []), .string (mkS u), .string (mkS n), .slice none 0 0]
def fstS (u n : List UInt8) : SV := .agg [.v (.string (mkS [110])), .v (.string (mkS [])), .v (.string (mkS u)), .v (.string (mkS n)), .v (.slice none 0 0)]
def bareL (u n : List UInt8) : List UInt8 := [110, 61] ++ escL u ++ [44, 114, 61] ++ n
def fstL (u n : List UInt8) : List UInt8 := [110, 44, 44] ++ bareL u n
theorem fHead_c (w : World) (u n : List UInt8) : Pu Tryz.prog n_scram_First_Head #[fstV u n] w (.string (mkS [110, 44, 44])) := by
  have g := good_scram_First_Head w (Un [])
  refine con_of_sx (cx := cx_scram_First_Head w (Un [])) g b_scram_First_Head rfl rfl (β := Va.z) [fstS u n] 0 [] [] rfl rfl (Sat.start rfl) ?_
  refine ⟨by first | decide | omega, ?_⟩
  refine ⟨by first | decide | omega, ?_⟩
  refine ⟨by first | decide | omega, ?_⟩
  intro β w' hs
  exact (hs.keepB (List.nil_sublist _)).fin [] ⟨rfl, rfl⟩
theorem fBare_c (w : World) (u n : List UInt8) (hu : u.length ≤ 100000) (hn : n.length ≤ 100000) : Pu Tryz.prog n_scram_First_bare #[fstV u n] w (.string (mkS (bareL u n))) := by
  have g := good_scram_First_bare w (Un [])
  have hml := maxLen_eq
  have he := (escL_len u).2
  have hS : ∀ l : List UInt8, (mkS l).size = l.length := fun l => by simp [mkS, ByteArray.size]
  refine con_of_sx (cx := cx_scram_First_bare w (Un [])) g b_scram_First_bare rfl rfl (β := Va.z) [fstS u n] 0 [] [] rfl rfl (Sat.start rfl) ?_
  refine draw_rule g p_scram_First_bare_1 (by kernel_rfl) [⟨0, ty_scram_First, [.v (.string (mkS [110])), .v (.string (mkS [])), .v (.string (mkS u)), .v (.string (mkS n)), .v (.slice none 0 0)]⟩] [] Sub.refl ?_
  refine call_pu (fun β w' hs => escape_c w' u hu) ?_
  refine ⟨subPerm [], ?_⟩
  refine ⟨by rw [hS]; show 2 + _ ≤ _; omega, ?_⟩
  refine ⟨by rw [sz_app, hS]; show 2 + (escL u).length + 3 ≤ maxLen; omega, ?_⟩
  refine ⟨by rw [sz_app, sz_app, hS, hS]; show 2 + (escL u).length + 3 + n.length ≤ maxLen; omega, ?_⟩
  refine call_pu (fun β w' hs => exts0_c w' 0) ?_
  refine ⟨subPerm [], ?_⟩
  refine ⟨by rw [sz_app, sz_app, sz_app, hS, hS]; show 2 + (escL u).length + 3 + n.length + 0 ≤ maxLen; omega, ?_⟩
  intro β w' hs
  refine (hs.keepB (List.nil_sublist _)).fin [] ⟨congrArg Value.string (ByteArray.ext ?_), rfl⟩
  simp [mkS, bareL]
theorem fRight_c (w : World) (u n : List UInt8) (hu : u.length ≤ 30000) (hn : n.length ≤ 100000) (hf : Forms 6 w) : Pu Tryz.prog n_scram_First_right #[fstV u n] w (.bool (valB (escL u) && nonB n)) := by
  have g := good_scram_First_right w (Un [])
  have he := (escL_len u).2
  refine con_of_sx (cx := cx_scram_First_right w (Un [])) g b_scram_First_right rfl rfl (β := Va.z) [fstS u n] 0 [] [oldF w] rfl rfl (old_sat rfl) ?_
  refine call_pu (fun β w' hs => escape_c w' u (by omega)) ?_
  refine call_pu (fun β w' hs => value_c w' (escL u) (by omega) (Forms.old hf (hs.get 0 rfl))) ?_
  have no : (valB (escL u) && nonB n) = false → ∀ {k : Nat} {H : List Bk} {F : List Fact} (β : Va) (w' : World), Sat (cx_scram_First_right w (Un [])) β k H F w' → Fin w [] (fun v Fs => v = .bool (valB (escL u) && nonB n) ∧ Fs = []) (.bool false) w' := by
    intro h k H F β w' hs
    rw [h]
    exact (hs.keepB (List.nil_sublist _)).fin [] ⟨rfl, rfl⟩
  generalize valB (escL u) = b1 at *
  cases b1 with
  | false => exact no rfl
  | true =>
    refine call_pu (fun β w' hs => nonce_c w' n hn) ?_
    generalize nonB n = b2 at *
    cases b2 with
    | false => exact no rfl
    | true =>
      refine call_pu (fun β w' hs => extd0_c w' 0 (mkS [])) ?_
      intro β w' hs
      exact (hs.keepB (List.nil_sublist _)).fin [] ⟨rfl, rfl⟩
theorem fText_c (w : World) (u n : List UInt8) (hu : u.length ≤ 30000) (hn : n.length ≤ 100000) (hf : Forms 6 w) : Pu Tryz.prog n_scram_First_Text #[fstV u n] w (.tuple #[.string (if valB (escL u) && nonB n then if (fstL u n).length ≤ 4096 then mkS (fstL u n) else mkS [] else mkS []), .int .i64 (if valB (escL u) && nonB n then if (fstL u n).length ≤ 4096 then 0 else 3 else 4)]) := by
  have g := good_scram_First_Text w (Un [])
  have hml := maxLen_eq
  have he := (escL_len u).2
  have hS : ∀ l : List UInt8, (mkS l).size = l.length := fun l => by simp [mkS, ByteArray.size]
  refine con_of_sx (cx := cx_scram_First_Text w (Un [])) g b_scram_First_Text rfl rfl (β := Va.z) [fstS u n] 0 [] [oldF w] rfl rfl (old_sat rfl) ?_
  refine draw_rule g p_scram_First_Text_1 (by kernel_rfl) [⟨0, ty_scram_First, [.v (.string (mkS [110])), .v (.string (mkS [])), .v (.string (mkS u)), .v (.string (mkS n)), .v (.slice none 0 0)]⟩] [oldF w] Sub.refl ?_
  refine call_pu (fun β w' hs => fHead_c w' u n) ?_
  refine ⟨subPerm [0], ?_⟩
  refine call_pu (fun β w' hs => fBare_c w' u n (by omega) hn) ?_
  refine ⟨subPerm [0], ?_⟩
  have hbl : (bareL u n).length = 2 + (escL u).length + 3 + n.length := by simp [bareL]; omega
  refine ⟨by rw [hS, hS, hbl]; show 3 + _ ≤ _; omega, ?_⟩
  refine call_pu (fun β w' hs => fRight_c w' u n hu hn (Forms.old hf (hs.get 0 rfl))) ?_
  have e : mkS [110, 44, 44] ++ mkS (bareL u n) = mkS (fstL u n) := ByteArray.ext (by simp [mkS, fstL])
  rw [e]
  refine ⟨subPerm [0], ?_⟩
  refine call_pu (fun β w' hs => sizedS_c w' (fstL u n) (valB (escL u) && nonB n)) ?_
  refine ⟨subPerm [0], ?_⟩
  intro β w' hs
  exact (hs.keepB (List.nil_sublist _)).fin [] ⟨rfl, rfl⟩
theorem frKind_c (w : World) (k : UInt8) (hk : 1 ≤ k.toNat ∧ k.toNat ≤ 15) : Pu Tryz.prog n_frame_kind #[byte k] w (.bool true) := by
  have g := good_frame_kind w (Un [])
  refine con_of_sx (cx := cx_frame_kind w (Un [])) g b_frame_kind rfl rfl (β := Va.z) [.c (.v (byte k))] 0 [] [] rfl rfl (Sat.start rfl) ?_
  refine BIf.dec (fun h => ?_) (fun h => ?_)
  · intro β w' hs
    refine hs.fin [] ⟨?_, rfl⟩
    show Value.bool (decide (((k.toNat : Nat) : Int) ≤ 15)) = _
    rw [decide_eq_true (by omega)]
  · have h0 : ¬ (1 : Int) ≤ k.toNat := h
    omega
def frL (k : UInt8) (l : List UInt8) : List UInt8 := [k, UInt8.ofNat (l.length / 256), UInt8.ofNat (l.length % 256)] ++ l
theorem packG_c (w : World) (k : UInt8) (A : Option Addr) (l : List UInt8) (c : Nat) (hr : Bs w A l) (hn : l.length ≤ 2048) (hk : 1 ≤ k.toNat ∧ k.toNat ≤ 15) :
    Con Tryz.prog n_frame_Pack #[.agg #[byte k, .slice A l.length c]] w [] fun v Fs => ∃ A' c', v = .tuple #[.slice A' (frL k l).length c', .int .i64 0] ∧ (frL k l).length ≤ c' ∧ Fs = [browF ty_uint8 A' (frL k l) c'] := by
  have g := good_frame_Pack w (Un [])
  have hml := maxLen_eq
  refine con_of_sx (cx := cx_frame_Pack w (Un [])) g b_frame_Pack rfl rfl (β := Va.z) [.agg [.v (byte k), .v (.slice A l.length c)]] 0 [] [oldF w] rfl rfl (old_sat rfl) ?_
  refine call_pu (fun β w' hs => frKind_c w' k hk) ?_
  refine BIf.dec (fun h => ?_) (fun h => ?_)
  · have h0 : (2048 : Int) < l.length := h
    omega
  refine ⟨by decide, ((l.length / 256 : Nat) : Int), by show Int.fdiv _ (2 ^ 8) = _; rw [Int.fdiv_eq_ediv_of_nonneg _ (by decide)]; omega, ?_⟩
  refine ⟨((l.length / 256 : Nat) : Int), by rw [wrap_u8]; omega, ?_⟩
  refine ⟨((l.length % 256 : Nat) : Int), by rw [wrap_u8]; omega, ?_⟩
  intro b
  refine ⟨0, 3, 3 + l.length, _, l.map byte, _, rfl, fun β w' hs => Rd.old hr (hs.get 1 rfl), bytes_one l, rfl, rfl, by omega, by show (3 + l.length) * 1 ≤ _; omega, ?_⟩
  intro A' c' h1 h2 h3 β w' hs
  have hl : (frL k l).length = 3 + l.length := by simp [frL]; omega
  refine hs.fin [0] ⟨A', c', by rw [hl]; rfl, by rw [hl]; exact h1, ?_⟩
  rw [browF, hl]
  simp only [frL, List.map_append, List.map_cons, List.map_nil, byte_ofNat _ (show l.length / 256 < 256 by omega), byte_ofNat _ (Nat.mod_lt l.length (by omega : 0 < 256))]
  rfl
def gstL (B : Value) (t u p : List UInt8) (st : Int) (f : List Value) : List Value := [B, .string (mkS t), .string (mkS u), .string (mkS []), .string (mkS p), .int .i64 st] ++ f ++ [.slice none 0 0, .string (mkS []), .string (mkS []), .bool false, .string (mkS []), .slice none 0 0, .int .i64 0]
def fst0 : List Value := [.string (mkS []), .string (mkS []), .string (mkS []), .string (mkS []), .slice none 0 0]
def fst1 (u n : List UInt8) : List Value := [.string (mkS [110]), .string (mkS []), .string (mkS u), .string (mkS n), .slice none 0 0]
def gstF (g : Nat) (B : Value) (t u p : List UInt8) (st : Int) (f : List Value) : Fact := bkF g ty_guest_Guest (gstL B t u p st f)
def ptrG (g : Nat) : Value := .pointer (some ⟨g, 0, none⟩)
theorem bk_oldG {W w : World} {b ty : Nat} {cs : List Value} (h : (bkF b ty cs).p W) (ho : (oldF W).p w) : (bkF b ty cs).p w :=
  (ho b (Array.getElem?_eq_some_iff.1 (show W.heap[b]? = some _ from h)).1).trans h
theorem cell_bkG {b ty : Nat} {cs : List Value} {w : World} (h : (bkF b ty cs).p w) {o : Nat} {v : Value} (ho : cs[o]? = some v) : w.cell? ⟨b, o, none⟩ = some v := by
  have hb : w.heap[b]? = some (.cells cs.toArray ty (0, 0)) := h
  rw [cell_of_row w b o _ _ _ hb]
  simpa using ho
theorem gIn0_c (w : World) (A : Option Addr) (n c : Nat) : Pu Tryz.prog n_guest_Guest_in #[.pointer none, .slice A n c] w (.int .i64 6) := by
  have g := good_guest_Guest_in w (Un [])
  refine con_of_sx (cx := cx_guest_Guest_in w (Un [])) g b_guest_Guest_in rfl rfl (β := Va.z) [.c (.v (.pointer none)), .c (.v (.slice A n c))] 0 [] [] rfl rfl (Sat.start rfl) ?_
  intro β w' hs
  exact hs.fin [] ⟨rfl, rfl⟩
theorem gIn1_c (w : World) (b : Nat) (B : Value) (t u p : List UInt8) (st : Int) (f : List Value) (A : Option Addr) (c : Nat) (h : (gstF b B t u p st f).p w) (hr : Rd 1 A 1 [.int .i64 st] w) : Pu Tryz.prog n_guest_Guest_in #[ptrG b, .slice A 1 c] w (.int .i64 0) := by
  have g := good_guest_Guest_in w (Un [])
  have hb : w.heap[b]? = some (.cells (gstL B t u p st f).toArray ty_guest_Guest (0, 0)) := h
  refine con_of_sx (cx := cx_guest_Guest_in w (Un [])) g b_guest_Guest_in rfl rfl (β := Va.z) [.c (.v (ptrG b)), .c (.v (.slice A 1 c))] 0 [] [oldF w] rfl rfl (old_sat rfl) ?_
  refine loop_rule 0 (fun _ : Unit => [(0, .c (.v (ptrG b))), (9, .c (.v (.slice A 1 c))), (10, .c (.v (.int .i64 1))), (11, .c (.v (.int .i64 0)))]) (fun _ => []) (fun _ => [oldF w]) (fun _ => True) (fun _ => 0) () trivial (Ent.same ⟨rfl, rfl, rfl, rfl, trivial⟩ rfl) g ?_
  rintro ⟨⟩ -
  obtain ⟨ad, hA, _⟩ := hr.2 (by decide)
  have hst : (gstL B t u p st f)[5]? = some (.int .i64 st) := rfl
  have hcell : ∀ w', (oldF w).p w' → w'.cell? ⟨b, 5, none⟩ = some (.int .i64 st) := fun w' ho => cell_bkG (bk_oldG h ho) (o := 5) rfl
  refine ⟨ad, 0, hA, rfl, by omega, .int .i64 st, fun β w' hs => Rd.cell1 (by have h := Rd.old hr (hs.get 0 rfl); rw [hA] at h; exact h) rfl, ?_⟩
  refine ⟨.int .i64 st, fun β w' hs => hcell w' (hs.get 0 rfl), ?_⟩
  refine BIf.dec (fun h => ?_) (fun h => absurd rfl h)
  intro β w' hs
  exact (hs.keepB (List.nil_sublist _)).fin [] ⟨rfl, rfl⟩
end Go.Proofs.YtnhckgipdoojeaaGreatDoor.Sx

namespace Go.Proofs.YtnhckgipdoojeaaGreatDoor.Sx
open Go
section
variable {cx : Cx} {n : Nat} {H : List Bk} {F : List Fact} {w : World}
end
end Go.Proofs.YtnhckgipdoojeaaGreatDoor.Sx

namespace Go.Proofs.YtnhckgipdoojeaaGreatDoor.Sx
open Go
section
variable {cx : Cx} {n : Nat} {H : List Bk} {F : List Fact} {env : Env}
end
end Go.Proofs.YtnhckgipdoojeaaGreatDoor.Sx

namespace Go.Proofs.YtnhckgipdoojeaaGreatDoor.Sx
open Go
def Reads : List Fact → Prop
  | [] => True
  | f :: r => f.own = false ∧ Reads r
theorem Reads.mem : ∀ {l : List Fact}, Reads l → ∀ f ∈ l, f.own = false
  | f :: r, h, g, hg => by
    rcases List.mem_cons.1 hg with rfl | hg
    · exact h.1
    · exact h.2.mem g hg
section
variable {cx : Cx} {w : World}
theorem go_sat {Gs Rs : List Fact} (hm : Mem w (Gs ++ Rs)) (hR : Reads Rs) (hW : cx.W0 = w) (hS : cx.S = Un Gs) (hbs : cx.bs = []) (hr : cx.rnd = none) (hpn : cx.pn = []) : Sat cx Va.z 0 [] (Gs ++ Rs) w :=
  hm.sat0 hW (by rw [hS]; exact ownIn hR.mem) hbs rfl rfl hr hpn
theorem con_go {f : FuncId} {fn : Func} {c : Code} {Gs : List Fact} {R : Value → List Fact → Prop} (g : Good cx) (hf : cx.P.funcs[f]? = some fn) (svs : List SV) (Rs : List Fact) (hm : Mem w (Gs ++ Rs))
    (hw : cwp cx c (fnPost cx fn.results.toList (Fin w Gs R)) 0 (pairs 0 svs) [] (Gs ++ Rs)) (hR : Reads Rs := by first | exact trivial | exact ⟨rfl, trivial⟩ | exact ⟨rfl, rfl, trivial⟩ | exact ⟨rfl, rfl, rfl, trivial⟩ | exact ⟨rfl, rfl, rfl, rfl, trivial⟩ | exact ⟨rfl, rfl, rfl, rfl, rfl, trivial⟩)
    (hb : fn.body = some c := by rfl) (hN : fn.ntmps = cx.N := by rfl) (hlen : Nat.ble svs.length cx.N = true := by rfl) (hltB : allLt 0 svs = true := by rfl) (hW : cx.W0 = w := by rfl) (hS : cx.S = Un Gs := by rfl) (hbs : cx.bs = [] := by rfl) (hr : cx.rnd = none := by rfl) (hpn : cx.pn = [] := by rfl) :
    Con cx.P f (svs.map (SV.val Va.z)).toArray w Gs R :=
  con_of_sx g hf hb hN svs 0 [] (Gs ++ Rs) hlen hltB (go_sat hm hR hW hS hbs hr hpn) hw hr rfl hpn
end
end Go.Proofs.YtnhckgipdoojeaaGreatDoor.Sx

namespace Go.Proofs.YtnhckgipdoojeaaGreatDoor.Sx
open Go
attribute [local irreducible] Calls
theorem gSend_c (w : World) (b : Nat) (B : Value) (t u p : List UInt8) (st : Int) (f : List Value) (k : UInt8) (s : List UInt8) (st' : Int) (hs : s.length ≤ 2048) (hk : 1 ≤ k.toNat ∧ k.toNat ≤ 15) (hm : Mem w [gstF b B t u p st f]) :
    Con Tryz.prog n_guest_Guest_send #[ptrG b, byte k, .string (mkS s), .int .i64 st'] w [gstF b B t u p st f] fun v Fs => ∃ A c, v = .tuple #[.slice A (frL k s).length c, .int .i64 0] ∧ (frL k s).length ≤ c ∧ Fs = [gstF b B t u p st' f, browF ty_uint8 A (frL k s) c] := by
  have g := good_guest_Guest_send w (Un [gstF b B t u p st f])
  have hsz : (mkS s).size = s.length := by simp [mkS, ByteArray.size]
  refine con_of_sx (cx := cx_guest_Guest_send w (Un [gstF b B t u p st f])) g b_guest_Guest_send rfl rfl (β := Va.z) [.c (.v (ptrG b)), .c (.v (byte k)), .c (.v (.string (mkS s))), .c (.v (.int .i64 st'))] 0 [] _ rfl rfl (hm.sat0 rfl (fun f hf _ k hk => ⟨f, hf, hk⟩)) ?_
  intro b2 c2 q1 q2
  rw [hsz]
  refine call_con [] (fun β w' hs => packG_c w' k (some ⟨b2, 0, none⟩) s c2 (hs.get 0 rfl) (by omega) hk) ?_
  rintro v Fs ⟨A', c', rfl, hc', rfl⟩
  refine ⟨_, fun β w' hs => hs.bkSet 2 (o := 5) (us := [.int .i64 st']) rfl (by show 6 ≤ (gstL B t u p st f).length; simp [gstL]) (fun u hu => by obtain rfl := List.mem_singleton.1 hu; rfl), ?_⟩
  intro β w' hs
  exact (hs.keepB (List.nil_sublist _)).fin [2, 0] ⟨A', c', rfl, hc', rfl⟩ rfl rfl rfl ⟨rfl, rfl, trivial⟩
theorem gHello_c (w : World) (b : Nat) (B : Value) (t u p : List UInt8) (f : List Value) (ht : t.length ≤ 2048) (hm : Mem w [gstF b B t u p 0 f]) :
    Con Tryz.prog n_guest_Guest_Hello #[ptrG b] w [gstF b B t u p 0 f] fun v Fs => ∃ A c, v = .tuple #[.slice A (frL 1 t).length c, .int .i64 0] ∧ (frL 1 t).length ≤ c ∧ Fs = [gstF b B t u p 1 f, browF ty_uint8 A (frL 1 t) c] := by
  have g := good_guest_Guest_Hello w (Un [gstF b B t u p 0 f])
  refine con_of_sx (cx := cx_guest_Guest_Hello w (Un [gstF b B t u p 0 f])) g b_guest_Guest_Hello rfl rfl (β := Va.z) [.c (.v (ptrG b))] 0 [] _ rfl rfl (hm.sat0 rfl (fun f hf _ k hk => ⟨f, hf, hk⟩)) ?_
  intro b1
  refine call_pu (fun β w' hs => gIn1_c w' b B t u p 0 f (some ⟨b1, 0, none⟩) 1 (hs.get 1 rfl) (row_rd (hs.get 0 rfl))) ?_
  refine ⟨.string (mkS t), fun β w' hs => cell_bkG (hs.get 1 rfl) (o := 1) rfl, ?_⟩
  refine call_con [1] (fun β w' hs => gSend_c w' b B t u p 0 f 1 t 1 ht (by decide) (hs.mem.take (js := [1]) rfl)) ?_
  rintro v Fs ⟨A, c, rfl, hc, rfl⟩
  intro β w' hs
  exact (hs.keepB (List.nil_sublist _)).fin [0, 1] ⟨A, c, rfl, hc, rfl⟩ rfl rfl rfl ⟨rfl, rfl, trivial⟩
theorem gState_c (w : World) (b : Nat) (B : Value) (t u p : List UInt8) (st : Int) (f : List Value) (h : (gstF b B t u p st f).p w) : Pu Tryz.prog n_guest_Guest_State #[ptrG b] w (.int .i64 st) := by
  have g := good_guest_Guest_State w (Un [])
  refine con_of_sx (cx := cx_guest_Guest_State w (Un [])) g b_guest_Guest_State rfl rfl (β := Va.z) [.c (.v (ptrG b))] 0 [] [oldF w] rfl rfl (old_sat rfl) ?_
  refine ⟨.int .i64 st, fun β w' hs => cell_bkG (bk_oldG h (hs.get 0 rfl)) (o := 5) rfl, ?_⟩
  intro β w' hs
  exact (hs.keepB (List.nil_sublist _)).fin [] ⟨rfl, rfl⟩
theorem gBegin_c (w : World) (b : Nat) (B : Value) (t u p n : List UInt8) (hu : u.length ≤ 300) (hn : n.length ≤ 300) (hv : valB (escL u) = true) (hno : nonB n = true) (hm : Mem w [gstF b B t u p 1 fst0, namF]) :
    Con Tryz.prog n_guest_Guest_Begin #[ptrG b, .string (mkS n)] w [gstF b B t u p 1 fst0] fun v Fs => ∃ A c, v = .tuple #[.slice A (frL 2 (fstL u n)).length c, .int .i64 0] ∧ (frL 2 (fstL u n)).length ≤ c ∧ Fs = [gstF b B t u p 2 (fst1 u n), browF ty_uint8 A (frL 2 (fstL u n)) c] := by
  have g := good_guest_Guest_Begin w (Un [gstF b B t u p 1 fst0])
  refine con_go (cx := cx_guest_Guest_Begin w (Un [gstF b B t u p 1 fst0])) g b_guest_Guest_Begin [.c (.v (ptrG b)), .c (.v (.string (mkS n)))] [namF] hm ?_
  intro b1
  refine call_pu (fun β w' hs => gIn1_c w' b B t u p 1 fst0 (some ⟨b1, 0, none⟩) 1 (hs.get 1 rfl) (row_rd (hs.get 0 rfl))) ?_
  refine draw_rule g p_guest_Guest_Begin_4 (by kernel_rfl) [] [gstF b B t u p 1 fst0] (subPerm [1]) ?_
  refine ⟨.string (mkS []), fun β w' hs => cell_bkG (hs.get 0 rfl) (o := 3) rfl, ?_⟩
  refine ⟨.string (mkS u), fun β w' hs => cell_bkG (hs.get 0 rfl) (o := 2) rfl, ?_⟩
  refine ⟨Sub.of (List.nil_sublist _) (((List.nil_sublist _).cons_cons _).cons _), ?_⟩
  refine ⟨Sub.of (List.nil_sublist _) (((List.nil_sublist _).cons_cons _).cons _), ?_⟩
  have he := (escL_len u).2
  have hfl : (fstL u n).length ≤ 2048 := by simp [fstL, bareL]; omega
  refine call_pu (v := .tuple #[.string (mkS (fstL u n)), .int .i64 0]) (fun β w' hs => by
    have h := fText_c w' u n (by omega) (by omega) (namF_T (hs.get 2 rfl)).f
    rw [hv, hno, if_pos (by rfl), if_pos (by omega), if_pos (by rfl), if_pos (by omega)] at h
    exact h) ?_
  refine ⟨_, fun β w' hs => hs.bkSet 1 (o := 6) (us := fst1 u n) rfl (Nat.le_of_ble_eq_true rfl) (fun v hv => by simp only [fst1, List.mem_cons, List.not_mem_nil, or_false] at hv; rcases hv with rfl | rfl | rfl | rfl | rfl <;> rfl), ?_⟩
  refine call_con [1] (fun β w' hs => gSend_c w' b B t u p 1 (fst1 u n) 2 (fstL u n) 2 hfl (by decide) (hs.mem.take (js := [1]) rfl)) ?_
  rintro v Fs ⟨A, c, rfl, hc, rfl⟩
  intro β w' hs
  exact (hs.keepB (List.nil_sublist _)).fin [0, 1] ⟨A, c, rfl, hc, rfl⟩ rfl rfl rfl ⟨rfl, rfl, trivial⟩
end Go.Proofs.YtnhckgipdoojeaaGreatDoor.Sx

namespace Go.Proofs.YtnhckgipdoojeaaGreatDoor.Sx
open Go Sha
attribute [local irreducible] Calls
def boxF (b : Nat) (sym full : Bool) (L m : Value) : Fact := bkF b ty_box_Box [.bool sym, .bool full, L, m]
theorem new_c (w : World) (sym : Bool) : Con Tryz.prog n_box_New #[.bool sym] w [] fun v Fs => ∃ b m, v = .pointer (some ⟨b, 0, none⟩) ∧ Fs = [boxF b sym false (.slice none 0 0) (.map (some m)), mapF m []] := by
  refine con_of_sx (cx := cx_box_New w (Un [])) (good_box_New w (Un [])) b_box_New rfl rfl (β := Va.z) [.c (.v (.bool sym))] 0 [] [] rfl rfl (Sat.start rfl) ?_
  intro m
  intro β w' hs
  exact hs.ofBk.fin [0, 1] ⟨β 0, m, rfl, rfl⟩ rfl rfl rfl ⟨rfl, rfl, trivial⟩
end Go.Proofs.YtnhckgipdoojeaaGreatDoor.Sx

namespace Go.Proofs.YtnhckgipdoojeaaGreatDoor.Sx
open Go
attribute [local irreducible] Calls
theorem pass_c (w : World) (s : ByteArray) (hl : s.size ≤ 100000) (hn : NamT w) : Pu Tryz.prog n_name_Password #[.string s] w (.tuple #[.string (mkS (sizF s.data.toList 64).1), .int .i64 (sizF s.data.toList 64).2]) := by
  have g := good_name_Password w (Un [])
  refine con_of_sx (cx := cx_name_Password w (Un [])) g b_name_Password rfl rfl (β := Va.z) [.c (.v (.string s))] 0 [] [oldF w] rfl rfl (old_sat rfl) ?_
  refine call_pu (fun β w' hs => sized_c w' s 64 (by decide) hl (hn.old (hs.get 0 rfl)).f (hn.old (hs.get 0 rfl)).s5 (hn.old (hs.get 0 rfl)).s6 (hn.old (hs.get 0 rfl)).s4) ?_
  intro β w' hs
  exact hs.fin [] ⟨rfl, rfl⟩
def annL : List UInt8 := [97, 110, 110]
def penL : List UInt8 := [112, 101, 110, 99, 105, 108]
theorem ann26_c (w : World) : Pu Tryz.prog n_ostiarylaw26_ann #[] w (.agg #[.string (mkS [116]), .string (mkS annL), .string (mkS [])]) := by
  have g := good_ostiarylaw26_ann w (Un [])
  refine con_of_sx (cx := cx_ostiarylaw26_ann w (Un [])) g b_ostiarylaw26_ann rfl rfl (β := Va.z) [] 0 [] [] rfl rfl (Sat.start rfl) ?_
  intro β w' hs
  exact (hs.keepB (List.nil_sublist _)).fin [] ⟨rfl, rfl⟩
theorem gMake0_c (w : World) (p : ByteArray) : Pu Tryz.prog n_guest_Make #[.pointer none, .agg #[.string (mkS [116]), .string (mkS annL), .string (mkS [])], .string p] w (.tuple #[.pointer none, .int .i64 6]) := by
  have g := good_guest_Make w (Un [])
  refine con_of_sx (cx := cx_guest_Make w (Un [])) g b_guest_Make rfl rfl (β := Va.z) [.c (.v (.pointer none)), .agg [.v (.string (mkS [116])), .v (.string (mkS annL)), .v (.string (mkS []))], .c (.v (.string p))] 0 [] [] rfl rfl (Sat.start rfl) ?_
  intro β w' hs
  exact (hs.keepB (List.nil_sublist _)).fin [] ⟨rfl, rfl⟩
theorem gMake_c (w : World) (b : Nat) (hm : Mem w [namF]) : Con Tryz.prog n_guest_Make #[.pointer (some ⟨b, 0, none⟩), .agg #[.string (mkS [116]), .string (mkS annL), .string (mkS [])], .string (mkS penL)] w [] fun v Fs => ∃ q, v = .tuple #[ptrG q, .int .i64 0] ∧ Fs = [gstF q (.pointer (some ⟨b, 0, none⟩)) [116] annL penL 0 fst0] := by
  have g := good_guest_Make w (Un [])
  refine con_go (cx := cx_guest_Make w (Un [])) g b_guest_Make [.c (.v (.pointer (some ⟨b, 0, none⟩))), .agg [.v (.string (mkS [116])), .v (.string (mkS annL)), .v (.string (mkS []))], .c (.v (.string (mkS penL)))] [namF] hm ?_
  have e1 : plainF (mkS [116]).data.toList = true := by decide +kernel
  have e2 : sizF annL 32 = (annL, 0) := by decide +kernel
  have e3 : sizF penL 64 = (penL, 0) := by decide +kernel
  refine call_pu (v := .bool true) (fun β w' hs => by
    have h := plain_c w' (mkS [116]) (by decide)
    rw [e1] at h
    exact h) ?_
  refine call_pu (v := .tuple #[.string (mkS annL), .int .i64 0]) (fun β w' hs => by
    have h := nameA_c w' (mkS annL) (by decide) (namF_T (hs.get 0 rfl))
    have e : nameA (mkS annL) = (mkS annL, 0) := by show (mkS (sizF annL 32).1, (sizF annL 32).2) = _; rw [e2]
    rw [e] at h
    exact h) ?_
  refine call_pu (v := .tuple #[.string (mkS penL), .int .i64 0]) (fun β w' hs => by
    have h := pass_c w' (mkS penL) (by decide) (namF_T (hs.get 0 rfl))
    have e : sizF (mkS penL).data.toList 64 = (penL, 0) := e3
    rw [e] at h
    exact h) ?_
  intro β w' hs
  exact hs.ofBk.fin [0] ⟨β 1, rfl, rfl⟩ rfl rfl rfl ⟨rfl, trivial⟩
def abcL : List UInt8 := [97, 98, 99]
def begL : List UInt8 := [2, 0, 14, 110, 44, 44, 110, 61, 97, 110, 110, 44, 114, 61, 97, 98, 99]
theorem awake26_c (w : World) (hm : Mem w [namF]) : Con Tryz.prog n_ostiarylaw26_awake #[] w [] fun v Fs => v = .bool true ∧ Fs = [] := by
  have g := good_ostiarylaw26_awake w (Un [])
  refine con_go (cx := cx_ostiarylaw26_awake w (Un [])) g b_ostiarylaw26_awake [] [namF] hm ?_
  refine call_con [] (fun β w' hs => new_c w' false) ?_
  rintro v Fs ⟨bb, m, rfl, rfl⟩
  refine call_pu (fun β w' hs => ann26_c w') ?_
  refine call_con [] (fun β w' hs => gMake_c w' bb (hs.mem.take (js := [2]) rfl)) ?_
  rintro v Fs ⟨q, rfl, rfl⟩
  refine call_con [0] (fun β w' hs => gHello_c w' q _ [116] annL penL fst0 (by decide) (hs.mem.take (js := [0]) rfl)) ?_
  rintro v Fs ⟨A1, c1, rfl, _, rfl⟩
  refine call_con [0] (fun β w' hs => gBegin_c w' q _ [116] annL penL abcL (by decide) (by decide) (by decide +kernel) (by decide +kernel) (hs.mem.take (js := [0, 4]) rfl)) ?_
  rintro v Fs ⟨A2, c2, rfl, hc2, rfl⟩
  have hb : frL 2 (fstL annL abcL) = begL := by decide +kernel
  rw [hb] at hc2 ⊢
  have hc3 : 17 ≤ c2 := hc2
  refine ⟨c2, 17, 3, 14, c2 - 3, _, rfl, rfl, rfl, Nat.le_refl _, hc3, by decide, rfl, rfl, rfl, ?_⟩
  refine ⟨[110, 44, 44, 110, 61, 97, 110, 110, 44, 114, 61, 97, 98, 99], fun β w' hs => Bs.cutB (w := w') (A := A2) (l := begL) (row_rd (hs.get 1 rfl)) (i := 3) (j := 17) hc3 (by decide) (by decide) rfl, ?_⟩
  refine call_pu (fun β w' hs => gState_c w' q _ [116] annL penL 2 (fst1 annL abcL) (hs.get 0 rfl)) ?_
  intro β w' hs
  exact (hs.keepB (List.nil_sublist _)).fin [] ⟨rfl, rfl⟩
theorem gHello0_c (w : World) : Pu Tryz.prog n_guest_Guest_Hello #[.pointer none] w (.tuple #[.slice none 0 0, .int .i64 6]) := by
  have g := good_guest_Guest_Hello w (Un [])
  refine con_of_sx (cx := cx_guest_Guest_Hello w (Un [])) g b_guest_Guest_Hello rfl rfl (β := Va.z) [.c (.v (.pointer none))] 0 [] [] rfl rfl (Sat.start rfl) ?_
  intro b1
  refine call_pu (fun β w' hs => gIn0_c w' (some ⟨b1, 0, none⟩) 1 1) ?_
  intro β w' hs
  exact (hs.keepB (List.nil_sublist _)).fin [] ⟨rfl, rfl⟩
theorem gBegin0_c (w : World) (s : ByteArray) : Pu Tryz.prog n_guest_Guest_Begin #[.pointer none, .string s] w (.tuple #[.slice none 0 0, .int .i64 6]) := by
  have g := good_guest_Guest_Begin w (Un [])
  refine con_of_sx (cx := cx_guest_Guest_Begin w (Un [])) g b_guest_Guest_Begin rfl rfl (β := Va.z) [.c (.v (.pointer none)), .c (.v (.string s))] 0 [] [] rfl rfl (Sat.start rfl) ?_
  intro b1
  refine call_pu (fun β w' hs => gIn0_c w' (some ⟨b1, 0, none⟩) 1 1) ?_
  intro β w' hs
  exact (hs.keepB (List.nil_sublist _)).fin [] ⟨rfl, rfl⟩
theorem gRequest0_c (w : World) (s t : ByteArray) : Pu Tryz.prog n_guest_Guest_Request #[.pointer none, .string s, .string t] w (.tuple #[.slice none 0 0, .int .i64 6]) := by
  have g := good_guest_Guest_Request w (Un [])
  refine con_of_sx (cx := cx_guest_Guest_Request w (Un [])) g b_guest_Guest_Request rfl rfl (β := Va.z) [.c (.v (.pointer none)), .c (.v (.string s)), .c (.v (.string t))] 0 [] [] rfl rfl (Sat.start rfl) ?_
  intro b1
  refine call_pu (fun β w' hs => gIn0_c w' (some ⟨b1, 0, none⟩) 1 1) ?_
  intro β w' hs
  exact (hs.keepB (List.nil_sublist _)).fin [] ⟨rfl, rfl⟩
theorem gShow0_c (w : World) : Pu Tryz.prog n_guest_Guest_Show #[.pointer none] w (.tuple #[.slice none 0 0, .int .i64 6]) := by
  have g := good_guest_Guest_Show w (Un [])
  refine con_of_sx (cx := cx_guest_Guest_Show w (Un [])) g b_guest_Guest_Show rfl rfl (β := Va.z) [.c (.v (.pointer none))] 0 [] [] rfl rfl (Sat.start rfl) ?_
  intro b1
  refine call_pu (fun β w' hs => gIn0_c w' (some ⟨b1, 0, none⟩) 1 1) ?_
  intro β w' hs
  exact (hs.keepB (List.nil_sublist _)).fin [] ⟨rfl, rfl⟩
theorem gOpen0_c (w : World) (s : ByteArray) : Pu Tryz.prog n_guest_Guest_Open #[.pointer none, .string s] w (.tuple #[.slice none 0 0, .int .i64 6]) := by
  have g := good_guest_Guest_Open w (Un [])
  refine con_of_sx (cx := cx_guest_Guest_Open w (Un [])) g b_guest_Guest_Open rfl rfl (β := Va.z) [.c (.v (.pointer none)), .c (.v (.string s))] 0 [] [] rfl rfl (Sat.start rfl) ?_
  intro b1
  refine call_pu (fun β w' hs => gIn0_c w' (some ⟨b1, 0, none⟩) 1 1) ?_
  intro β w' hs
  exact (hs.keepB (List.nil_sublist _)).fin [] ⟨rfl, rfl⟩
theorem gSend0_c (w : World) (A : Option Addr) (n c : Nat) : Pu Tryz.prog n_guest_Guest_Send #[.pointer none, .slice A n c] w (.tuple #[.slice none 0 0, .int .i64 6]) := by
  have g := good_guest_Guest_Send w (Un [])
  refine con_of_sx (cx := cx_guest_Guest_Send w (Un [])) g b_guest_Guest_Send rfl rfl (β := Va.z) [.c (.v (.pointer none)), .c (.v (.slice A n c))] 0 [] [] rfl rfl (Sat.start rfl) ?_
  intro b1
  refine call_pu (fun β w' hs => gIn0_c w' (some ⟨b1, 0, none⟩) 1 1) ?_
  intro β w' hs
  exact (hs.keepB (List.nil_sublist _)).fin [] ⟨rfl, rfl⟩
theorem gBye0_c (w : World) : Pu Tryz.prog n_guest_Guest_Bye #[.pointer none] w (.tuple #[.slice none 0 0, .int .i64 6]) := by
  have g := good_guest_Guest_Bye w (Un [])
  refine con_of_sx (cx := cx_guest_Guest_Bye w (Un [])) g b_guest_Guest_Bye rfl rfl (β := Va.z) [.c (.v (.pointer none))] 0 [] [] rfl rfl (Sat.start rfl) ?_
  intro b1
  refine call_pu (fun β w' hs => gIn0_c w' (some ⟨b1, 0, none⟩) 7 7) ?_
  intro β w' hs
  exact (hs.keepB (List.nil_sublist _)).fin [] ⟨rfl, rfl⟩
theorem gHear0_c (w : World) (A : Option Addr) (n c : Nat) : Pu Tryz.prog n_guest_Guest_Hear #[.pointer none, .slice A n c] w (.tuple #[.slice none 0 0, .int .i64 6]) := by
  have g := good_guest_Guest_Hear w (Un [])
  refine con_of_sx (cx := cx_guest_Guest_Hear w (Un [])) g b_guest_Guest_Hear rfl rfl (β := Va.z) [.c (.v (.pointer none)), .c (.v (.slice A n c))] 0 [] [] rfl rfl (Sat.start rfl) ?_
  intro β w' hs
  exact (hs.keepB (List.nil_sublist _)).fin [] ⟨rfl, rfl⟩
theorem gSetTicket0_c (w : World) (s : ByteArray) : Pu Tryz.prog n_guest_Guest_SetTicket #[.pointer none, .string s] w (.tuple #[]) := by
  have g := good_guest_Guest_SetTicket w (Un [])
  refine con_of_sx (cx := cx_guest_Guest_SetTicket w (Un [])) g b_guest_Guest_SetTicket rfl rfl (β := Va.z) [.c (.v (.pointer none)), .c (.v (.string s))] 0 [] [] rfl rfl (Sat.start rfl) ?_
  intro β w' hs
  exact (hs.keepB (List.nil_sublist _)).fin [] ⟨rfl, rfl⟩
theorem gState0_c (w : World) : Pu Tryz.prog n_guest_Guest_State #[.pointer none] w (.int .i64 8) := by
  have g := good_guest_Guest_State w (Un [])
  refine con_of_sx (cx := cx_guest_Guest_State w (Un [])) g b_guest_Guest_State rfl rfl (β := Va.z) [.c (.v (.pointer none))] 0 [] [] rfl rfl (Sat.start rfl) ?_
  intro β w' hs
  exact (hs.keepB (List.nil_sublist _)).fin [] ⟨rfl, rfl⟩
theorem gTicket0_c (w : World) : Pu Tryz.prog n_guest_Guest_Ticket #[.pointer none] w (.string (mkS [])) := by
  have g := good_guest_Guest_Ticket w (Un [])
  refine con_of_sx (cx := cx_guest_Guest_Ticket w (Un [])) g b_guest_Guest_Ticket rfl rfl (β := Va.z) [.c (.v (.pointer none))] 0 [] [] rfl rfl (Sat.start rfl) ?_
  intro β w' hs
  exact (hs.keepB (List.nil_sublist _)).fin [] ⟨rfl, rfl⟩
theorem gGot0_c (w : World) : Pu Tryz.prog n_guest_Guest_Got #[.pointer none] w (.slice none 0 0) := by
  have g := good_guest_Guest_Got w (Un [])
  refine con_of_sx (cx := cx_guest_Guest_Got w (Un [])) g b_guest_Guest_Got rfl rfl (β := Va.z) [.c (.v (.pointer none))] 0 [] [] rfl rfl (Sat.start rfl) ?_
  intro β w' hs
  exact (hs.keepB (List.nil_sublist _)).fin [] ⟨rfl, rfl⟩
theorem gFault0_c (w : World) : Pu Tryz.prog n_guest_Guest_Fault #[.pointer none] w (.int .i64 0) := by
  have g := good_guest_Guest_Fault w (Un [])
  refine con_of_sx (cx := cx_guest_Guest_Fault w (Un [])) g b_guest_Guest_Fault rfl rfl (β := Va.z) [.c (.v (.pointer none))] 0 [] [] rfl rfl (Sat.start rfl) ?_
  intro β w' hs
  exact (hs.keepB (List.nil_sublist _)).fin [] ⟨rfl, rfl⟩
theorem cutTextG_c (w : World) (s : ByteArray) (k : Nat) (_hk : k ≤ 1000000) : Pu Tryz.prog n_ostiaryref01_CutText #[.string s, .int .i64 k] w (.string (s.extract 0 (min s.size k))) := by
  refine pu_of (calls_of_sx (cx := cx_ostiaryref01_CutText w None_) (good_ostiaryref01_CutText w None_) b_ostiaryref01_CutText rfl rfl (β := Va.z) [.c (.v (.string s)), .c (.v (.int .i64 k))] 0 [] [] rfl rfl (Sat.start rfl) ?_)
  refine ⟨((min s.size k : Nat) : Int), by dsimp only; omega, ?_⟩
  refine ⟨min s.size k, 0, rfl, rfl, by omega, Nat.zero_le _, ?_⟩
  intro β w' hs
  exact ⟨rfl, hs.chg⟩
theorem guestNil_c (w : World) (s : ByteArray) (A : Option Addr) (l : List UInt8) (c : Nat) (hc : l.length ≤ c) (hm : Mem w [bsF A l, namF]) : Con Tryz.prog n_ostiarylaw26_GuestNil #[.string s, .slice A l.length c] w [] fun v Fs => v = .bool true ∧ Fs = [] := by
  have g := good_ostiarylaw26_GuestNil w (Un [])
  refine con_go (cx := cx_ostiarylaw26_GuestNil w (Un [])) g b_ostiarylaw26_GuestNil [.c (.v (.string s)), .c (.v (.slice A l.length c))] [bsF A l, namF] hm ?_
  refine call_con [] (fun β w' hs => awake26_c w' (hs.mem.take (js := [1]) rfl)) ?_
  rintro v Fs ⟨rfl, rfl⟩
  refine call_pu (fun β w' hs => cutTextG_c w' s 50 (by decide)) ?_
  refine call_con [] (fun β w' hs => con_row (cut_c w' A l c 50 (hs.get 0 rfl) hc (by decide))) ?_
  rintro v Fs ⟨A1, c1, rfl, h1, h2, rfl⟩
  refine call_pu (fun β w' hs => gHello0_c w') ?_
  refine call_pu (fun β w' hs => gBegin0_c w' _) ?_
  refine call_pu (fun β w' hs => gRequest0_c w' _ _) ?_
  refine call_pu (fun β w' hs => gShow0_c w') ?_
  refine call_pu (fun β w' hs => gOpen0_c w' _) ?_
  refine call_pu (fun β w' hs => gSend0_c w' _ _ _) ?_
  refine call_pu (fun β w' hs => gBye0_c w') ?_
  refine call_pu (fun β w' hs => gHear0_c w' _ _ _) ?_
  refine call_pu (fun β w' hs => ann26_c w') ?_
  refine call_pu (fun β w' hs => gMake0_c w' _) ?_
  refine call_pu (fun β w' hs => gSetTicket0_c w' _) ?_
  intro b1
  have hx : ∀ k : Nat, k < 9 → (List.replicate 9 (Value.int .i64 6))[k]? = some (.int .i64 6) := fun k hk => by rw [List.getElem?_replicate]; exact if_pos hk
  refine loop_rule 0 (fun k : Nat => [(5, .c (.v (.pointer none))), (96, .c (.v (.slice (some ⟨b1, 0, none⟩) 9 9))), (97, .c (.v (.int .i64 9))), (98, .c (.v (.int .i64 (k : Int))))]) (fun _ => []) (fun _ => [rowF ty_api_Errno 1 (.slice (some ⟨b1, 0, none⟩) 9 9) 9 (List.replicate 9 (.int .i64 6))])
    (fun k => k ≤ 9) (fun k => 9 - k) 0 (Nat.zero_le _) (Ent.mk' ⟨rfl, rfl, rfl, rfl, trivial⟩ rfl (fun β w' hs => hs.perm [0])) g ?_
  intro k hk
  refine BIf.dec (fun hlt => ?_) (fun hge => ?_)
  · have hlt0 : (k : Int) < 9 := hlt
    refine ⟨_, k, rfl, rfl, by omega, .int .i64 6, fun β w' hs => Rd.cell1 (row_rd (hs.get 0 rfl)) (hx k (by omega)), ?_⟩
    refine ⟨((k + 1 : Nat) : Int), by rw [wrap_i64 (by omega) (by omega)]; rfl, ?_⟩
    exact ⟨k + 1, by omega, by omega, Ent.same ⟨rfl, rfl, rfl, rfl, trivial⟩ rfl⟩
  · refine call_pu (fun β w' hs => gState0_c w') ?_
    refine call_pu (fun β w' hs => gTicket0_c w') ?_
    refine call_pu (fun β w' hs => gGot0_c w') ?_
    refine call_pu (fun β w' hs => gFault0_c w') ?_
    intro β w' hs
    exact (hs.keepB (List.nil_sublist _)).fin [] ⟨rfl, rfl⟩
end Go.Proofs.YtnhckgipdoojeaaGreatDoor.Sx

namespace Go.Proofs.YtnhckgipdoojeaaGreatDoor.Sx
open Go
def RoOk (w : World) (f : Fact) : Prop := f.own = false ∧ f.p w ∧ ∀ k, f.D k → k < w.heap.size
theorem mem_ro {w : World} {Fs : List Fact} (h : ∀ f ∈ Fs, RoOk w f) : Mem w Fs := by
  refine ⟨fun f hf => (h f hf).2.1, fun f hf k hk => (h f hf).2.2 k hk, ?_⟩
  induction Fs with
  | nil => exact List.Pairwise.nil
  | cons f r ih =>
    refine List.pairwise_cons.2 ⟨fun g hg q => ?_, ih (fun g hg => h g (List.mem_cons_of_mem _ hg))⟩
    rcases q with q | q
    · rw [(h f List.mem_cons_self).1] at q; cases q
    · rw [(h g (List.mem_cons_of_mem _ hg)).1] at q; cases q
theorem rd_ok {w : World} {size : Nat} {A : Option Addr} {k : Nat} {xs : List Value} (h : Rd size A k xs w) : RoOk w (rdF size A k xs) := ⟨rfl, h, rd_lt h⟩
theorem ro_nil {w : World} : ∀ f ∈ ([] : List Fact), RoOk w f := fun f h => by cases h
theorem ro_cons {w : World} {f : Fact} {r : List Fact} (h1 : RoOk w f) (h2 : ∀ g ∈ r, RoOk w g) : ∀ g ∈ f :: r, RoOk w g := fun g hg => by
  rcases List.mem_cons.1 hg with rfl | hg
  · exact h1
  · exact h2 g hg
theorem nam_ok {w : World} (f : Forms 6 w) (s5 : (spansF 4 blanksL).p w) (s6 : (spansF 5 nothingL).p w) (s4 : (spansF 0 barredL).p w) : RoOk w namF := by
  refine ⟨rfl, fun g hg => ?_, fun k hk => ?_⟩
  · simp only [List.mem_cons, List.not_mem_nil, or_false] at hg
    rcases hg with rfl | rfl | rfl | rfl
    · exact f
    · exact s5
    · exact s6
    · exact s4
  · obtain ⟨g, hg, hk⟩ := hk
    simp only [List.mem_cons, List.not_mem_nil, or_false] at hg
    rcases hg with rfl | rfl | rfl | rfl
    · exact rd_lt f k hk
    · exact rd_lt s5 k hk
    · exact rd_lt s6 k hk
    · exact rd_lt s4 k hk
end Go.Proofs.YtnhckgipdoojeaaGreatDoor.Sx

namespace Go.Proofs.YtnhckgipdoojeaaGreatDoor.Sx
open Go
attribute [local irreducible] Calls
end Go.Proofs.YtnhckgipdoojeaaGreatDoor.Sx

namespace Go.Proofs.YtnhckgipdoojeaaGreatDoor.Sx
open Go
open Go.ChangeMaps (setBlock)
variable {kk : IntKind}
section
variable {cx : Cx} {β : Va} {n : Nat} {H : List Bk} {F : List Fact} {w : World}
end
end Go.Proofs.YtnhckgipdoojeaaGreatDoor.Sx

namespace Go.Proofs.YtnhckgipdoojeaaGreatDoor.Sx
open Go
attribute [local irreducible] Calls
def at0 (l : List Int) (q : Nat) : Int := l.getD q 0
def sw (l : List Int) (j : Nat) : List Int := (l.set j (at0 l (j - 1))).set (j - 1) (at0 l j)
theorem sw_get {l : List Int} {j : Nat} (h1 : 1 ≤ j) (h2 : j < l.length) (q : Nat) : at0 (sw l j) q = if q = j - 1 then at0 l j else if q = j then at0 l (j - 1) else at0 l q := by
  unfold sw at0
  simp only [List.getD_eq_getElem?_getD, List.getElem?_set, List.length_set]
  by_cases a : j - 1 = q
  · have a' : q = j - 1 := a.symm
    rw [if_pos a, if_pos (by omega), if_pos a']
    rfl
  · have a' : ¬ q = j - 1 := fun e => a e.symm
    rw [if_neg a, if_neg a']
    by_cases b : j = q
    · have b' : q = j := b.symm
      rw [if_pos b, if_pos h2, if_pos b']
      rfl
    · have b' : ¬ q = j := fun e => b e.symm
      rw [if_neg b, if_neg b']
def But (l : List Int) (i j : Nat) : Prop := ∀ p q, p < q → q ≤ i → q ≠ j → at0 l p ≤ at0 l q
def Upto (l : List Int) (i : Nat) : Prop := ∀ p q, p < q → q < i → at0 l p ≤ at0 l q
theorem But.start {l : List Int} {i : Nat} (h : Upto l i) : But l i i := fun p q h1 h2 h3 => h p q h1 (by omega)
theorem But.swap {l : List Int} {i j : Nat} (h : But l i j) (h1 : 1 ≤ j) (h2 : j ≤ i) (h3 : i < l.length) (hlt : at0 l j < at0 l (j - 1)) : But (sw l j) i (j - 1) := by
  intro p q hpq hq hne
  rw [sw_get h1 (by omega), sw_get h1 (by omega), if_neg hne]
  by_cases b : q = j
  · subst b
    rw [if_pos rfl]
    by_cases a : p = q - 1
    · rw [if_pos a]
      omega
    · rw [if_neg a, if_neg (by omega)]
      exact h p (q - 1) (by omega) (by omega) (by omega)
  · rw [if_neg b]
    by_cases a : p = j - 1
    · rw [if_pos a]
      exact h j q (by omega) hq b
    · rw [if_neg a]
      by_cases c : p = j
      · rw [if_pos c]
        exact h (j - 1) q (by omega) hq b
      · rw [if_neg c]
        exact h p q hpq hq b
theorem But.done {l : List Int} {i j : Nat} (h : But l i j) (h2 : j ≤ i) (hj : 1 ≤ j → ¬ at0 l j < at0 l (j - 1)) : Upto l (i + 1) := by
  intro p q hpq hq
  by_cases b : q = j
  · subst b
    have h3 := hj (by omega)
    by_cases a : p = q - 1
    · subst a
      omega
    · have := h p (q - 1) (by omega) (by omega) (by omega)
      omega
  · exact h p q hpq (by omega) b
def isIf : Option TypeDesc → Bool
  | some (.interface _) => true
  | _ => false
def errF (g : Nat) : Fact where
  own := false
  D := fun k => k = g
  p := fun w => ∃ ev, w.cell? ⟨g, 0, none⟩ = some ev ∧ (ev = .nilIface ∨ ∃ te pe, ev = .iface te pe)
  st := fun w w' hs ⟨ev, h, h2⟩ => ⟨ev, by rw [← h]; exact World.cell?_of_block (hs _ rfl), h2⟩
end Go.Proofs.YtnhckgipdoojeaaGreatDoor.Sx

namespace Go.Proofs.YtnhckgipdoojeaaGreatDoor.Sx
open Go Go.RowKit Go.Sort
attribute [local irreducible] Calls
def powF : Fact where
  own := false
  D := fun k => k = 7
  p := fun w => Lib.TabIs Tryz.prog w "internal/strconv.uint64pow10" .u64 Lib.pow10Tab
  st := fun w w' hs h => by
    have hg : Tryz.prog.globalNamed "internal/strconv.uint64pow10" = some 7 := by kernel_rfl
    unfold Lib.TabIs World.var? at h ⊢
    rw [hg] at h ⊢
    simp only [Option.bind_some] at h ⊢
    rw [hs _ rfl]
    exact h
end Go.Proofs.YtnhckgipdoojeaaGreatDoor.Sx

namespace Go.Proofs.YtnhckgipdoojeaaGreatDoor.Sx
open Go
section
variable {H : Type} {enc : TypeId × Value → H} {w : World} {base : Nat} {sp : Nat → Bool} {held : Bool}
theorem pow_of {m n : Nat} {t e : TypeId} {cs : Array Value} {d : DataW H} {q : List MemPlace} (ht : Tryz.prog.underlying t = some (.array n e)) (he : Tryz.prog.underlying e = some (.int .u64)) (hce : Tryz.prog.cellsOf e = 1) (hct : Tryz.prog.cellsOf t = n) (hdd : d = Lib.tabData .u64 Lib.pow10Tab)
    (hd : DataW.trod enc Tryz.prog w base sp held m t cs.toList = some (d, q)) (hv : w.var? Tryz.prog "internal/strconv.uint64pow10" = some cs) : powF.p w := by
  subst hdd
  show Lib.TabIs _ _ _ _ _
  unfold Lib.TabIs
  rw [hv, ← Lib.cells_of_tab ht he hce hct hd]
theorem err_of {P : Program} {m g : Nat} {t : TypeId} {cs : Array Value} {s : String} {d : DataW H} {q : List MemPlace} (hi : isIf (P.underlying t) = true)
    (hd : DataW.trod enc P w base sp held m t cs.toList = some (.iface s d, q)) (hcell : ∀ j, w.cell? ⟨g, j, none⟩ = cs[j]?) : (errF g).p w := by
  obtain ⟨ms, hms⟩ : ∃ ms, P.underlying t = some (.interface ms) := by
    unfold isIf at hi
    split at hi
    · rename_i ms h; exact ⟨ms, h⟩
    · cases hi
  cases m with
  | zero => simp [DataW.trod] at hd
  | succ m =>
    have h0 : w.cell? ⟨g, 0, none⟩ = cs.toList[0]? := by rw [hcell 0, Array.getElem?_toList]
    generalize cs.toList = l at hd h0
    match l, hd, h0 with
    | [], hd, _ => simp [DataW.trod, hms] at hd
    | [v], hd, h0 =>
      have h1 : w.cell? ⟨g, 0, none⟩ = some v := h0
      cases v with
      | nilIface => exact ⟨_, h1, .inl rfl⟩
      | iface u x => exact ⟨_, h1, .inr ⟨u, x, rfl⟩⟩
      | _ => simp [DataW.trod, hms] at hd
    | a :: b :: r, hd, _ => simp [DataW.trod, hms] at hd
end
end Go.Proofs.YtnhckgipdoojeaaGreatDoor.Sx

namespace Go.Proofs.YtnhckgipdoojeaaGreatDoor.Sx
open Go Go.RowKit
theorem below_of {w w' : World} (h : Chg None_ w w') : Below w.heap.size w w' :=
  ⟨h.os, h.tape, h.output, h.size, fun k hk => h.same k hk (fun q => q)⟩
end Go.Proofs.YtnhckgipdoojeaaGreatDoor.Sx

namespace Go.Proofs.YtnhckgipdoojeaaGreatDoor.Sx
open Go
theorem rd_of_ints {H : Type} {enc : TypeId × Value → H} {P : Program} {W : World} {base : Nat} {sp : Nat → Bool} {held : Bool} {fuel g n : Nat} {t e : TypeId} {k : IntKind} {cs : Array Value} {zs : List Int} {q : List MemPlace}
    (ht : P.underlying t = some (.array n e)) (he : P.underlying e = some (.int k)) (hc : P.cellsOf e = 1) (hd : DataW.trod enc P W base sp held fuel t cs.toList = some (.agg (zs.map fun z => .lit (.int k z)), q)) (hcell : ∀ j, W.cell? ⟨g, j, none⟩ = cs[j]?) :
    Rd 1 (some ⟨g, 0, none⟩) zs.length (zs.map (Value.int k)) W := by
  obtain ⟨xs, m, _, hx, hlen, hn, hel⟩ := DataW.trod_array ht hd
  simp only [Prod.mk.injEq, DataW.agg.injEq] at hx
  have hzn : zs.length = n := by
    have h9 := congrArg List.length hx.1
    simp only [List.length_map] at h9
    omega
  refine ⟨by simp, fun hp => ⟨_, rfl, fun j u hu => ?_⟩⟩
  rw [List.getElem?_map] at hu
  obtain ⟨z, hz, rfl⟩ := Option.map_eq_some_iff.1 hu
  have hj : j < zs.length := (List.getElem?_eq_some_iff.1 hz).1
  have h1 := hel j (by omega)
  have h2 : (xs.map (·.1))[j]? = some (.lit (.int k z)) := by rw [← hx.1, List.getElem?_map, hz]; rfl
  rw [List.getElem?_map] at h2
  obtain ⟨x, hxj, hx1⟩ := Option.map_eq_some_iff.1 h2
  rw [hxj, hc, Nat.mul_one] at h1
  obtain ⟨y, e1, e2, _⟩ := DataW.trod_int he h1
  have hy : y = z := by
    rw [e2] at hx1
    simpa using hx1
  subst hy
  rw [add_none, Nat.zero_add, hcell j, ← Array.getElem?_toList]
  have h3 := congrArg (fun l => l[0]?) e1
  simpa [List.getElem?_drop] using h3
abbrev u32s (l : List UInt32) : List Int := l.map fun x => (x.toNat : Int)
theorem rd_u32 {g : Nat} {W : World} {l : List UInt32} (h : Rd 1 (some ⟨g, 0, none⟩) (u32s l).length ((u32s l).map (Value.int .u32)) W) : Rd 1 (some ⟨g, 0, none⟩) l.length (l.map u32) W := by
  have e : (u32s l).map (Value.int .u32) = l.map u32 := by rw [List.map_map]; rfl
  rw [e, List.length_map] at h
  exact h
end Go.Proofs.YtnhckgipdoojeaaGreatDoor.Sx

namespace Go.Proofs.YtnhckgipdoojeaaGreatDoor.Sx
open Go
mutual
def lits {H : Type} : DataW H → Option (List Value)
  | .lit (.int k n) => some [.int k n]
  | .lit (.bool b) => some [.bool b]
  | .lit (.string l) => some [.string ⟨l.toArray⟩]
  | .agg ps => litsL ps
  | _ => none
def litsL {H : Type} : List (DataW H) → Option (List Value)
  | [] => some []
  | d :: r => match lits d, litsL r with
    | some a, some b => some (a ++ b)
    | _, _ => none
end
def contig (P : Program) : List Field → Nat → Option Nat
  | [], o => some o
  | f :: r, o => if f.offset = o then contig P r (o + P.cellsOf f.type) else none
def flatB (P : Program) : Nat → TypeId → Bool
  | 0, _ => false
  | n + 1, t => match P.underlying t with
    | some (.int _) | some .bool | some .string => true
    | some (.struct fs) => (match contig P fs.toList 0 with | some e => Nat.beq e (P.cellsOf t) | none => false) && fs.toList.all fun f => flatB P n f.type
    | some (.array m e) => Nat.beq (m * P.cellsOf e) (P.cellsOf t) && flatB P n e
    | _ => false
section
variable {H : Type} {enc : TypeId × Value → H} {P : Program} {w : World} {base : Nat} {sp : Nat → Bool} {held : Bool}
theorem fields_cat (m : Nat) (cs : List Value) : ∀ (fs : List Field) (xs : List (DataW H × List MemPlace)) (o e : Nat), contig P fs o = some e → xs.length = fs.length →
    (∀ (i : Nat) (f : Field), fs[i]? = some f → DataW.trod enc P w base sp held m f.type ((cs.drop f.offset).take (P.cellsOf f.type)) = xs[i]?) →
    (∀ f ∈ fs, ∀ cs' x, DataW.trod enc P w base sp held m f.type cs' = some x → lits x.1 = some cs') → o ≤ e ∧ litsL (xs.map (·.1)) = some ((cs.drop o).take (e - o))
  | [], xs, o, e, hc, hl, _, _ => by
    obtain rfl := Option.some.inj hc
    obtain rfl := List.eq_nil_of_length_eq_zero hl
    exact ⟨Nat.le_refl _, by simp [litsL]⟩
  | f :: r, [], o, e, hc, hl, _, _ => by cases hl
  | f :: r, x :: xs, o, e, hc, hl, h, ih => by
    simp only [contig] at hc
    split at hc
    · rename_i ho
      have h0 := h 0 f rfl
      rw [ho] at h0
      have h1 := ih f List.mem_cons_self _ x h0
      obtain ⟨h2, h3⟩ := fields_cat m cs r xs _ e hc (by simpa using hl) (fun i g hg => by
        have := h (i + 1) g (by simpa using hg)
        simpa using this) (fun g hg => ih g (List.mem_cons_of_mem _ hg))
      refine ⟨by omega, ?_⟩
      simp only [List.map_cons, litsL, h1, h3]
      congr 1
      have e1 : e - o = P.cellsOf f.type + (e - (o + P.cellsOf f.type)) := by omega
      rw [e1, List.take_add, List.drop_drop]
    · cases hc
theorem elems_cat (m k : Nat) (ty : TypeId) (cs : List Value) (hk : P.cellsOf ty = k) : ∀ (n : Nat) (xs : List (DataW H × List MemPlace)) (o : Nat), xs.length = n →
    (∀ i, i < n → DataW.trod enc P w base sp held m ty ((cs.drop (o + i * k)).take k) = xs[i]?) →
    (∀ cs' x, DataW.trod enc P w base sp held m ty cs' = some x → lits x.1 = some cs') → litsL (xs.map (·.1)) = some ((cs.drop o).take (n * k))
  | 0, xs, o, hl, _, _ => by
    obtain rfl := List.eq_nil_of_length_eq_zero hl
    simp [litsL]
  | n + 1, [], o, hl, _, _ => by cases hl
  | n + 1, x :: xs, o, hl, h, ih => by
    have h0 := h 0 (Nat.succ_pos _)
    rw [Nat.zero_mul, Nat.add_zero] at h0
    have h1 := ih _ x h0
    have h3 := elems_cat m k ty cs hk n xs (o + k) (by simpa using hl) (fun i hi => by
      have := h (i + 1) (by omega)
      rw [Nat.succ_mul, Nat.add_comm (i * k) k, ← Nat.add_assoc] at this
      simpa using this) ih
    simp only [List.map_cons, litsL, h1, h3]
    congr 1
    rw [Nat.succ_mul, Nat.add_comm (n * k) k, List.take_add, List.drop_drop]
theorem cells_of : ∀ (k m : Nat) (t : TypeId) (cs : List Value) (x : DataW H × List MemPlace), flatB P k t = true → DataW.trod enc P w base sp held m t cs = some x → lits x.1 = some cs
  | 0, _, _, _, _, h, _ => by cases h
  | k + 1, m, t, cs, x, h, hd => by
    unfold flatB at h
    split at h
    · rename_i ht
      obtain ⟨n, rfl, rfl, _⟩ := DataW.trod_int ht hd
      rfl
    · rename_i ht
      obtain ⟨n, rfl, rfl⟩ := DataW.trod_bool ht hd
      rfl
    · rename_i ht
      obtain ⟨s, rfl, rfl, _⟩ := DataW.trod_string ht hd
      cases s with | mk a => simp [lits, ByteArray.toList_eq]
    · rename_i fs ht
      obtain ⟨xs, n, rfl, rfl, hl, hxl, hel⟩ := DataW.trod_struct ht hd
      simp only [Bool.and_eq_true] at h
      obtain ⟨hcon, hall⟩ := h
      cases hc : contig P fs.toList 0 with
      | none => rw [hc] at hcon; cases hcon
      | some e =>
        rw [hc] at hcon
        have he := Nat.eq_of_beq_eq_true hcon
        subst he
        have := (fields_cat n cs fs.toList xs 0 _ hc (by simpa using hxl) (fun i f hf => hel i f (by simpa using hf)) (fun f hf cs' x' hx => cells_of k n f.type cs' x' (List.all_eq_true.1 hall f hf) hx)).2
        simp only [lits, this, List.drop_zero, Nat.sub_zero]
        rw [← hl, List.take_length]
    · rename_i n e ht
      obtain ⟨xs, m', rfl, rfl, hl, hxl, hel⟩ := DataW.trod_array ht hd
      simp only [Bool.and_eq_true] at h
      have he := Nat.eq_of_beq_eq_true h.1
      have := elems_cat m' (P.cellsOf e) e cs rfl n xs 0 hxl (fun i hi => by rw [Nat.zero_add]; exact hel i hi) (fun cs' x' hx => cells_of k m' e cs' x' h.2 hx)
      simp only [lits, this, List.drop_zero, he]
      rw [← hl, List.take_length]
    · cases h
theorem rd_of_laid {g n size m : Nat} {t : TypeId} {cs : Array Value} {d : DataW H} {q : List MemPlace} {vs : List Value} (hf : flatB P 5 t = true) (hv : lits d = some vs) (hn : vs.length = n * size)
    (hd : DataW.trod enc P w base sp held m t cs.toList = some (d, q)) (hcell : ∀ j, w.cell? ⟨g, j, none⟩ = cs[j]?) : Rd size (some ⟨g, 0, none⟩) n vs w := by
  have h := cells_of 5 m t _ _ hf hd
  rw [hv] at h
  have h' := Option.some.inj h
  refine ⟨hn, fun _ => ⟨_, rfl, fun j u hu => ?_⟩⟩
  rw [add_none, Nat.zero_add, hcell j, ← Array.getElem?_toList, ← h']
  exact hu
end
end Go.Proofs.YtnhckgipdoojeaaGreatDoor.Sx
