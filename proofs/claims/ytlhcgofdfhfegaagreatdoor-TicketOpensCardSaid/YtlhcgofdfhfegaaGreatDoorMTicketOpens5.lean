/- Texts joined: EqT, Tkj, Tkm, Hnd, SxArg, Laid, Laid2. -/
import Derived.Test.YtlhcgofdfhfegaaGreatDoorMTicketOpens4
import Derived.Test.YtlhcgofdfhfegaaGreatDoorMTicketOpens3
import Derived.Handed
import Derived.Shelf.Vars
import Derived.Test.YtlhcgofdfhfegaaGreatDoorMTicketOpens2
import Derived.Below
import Derived.OpenShut
import Derived.ChangeArms
import Derived.LaidMore
set_option linter.unusedVariables false
set_option linter.unusedSimpArgs false
namespace Go.Proofs.YtlhcgofdfhfegaaGreatDoor.Sx
open Go
attribute [local irreducible] Calls
theorem eqFields_of {P : Program} {w : World} {d : Nat} {xs ys : Array Value} : ∀ (sp : List ((String × TypeId × Nat) × Bool)) (fs : List Field), fs.map (fun f => (f.name, f.type, f.offset)) = sp.map (·.1) → (∀ s ∈ sp, s.1.1 ≠ "_" ∧ ∃ a b, (part s.1.2.1 xs s.1.2.2).run P w = .ok a w ∧ (part s.1.2.1 ys s.1.2.2).run P w = .ok b w ∧ (Op.equalIn d s.1.2.1 a b).run P w = .ok s.2 w) →
    (Op.eqFields d xs ys fs).run P w = .ok (sp.all (·.2)) w
  | [], fs, h, _ => by
    obtain rfl : fs = [] := List.map_eq_nil_iff.1 h
    rfl
  | s :: r, [], h, _ => by cases h
  | s :: r, f :: fs, h, hs => by
    rw [List.map_cons, List.map_cons] at h
    injection h with h1 h2
    obtain ⟨hn, a, b, ha, hb, hc⟩ := hs s List.mem_cons_self
    rw [← h1] at hn ha hb hc
    have ih := eqFields_of r fs h2 (fun x hx => hs x (List.mem_cons_of_mem _ hx))
    simp only at hn ha hb hc
    simp only [Op.eqFields, hn, ne_eq, not_false_eq_true, if_true, Sem.run_bind, ha, hb, hc, Result.andThen_ok, Sem.run_ite, Sem.run_pure, List.all_cons]
    cases s.2 with
    | true => simp [ih]
    | false => simp
theorem who_fields : (Tryz.prog.fieldsOf ty_api_Who).toList.map (fun f => (f.name, f.type, f.offset)) = [("Tenant", ty_string, 0), ("User", ty_string, 1), ("Role", ty_string, 2)] := by kernel_rfl
theorem who_guard : Tryz.prog.eqGuardType Tryz.prog.depth ty_api_Who = false := by kernel_rfl
theorem who_held : Tryz.prog.stoodInHeld ty_api_Who = false := by kernel_rfl
theorem who_under : Tryz.prog.underlying ty_api_Who = some (.struct (Tryz.prog.fieldsOf ty_api_Who)) := by kernel_rfl
def whoV (a b c : List UInt8) : Value := .agg #[.string (mkS a), .string (mkS b), .string (mkS c)]
theorem eqStr (d : Nat) (a b : List UInt8) (w : World) : (Op.equalIn (d + 1) ty_string (.string (mkS a)) (.string (mkS b))).run Tryz.prog w = .ok (decide (a = b)) w := by
  rw [run_equalIn_string w d ty_string (mkS a) (mkS b) ((ok9).real (d := .string) rfl rfl)]
  congr 1
  by_cases h : a = b
  · simp [h]
  · have : ¬ (mkS a).toList = (mkS b).toList := fun q => h (mkS_one (by apply ByteArray.ext; exact Array.toList_inj.1 (by simpa [ByteArray.toList_eq] using q)))
    simp [h, this]
theorem eqWho_at (d : Nat) (a b c a' b' c' : List UInt8) (w : World) : (Op.equalIn (d + 2) ty_api_Who (whoV a b c) (whoV a' b' c')).run Tryz.prog w = .ok (decide (a = a' ∧ b = b' ∧ c = c')) w := by
  unfold whoV
  rw [run_equalIn_struct w (d + 1) _ _ _ who_under who_held, eqFields_of [(("Tenant", ty_string, 0), decide (a = a')), (("User", ty_string, 1), decide (b = b')), (("Role", ty_string, 2), decide (c = c'))] _ who_fields]
  · congr 1
    simp only [List.all_cons, List.all_nil, Bool.and_true, ← Bool.decide_and]
  · intro s hs
    simp only [List.mem_cons, List.not_mem_nil, or_false] at hs
    rcases hs with rfl | rfl | rfl
    · exact ⟨by show ("Tenant" : String) ≠ "_"; decide, .string (mkS a), .string (mkS a'), by simp [part], by simp [part], eqStr d a a' w⟩
    · exact ⟨by show ("User" : String) ≠ "_"; decide, .string (mkS b), .string (mkS b'), by simp [part], by simp [part], eqStr d b b' w⟩
    · exact ⟨by show ("Role" : String) ≠ "_"; decide, .string (mkS c), .string (mkS c'), by simp [part], by simp [part], eqStr d c c' w⟩
structure TkTy (T : TypeId) : Prop where
  fields : (Tryz.prog.fieldsOf T).toList.map (fun f => (f.name, f.type, f.offset)) = [("Epoch", ty_uint64, 0), ("Serial", ty_uint64, 1), ("From", ty_uint64, 2), ("To", ty_uint64, 3), ("Gen", ty_uint64, 4), ("Who", ty_api_Who, 5)]
  guard : Tryz.prog.eqGuardType Tryz.prog.depth T = false
  held : Tryz.prog.stoodInHeld T = false
  under : Tryz.prog.underlying T = some (.struct (Tryz.prog.fieldsOf T))
theorem tkTy_p : TkTy ty_ticket_Ticket := ⟨by kernel_rfl, by kernel_rfl, by kernel_rfl, by kernel_rfl⟩
theorem eqU64 (d : Nat) (a b : Nat) (w : World) : (Op.equalIn (d + 1) ty_uint64 (.int .u64 (a : Int)) (.int .u64 (b : Int))).run Tryz.prog w = .ok (decide (a = b)) w := by
  rw [run_equalIn_int w d ty_uint64 .u64 .u64 _ _ ((ok22).real (d := .int .u64) rfl rfl)]
  congr 1
  by_cases h : a = b
  · simp [h]
  · have : ¬ (a : Int) = (b : Int) := by omega
    simp [h, this]
theorem tk_ext {t u : Tk} : t = u ↔ (t.epoch = u.epoch ∧ t.serial = u.serial ∧ t.fro = u.fro ∧ t.til = u.til ∧ t.gen = u.gen ∧ t.ten = u.ten ∧ t.usr = u.usr ∧ t.rol = u.rol) := by
  obtain ⟨a, b, c, d, e, f, g, h⟩ := t
  obtain ⟨a', b', c', d', e', f', g', h'⟩ := u
  simp
theorem part_who (a b c d e : Value) (f g h : Value) (w : World) : (part ty_api_Who #[a, b, c, d, e, f, g, h] 5).run Tryz.prog w = .ok (.agg #[f, g, h]) w := by
  have h1 : (isAgg ty_api_Who).run Tryz.prog w = .ok true w := (ok24).run_agg w
  simp [part, h1]
open Classical in
theorem eqTk_at {T : TypeId} (hT : TkTy T) (d : Nat) (t u : Tk) (w : World) : (Op.equalIn (d + 3) T (.agg t.cells.toArray) (.agg u.cells.toArray)).run Tryz.prog w = .ok (decide (t = u)) w := by
  rw [run_equalIn_struct w (d + 2) _ _ _ hT.under hT.held, eqFields_of [(("Epoch", ty_uint64, 0), decide (t.epoch = u.epoch)), (("Serial", ty_uint64, 1), decide (t.serial = u.serial)), (("From", ty_uint64, 2), decide (t.fro = u.fro)), (("To", ty_uint64, 3), decide (t.til = u.til)), (("Gen", ty_uint64, 4), decide (t.gen = u.gen)), (("Who", ty_api_Who, 5), decide (t.ten = u.ten ∧ t.usr = u.usr ∧ t.rol = u.rol))] _ hT.fields]
  · congr 1
    simp only [List.all_cons, List.all_nil, Bool.and_true, ← Bool.decide_and]
    exact decide_eq_decide.2 tk_ext.symm
  · intro s hs
    simp only [List.mem_cons, List.not_mem_nil, or_false] at hs
    rcases hs with rfl | rfl | rfl | rfl | rfl | rfl
    · exact ⟨by show ("Epoch" : String) ≠ "_"; decide, .int .u64 t.epoch, .int .u64 u.epoch, by simp [part, Tk.cells], by simp [part, Tk.cells], eqU64 (d + 1) _ _ w⟩
    · exact ⟨by show ("Serial" : String) ≠ "_"; decide, .int .u64 t.serial, .int .u64 u.serial, by simp [part, Tk.cells], by simp [part, Tk.cells], eqU64 (d + 1) _ _ w⟩
    · exact ⟨by show ("From" : String) ≠ "_"; decide, .int .u64 t.fro, .int .u64 u.fro, by simp [part, Tk.cells], by simp [part, Tk.cells], eqU64 (d + 1) _ _ w⟩
    · exact ⟨by show ("To" : String) ≠ "_"; decide, .int .u64 t.til, .int .u64 u.til, by simp [part, Tk.cells], by simp [part, Tk.cells], eqU64 (d + 1) _ _ w⟩
    · exact ⟨by show ("Gen" : String) ≠ "_"; decide, .int .u64 t.gen, .int .u64 u.gen, by simp [part, Tk.cells], by simp [part, Tk.cells], eqU64 (d + 1) _ _ w⟩
    · exact ⟨by show ("Who" : String) ≠ "_"; decide, whoV t.ten t.usr t.rol, whoV u.ten u.usr u.rol, part_who _ _ _ _ _ _ _ _ w, part_who _ _ _ _ _ _ _ _ w, eqWho_at d _ _ _ _ _ _ w⟩
theorem eql_who (a b c a' b' c' : List UInt8) (p q : Operand) (w : World) : (binSem .eql ty_api_Who p q (whoV a b c) (whoV a' b' c')).run Tryz.prog w = .ok (.bool (decide (a = a' ∧ b = b' ∧ c = c'))) w := by
  have he := eqWho_at 9998 a b c a' b' c' w
  unfold binSem
  unfold whoV at he ⊢
  simp only [Sem.run_bind, run_eqGuard_agg w _ _ _ _ _ _ who_guard, Result.andThen_ok, run_eql_struct, he]
open Classical in
theorem eql_tk {T : TypeId} (hT : TkTy T) (t u : Tk) (p q : Operand) (w : World) : (binSem .eql T p q (.agg t.cells.toArray) (.agg u.cells.toArray)).run Tryz.prog w = .ok (.bool (decide (t = u))) w := by
  have he := eqTk_at hT 9997 t u w
  unfold binSem
  unfold Tk.cells at he ⊢
  simp only [Sem.run_bind, run_eqGuard_agg w _ _ _ _ _ _ hT.guard, Result.andThen_ok, run_eql_struct, he]
open Classical in
theorem eql_same {T : TypeId} (hT : TkTy T) (t : Tk) (p q : Operand) (w : World) : (binSem .eql T p q (.agg t.cells.toArray) (.agg t.cells.toArray)).run Tryz.prog w = .ok (.bool true) w := by
  have h := eql_tk hT t t p q w
  rw [decide_eq_true rfl] at h
  exact h
theorem body_len {t : Tk} (hR : t.Right) : (bodyL t).length ≤ 136 ∧ 1 ≤ (bodyL t).length := by
  have l1 := plainF_len hR.ten
  have l2 := namedT_len hR.usr
  have l3 := plainF_len hR.rol
  unfold bodyL txtL
  simp only [List.length_cons, List.length_append, be_length]
  omega
theorem txt_len {t : Tk} (hR : t.Right) {m : List UInt8} (hm : m.length = 32) : (tkTxt t m).length ≤ 300 := by
  have h1 := b64L_len true (bodyL t)
  have h2 := b64L_len true m
  have h3 := body_len hR
  unfold tkTxt
  rw [List.length_append, List.length_cons]
  show (b64L true (bodyL t)).length + ((b64L true m).length + 1) ≤ 300
  omega
theorem open_some {ky : Int → Option (List UInt8)} {gone : Int → Bool} {B B' : Bx.Box} {t : Tk} {k m : List UInt8} (now : Nat) (hR : t.Right) (hm : m.length = 32) (hk : ky (t.epoch : Int) = some k) (hmac : macB B k (labL ++ bodyL t) = (m, B')) :
    openT ky gone B (tkTxt t m) now = if now < t.fro ∨ t.til ≤ now then (tk0, 9, B') else if gone (t.serial : Int) = true then (tk0, 16, B') else (t, 0, B') := by
  unfold openT tkTxt
  rw [split_join hm (Nat.le_trans (txt_len hR hm) (by decide))]
  simp only
  rw [read_iff.2 ⟨hR, rfl⟩]
  simp only [hk, hmac]
  rw [if_pos trivial]
theorem open_none {ky : Int → Option (List UInt8)} {gone : Int → Bool} {B : Bx.Box} {t : Tk} {m : List UInt8} (now : Nat) (hR : t.Right) (hm : m.length = 32) (hk : ky (t.epoch : Int) = none) :
    openT ky gone B (tkTxt t m) now = (tk0, 15, B) := by
  unfold openT tkTxt
  rw [split_join hm (Nat.le_trans (txt_len hR hm) (by decide))]
  simp only
  rw [read_iff.2 ⟨hR, rfl⟩]
  simp only [hk]
def annT : List UInt8 := [116]
def annU : List UInt8 := [97, 110, 110]
def annR : List UInt8 := [100, 101, 118]
theorem ann_ok : namedT annU = true ∧ plainF annT = true ∧ plainF annR = true := by decide +kernel
theorem ann_c (w : World) : Pu Tryz.prog n_ostiarylaw18_ann #[] w (.agg #[.string (mkS annT), .string (mkS annU), .string (mkS annR)]) := by
  have g := good_ostiarylaw18_ann w (Un [])
  refine con_of_sx (cx := cx_ostiarylaw18_ann w (Un [])) g b_ostiarylaw18_ann rfl rfl (β := Va.z) [] 0 [] [] rfl rfl (Sat.start rfl) ?_
  intro β w' hs
  exact (hs.keepB (List.nil_sublist _)).fin [] ⟨rfl, rfl⟩
theorem desk18_c (w : World) (sym : Bool) (life : Nat) (h1 : 1 ≤ life) (h2 : life ≤ 1099511627776) (hm : Mem w [oddF 4, firstF 1]) :
    Con Tryz.prog n_ostiarylaw18_desk #[.bool sym, .int .u64 (life : Int)] w [] fun v Fs => ∃ (r : Rg) (y : Lay) (b m1 m2 : Nat), v = .tuple #[ptrD b, ptrR r.b] ∧ r.master = [109] ∧ Kept r 3 0 (macB ⟨sym, false, []⟩ [109] (keyT 1).data.toList).1 ∧ GoodT ⟨sym, false, []⟩ (macB ⟨sym, false, []⟩ [109] (keyT 1).data.toList) ∧ y.ts.map (·.1) = (macB ⟨sym, false, []⟩ [109] (keyT 1).data.toList).2.L ∧
      Fs = [dkF ⟨b, r.b, life, 0, m1, m2, [], []⟩, rgF r, bxF r.bx (macB ⟨sym, false, []⟩ [109] (keyT 1).data.toList).2 y] := by
  have g := good_ostiarylaw18_desk w (Un [])
  refine con_go (cx := cx_ostiarylaw18_desk w (Un [])) g b_ostiarylaw18_desk [.c (.v (.bool sym)), .c (.v (.int .u64 (life : Int)))] [oddF 4, firstF 1] hm ?_
  refine call_con [] (fun β w' hs => newX_c w' sym) ?_
  rintro v Fs ⟨b0, y0, rfl, hy0, rfl⟩
  intro b1
  refine ⟨0, _, rfl, ?_⟩
  have hi0 := box0i sym
  obtain ⟨B, hB⟩ : ∃ B : Bx.Box, (⟨sym, false, []⟩ : Bx.Box) = B := ⟨_, rfl⟩
  have hL0 : B.L.length ≤ 0 := by rw [← hB]; exact Nat.le_refl _
  have hts0 : y0.ts.map (·.1) = B.L := by rw [← hB, hy0]; rfl
  rw [hB] at hi0 ⊢
  refine call_con [1] (fun β w' hs => newK_c w' b0 B y0 (some ⟨b1, 0, none⟩) [109] 1 3 (by decide) (by decide) (by decide) (by decide) hts0 hi0 (by omega) (hs.mem.take (js := [1, 0, 2, 3]) rfl)) ?_
  rintro v Fs ⟨r, y1, rfl, rb1, hma, k1, g1, hy1, rfl⟩
  refine call_con [] (fun β w' hs => newDesk_c w' r.b life) ?_
  rintro v Fs (⟨_, _, b, m1, m2, rfl, rfl⟩ | ⟨h, _⟩)
  rotate_left
  · exact absurd ⟨h1, h2⟩ h
  intro β w' hs
  exact hs.fin [0, 1, 2] ⟨r, y1, b, m1, m2, rfl, hma, k1, g1, hy1, by rw [rb1]; rfl⟩ rfl rfl rfl ⟨rfl, rfl, rfl, trivial⟩
theorem mnt_yes {r : Rg} {d : Dk} {B B2 : Bx.Box} {t : Tk} {v : Value} {Fs : List Fact} {k m : List UInt8} (h : mntOut r d B t v Fs) (hR : t.Right) (hk : r.ky (r.epoch : Int) = some k) (hq : macB B k (labL ++ bodyL t) = (m, B2)) :
    ∃ y', v = .tuple #[.string (mkS (tkTxt t m)), t.v, .int .i64 0] ∧ y'.ts.map (·.1) = B2.L ∧ Fs = [dkF (d.more t), rgF r, bxF r.bx B2 y'] := by
  rcases h with ⟨k', y', _, hk', rfl, hy, rfl⟩ | ⟨e, y', h, _⟩
  · rw [hk] at hk'
    obtain rfl := Option.some.inj hk'
    rw [hq] at hy ⊢
    exact ⟨y', rfl, hy, rfl⟩
  · rcases h with ⟨h, _⟩ | ⟨_, h, _⟩
    · exact absurd hR h
    · rw [hk] at h; cases h
theorem Kept.ky {r : Rg} {k t : Nat} {k1 : List UInt8} (h : Kept r k t k1) (hlt : t < k) : r.ky 1 = some k1 := by
  obtain ⟨q, hq, hp⟩ := h.key hlt
  unfold Rg.ky
  rw [hq, ← hp]
  rfl
theorem Kept.ep1 {r : Rg} {k : Nat} {k1 : List UInt8} (h : Kept r k 0 k1) (hlt : 0 < k) : r.ep = 1 := by
  obtain ⟨q, hq, _⟩ := h.key hlt
  have he := h.ep
  unfold Rg.ep
  rw [he]
  show (match r.key ((1 : Nat) : Int) with | some _ => 1 | none => 1) = 1
  split <;> rfl
def dk1 (b rb life m1 m2 : Nat) : Dk := ⟨b, rb, life, 0, m1, m2, [], []⟩
theorem awake18_c (w : World) (hm : Mem w [oddF 4, firstF 1, mlF, namF]) : Con Tryz.prog n_ostiarylaw18_awake #[] w [] fun v Fs => v = .bool true ∧ Fs = [] := by
  have g := good_ostiarylaw18_awake w (Un [])
  refine con_go (cx := cx_ostiarylaw18_awake w (Un [])) g b_ostiarylaw18_awake [] [oddF 4, firstF 1, mlF, namF] hm ?_
  refine call_con [] (fun β w' hs => desk18_c w' false 10 (by decide) (by decide) (hs.mem.take (js := [0, 1]) rfl)) ?_
  rintro v Fs ⟨r, y1, b, m1, m2, rfl, hma, kp, g1, hy1, rfl⟩
  generalize macB ⟨false, false, []⟩ [109] (keyT 1).data.toList = q1 at *
  obtain ⟨k1, B1⟩ := q1
  have l1 := g1.1.len
  have hk32 := g1.2.1
  have hi1 := g1.1.inv
  simp only at l1 hy1 kp hk32 hi1
  have hL1 : B1.L.length ≤ 1 := l1
  have hep : r.epoch = 1 := kp.ep
  have hep1 := kp.ep1 (by decide)
  have hky := kp.ky (by decide)
  refine call_pu (fun β w' hs => ann_c w') ?_
  obtain ⟨t, ht⟩ : ∃ t : Tk, (⟨1, 1, 5, 15, 7, annT, annU, annR⟩ : Tk) = t := ⟨_, rfl⟩
  have hR : t.Right := by
    obtain ⟨a1, a2, a3⟩ := ann_ok
    rw [← ht]
    exact ⟨a1, a2, a3, by decide, by decide, by decide, by decide, by decide, by decide, by decide, by decide⟩
  obtain ⟨q, hq⟩ : ∃ q, macB B1 k1 (labL ++ bodyL t) = q := ⟨_, rfl⟩
  have hbl := body_len hR
  have g2 := mac_good hi1 (by omega) (k := k1) (t := labL ++ bodyL t) (by omega) (by rw [List.length_append]; show 7 + _ ≤ _; omega)
  have h2a := mac_again (B := B1) (B' := (macB B1 k1 (labL ++ bodyL t)).2) (by omega) k1 (labL ++ bodyL t) (Pre.refl _)
  rw [hq] at g2 h2a
  obtain ⟨m, B2⟩ := q
  have l2 := g2.1.len
  have hm32 := g2.2.1
  have hi2 := g2.1.inv
  simp only at l2 hm32 hi2 h2a
  refine call_con [0, 1, 2] (fun β w' hs => (tkMint_c w' (dk1 b r.b 10 m1 m2) r B1 y1 annT annU annR 7 5 (by decide) (by decide) (by decide) (by decide) (by decide) rfl (Nat.zero_le _) (by omega) kp.p hy1 hi1 (by omega) (hs.mem.take (js := [0, 1, 2, 3, 4, 6]) rfl)).mono (fun v Fs h => by
    rw [hep1, show (⟨1, (dk1 b r.b 10 m1 m2).serial + 1, 5, addT 5 (dk1 b r.b 10 m1 m2).life, 7, annT, annU, annR⟩ : Tk) = t from ht] at h
    exact mnt_yes h hR (by rw [hep]; exact hky) hq)) ?_ ⟨rfl, rfl, rfl, trivial⟩
  rintro v Fs ⟨y2, rfl, hy2, rfl⟩
  obtain ⟨d2, hd2⟩ : ∃ d2, (dk1 b r.b 10 m1 m2).more t = d2 := ⟨_, rfl⟩
  have hb2 : d2.b = b := by rw [← hd2]; rfl
  have hr2 : d2.rb = r.b := by rw [← hd2]; rfl
  have hv2 : d2.rv = [] := by rw [← hd2]; rfl
  have ht2 : ilook d2.to 1 = some (.int .u64 15) := by rw [← hd2, ← ht]; rfl
  have hkt : r.ky (t.epoch : Int) = some k1 := by rw [← ht]; exact hky
  have htl := txt_len hR hm32
  have hfro : t.fro = 5 := by rw [← ht]
  have htil : t.til = 15 := by rw [← ht]
  have hser : t.serial = 1 := by rw [← ht]
  rw [hd2, ← hb2]
  refine call_con [0, 1, 2] (R := opnOut r d2 (t, 0, B2)) (fun β w' hs => by
    have h := tkOpen_c w' d2 r B2 y2 (tkTxt t m) 14 (by omega) hr2 kp.p hy2 hi2 (by omega) (by rw [hv2]; intro k v q; cases q) (hs.mem.take (js := [0, 1, 2, 3, 4, 5, 6]) rfl)
    rw [open_some 14 hR hm32 hkt h2a, if_neg (by omega), if_neg (by unfold Dk.gone; rw [hv2]; intro h; cases h)] at h
    exact h) ?_ ⟨rfl, rfl, rfl, trivial⟩
  rintro v Fs ⟨y3, hy3, rfl, rfl⟩
  simp only at hy3
  refine call_con [0, 1, 2] (R := opnOut r d2 (tk0, 9, B2)) (fun β w' hs => by
    have h := tkOpen_c w' d2 r B2 y3 (tkTxt t m) 15 (by omega) hr2 kp.p hy3 hi2 (by omega) (by rw [hv2]; intro k v q; cases q) (hs.mem.take (js := [0, 1, 2, 3, 4, 5, 6]) rfl)
    rw [open_some 15 hR hm32 hkt h2a, if_pos (by omega)] at h
    exact h) ?_ ⟨rfl, rfl, rfl, trivial⟩
  rintro v Fs ⟨y4, hy4, rfl, rfl⟩
  simp only at hy4
  refine call_con [0] (fun β w' hs => (tkRevoke_c w' d2 1 (by rw [hv2]; intro v q; cases q) (hs.mem.take (js := [0]) rfl)).mono (fun v Fs h => by
    unfold revD at h
    rw [show ((1 : Nat) : Int) = 1 from rfl, ht2, hv2, if_neg (by simp), if_pos (show ilook [] (1 : Int) = none from rfl)] at h
    exact h)) ?_
  rintro v Fs ⟨rfl, rfl⟩
  obtain ⟨d3, hd3⟩ : ∃ d3 : Dk, ({ d2 with rv := iput [] 1 (.bool true) } : Dk) = d3 := ⟨_, rfl⟩
  have hb3 : d2.b = d3.b := by rw [← hd3]
  have hr3 : d3.rb = r.b := by rw [← hd3]; exact hr2
  have hv3 : d3.rv = [(1, .bool true)] := by rw [← hd3]; rfl
  rw [hd3, hb3]
  refine call_con [0, 1, 2] (R := opnOut r d3 (tk0, 16, B2)) (fun β w' hs => by
    have h := tkOpen_c w' d3 r B2 y4 (tkTxt t m) 14 (by omega) hr3 kp.p hy4 hi2 (by omega) (by rw [hv3]; intro k v q; unfold ilook at q; split at q; exact (Option.some.inj q).symm; cases q) (hs.mem.take (js := [0, 1, 2, 3, 4, 5, 6]) rfl)
    rw [open_some 14 hR hm32 hkt h2a, if_neg (by omega), if_pos (by unfold Dk.gone; rw [hv3, hser]; rfl)] at h
    exact h) ?_ ⟨rfl, rfl, rfl, trivial⟩
  rintro v Fs ⟨y5, hy5, rfl, rfl⟩
  subst ht
  refine draw_rule g p_ostiarylaw18_awake_7 (by kernel_rfl) [⟨3, ty_ticket_Ticket, tk0.cells.map SL.v⟩, ⟨2, ty_ticket_Ticket, tk0.cells.map SL.v⟩, ⟨1, ty_ticket_Ticket, (Tk.cells ⟨1, 1, 5, 15, 7, annT, annU, annR⟩).map SL.v⟩, ⟨0, ty_ticket_Ticket, (Tk.cells ⟨1, 1, 5, 15, 7, annT, annU, annR⟩).map SL.v⟩] [] (Sub.of (List.Sublist.refl _) (List.nil_sublist _)) ?_
  refine call_pu (fun β w' hs => ann_c w') ?_
  refine ⟨Sub.of (List.Sublist.refl _) (List.nil_sublist _), ?_⟩
  refine ⟨true, fun β w' => by
    have h := eql_who annT annU annR annT annU annR (.tmp 56) (.tmp 57) w'
    rw [decide_eq_true (⟨rfl, rfl, rfl⟩ : annT = annT ∧ annU = annU ∧ annR = annR)] at h
    exact h, ?_⟩
  intro β w' hs
  exact (hs.keepB (List.nil_sublist _)).fin [] ⟨rfl, rfl⟩
structure OpnJ where
  j : Nat
  r : Rg
  B : Bx.Box
  y : Lay
structure OpnJ.Ok (i : OpnJ) (rb : Nat) (k1 : List UInt8) (bx : Nat) (B2 : Bx.Box) (n : Nat) : Prop where
  j : i.j ≤ n
  b : i.r.b = rb
  bx : i.r.bx = bx
  ma : i.r.master = [109]
  kp : Kept i.r 3 i.j k1
  pre : Pre B2 i.B
  inv : BInv i.B
  len : i.B.L.length ≤ 2 + i.j
  ts : i.y.ts.map (·.1) = i.B.L
theorem ticketOpens_c (w : World) (life gen at_ later rot : Nat) (rev : Bool) (hlf : life ≤ 65535) (hgn : gen ≤ 4294967295) (hat : at_ ≤ 4294967295) (hlt : later ≤ 4294967295) (hro : rot ≤ 255) (hm : Mem w [oddF 4, firstF 1, mlF, namF]) :
    Con Tryz.prog n_ostiarylaw18_TicketOpens #[.int .u16 (life : Int), .int .u32 (gen : Int), .int .u32 (at_ : Int), .int .u32 (later : Int), .int .u8 (rot : Int), .bool rev] w [] fun v Fs => v = .bool true ∧ Fs = [] := by
  have g := good_ostiarylaw18_TicketOpens w (Un [])
  refine con_goT (cx := cx_ostiarylaw18_TicketOpens w (Un [])) g b_ostiarylaw18_TicketOpens [.c (.v (.int .u16 (life : Int))), .c (.v (.int .u32 (gen : Int))), .c (.v (.int .u32 (at_ : Int))), .c (.v (.int .u32 (later : Int))), .c (.v (.int .u8 (rot : Int))), .c (.v (.bool rev))] [oddF 4, firstF 1, mlF, namF] hm ?_
  refine tri_seq g ?_
  refine tri_seq g ?_
  refine call_con [] (fun β w' hs => awake18_c w' (hs.mem.take (js := [0, 1, 2, 3]) rfl)) ?_
  rintro v Fs ⟨rfl, rfl⟩
  refine tri_seq g ?_
  obtain ⟨l, hl⟩ : ∃ l : Nat, 1 + life = l := ⟨_, rfl⟩
  refine ⟨(life : Int), by rw [wrap_u64]; omega, ?_⟩
  refine ⟨(l : Int), by rw [wrap_u64]; omega, ?_⟩
  refine tri_seq g ?_
  refine call_con [] (fun β w' hs => desk18_c w' false l (by omega) (by omega) (hs.mem.take (js := [0, 1]) rfl)) ?_
  rintro v Fs ⟨r, y1, b, m1, m2, rfl, hma, kp, g1, hy1, rfl⟩
  generalize macB ⟨false, false, []⟩ [109] (keyT 1).data.toList = q1 at *
  obtain ⟨k1, B1⟩ := q1
  have l1 := g1.1.len
  have hk32 := g1.2.1
  have hi1 := g1.1.inv
  simp only at l1 hy1 kp hk32 hi1
  have hL1 : B1.L.length ≤ 1 := l1
  have hep : r.epoch = 1 := kp.ep
  have hep1 := kp.ep1 (by decide)
  have hky := kp.ky (by decide)
  refine tri_seq g ?_
  refine ⟨(at_ : Int), by rw [wrap_u64]; omega, ?_⟩
  refine tri_seq g ?_
  refine call_pu (fun β w' hs => ann_c w') ?_
  refine ⟨(gen : Int), by rw [wrap_u64]; omega, ?_⟩
  refine ⟨((1 + gen : Nat) : Int), by rw [wrap_u64]; omega, ?_⟩
  have hadd : addT at_ l = at_ + l := by unfold addT; omega
  obtain ⟨t, ht⟩ : ∃ t : Tk, (⟨1, 1, at_, at_ + l, 1 + gen, annT, annU, annR⟩ : Tk) = t := ⟨_, rfl⟩
  have hR : t.Right := by
    obtain ⟨a1, a2, a3⟩ := ann_ok
    rw [← ht]
    exact ⟨a1, a2, a3, by show 1 ≤ 1; decide, by show 1 ≤ 4294967295; decide, by show 1 ≤ 1; decide, by show 1 ≤ 9007199254740992; decide, by show 1 ≤ 1 + gen; omega, by show 1 + gen ≤ _; omega, by show at_ < at_ + l; omega, by show at_ + l ≤ _; omega⟩
  obtain ⟨q, hq⟩ : ∃ q, macB B1 k1 (labL ++ bodyL t) = q := ⟨_, rfl⟩
  have hbl := body_len hR
  have g2 := mac_good hi1 (by omega) (k := k1) (t := labL ++ bodyL t) (by omega) (by rw [List.length_append]; show 7 + _ ≤ _; omega)
  have h2a : ∀ B', Pre (macB B1 k1 (labL ++ bodyL t)).2 B' → macB B' k1 (labL ++ bodyL t) = ((macB B1 k1 (labL ++ bodyL t)).1, B') := fun B' hp => mac_again (B := B1) (by omega) k1 (labL ++ bodyL t) hp
  rw [hq] at g2 h2a
  obtain ⟨m, B2⟩ := q
  have l2 := g2.1.len
  have hm32 := g2.2.1
  have hi2 := g2.1.inv
  simp only at l2 hm32 hi2 h2a
  refine call_con [0, 1, 2] (fun β w' hs => (tkMint_c w' (dk1 b r.b l m1 m2) r B1 y1 annT annU annR (1 + gen) at_ (by decide) (by decide) (by decide) (by omega) (by omega) rfl (Nat.zero_le _) (by omega) kp.p hy1 hi1 (by omega) (hs.mem.take (js := [0, 1, 2, 3, 4, 6]) rfl)).mono (fun v Fs h => by
    rw [hep1, show addT at_ (dk1 b r.b l m1 m2).life = at_ + l from hadd, show (⟨1, (dk1 b r.b l m1 m2).serial + 1, at_, at_ + l, 1 + gen, annT, annU, annR⟩ : Tk) = t from ht] at h
    exact mnt_yes h hR (by rw [hep]; exact hky) hq)) ?_ ⟨rfl, rfl, rfl, trivial⟩
  rintro v Fs ⟨y2, rfl, hy2, rfl⟩
  obtain ⟨d2, hd2⟩ : ∃ d2, (dk1 b r.b l m1 m2).more t = d2 := ⟨_, rfl⟩
  have hb2 : d2.b = b := by rw [← hd2]; rfl
  have hr2 : d2.rb = r.b := by rw [← hd2]; rfl
  have hv2 : d2.rv = [] := by rw [← hd2]; rfl
  have ht2 : ilook d2.to 1 = some (.int .u64 ((at_ + l : Nat) : Int)) := by rw [← hd2, ← ht]; rfl
  have hkt : (t.epoch : Int) = 1 := by rw [← ht]; rfl
  have htl := txt_len hR hm32
  have hfro : t.fro = at_ := by rw [← ht]
  have htil : t.til = at_ + l := by rw [← ht]
  have hser : t.serial = 1 := by rw [← ht]
  rw [hd2, ← hb2]
  refine tri_seq g ?_
  refine BIf.not (BIf.dec (fun _ => ?_) (fun h => absurd (show (t.fro : Int) = (at_ : Int) by omega) h))
  refine ⟨((at_ + l : Nat) : Int), by rw [wrap_u64]; omega, ?_⟩
  refine BIf.not (BIf.dec (fun _ => ?_) (fun h => absurd (show (t.til : Int) = ((at_ + l : Nat) : Int) by omega) h))
  refine BIf.not (BIf.dec (fun _ => ?_) (fun h => absurd (show (t.serial : Int) = 1 by omega) h))
  refine tri_seq g ?_
  obtain ⟨k, hk⟩ : ∃ k : Nat, rot % 5 = k := ⟨_, rfl⟩
  refine ⟨by decide, ((k : Nat) : Int), by rw [← hk]; exact Int.ofNat_tmod _ _, ?_⟩
  refine ⟨(k : Int), by rw [wrap_i64 (by omega) (by omega)], ?_⟩
  obtain ⟨rb, hrb⟩ : ∃ rb, r.b = rb := ⟨_, rfl⟩
  obtain ⟨bx, hbx⟩ : ∃ bx, r.bx = bx := ⟨_, rfl⟩
  rw [hrb] at hr2 ⊢
  rw [hbx]
  refine tri_seq g ?_
  refine loop_rule (ι := OpnJ) 1 (fun i => [(3, .c (.v (.int .u32 (later : Int)))), (5, .c (.v (.bool rev))), (13, .c (.v (.int .u64 (l : Int)))), (14, .c (.v (ptrD d2.b))), (15, .c (.v (ptrR rb))), (16, .c (.v (.int .u64 (at_ : Int)))), (17, .c (.v (.string (mkS (tkTxt t m))))), (18, .c (.p 0 0)), (20, .c (.v (.int .i64 (k : Int)))), (72, .c (.v (.int .i64 (k : Int)))), (73, .c (.v (.int .i64 (i.j : Int))))])
    (fun _ => [⟨0, ty_ticket_Ticket, t.cells.map SL.v⟩]) (fun i => [dkF d2, rgF i.r, bxF bx i.B i.y, oddF 4, firstF 1, mlF, namF]) (fun i => i.Ok rb k1 bx B2 k) (fun i => k - i.j) ⟨0, r, B2, y2⟩ ⟨Nat.zero_le _, hrb, hbx, hma, kp, Pre.refl _, hi2, by show B2.L.length ≤ 2 + 0; omega, hy2⟩ (Ent.mk' ⟨rfl, rfl, rfl, rfl, rfl, rfl, rfl, rfl, rfl, rfl, rfl, trivial⟩ rfl (fun β w' hs => hs)) g ?_
  rintro ⟨j, r, B, y⟩ hi
  have hj := hi.j
  have hib := hi.b
  have hibx := hi.bx
  have hima := hi.ma
  have hikp := hi.kp
  have hipre := hi.pre
  have hiinv := hi.inv
  have hilen := hi.len
  have hits := hi.ts
  simp only at hj hib hibx hima hikp hipre hiinv hilen hits
  refine BIf.dec (fun hlt => ?_) (fun hge => ?_)
  · have hlt0 : (j : Int) < (k : Int) := hlt
    refine call_con [1, 2] (fun β w' hs => by
      have h := rotateK_c w' bx r 3 j k1 hikp (by decide) (by omega) hibx B y hits hiinv (by omega) (hs.mem.take (js := [1, 2, 3, 4]) rfl)
      rw [hib] at h
      exact h) ?_
    rintro v Fs ⟨r', y', rfl, e1, e2, e3, hkp', hg', hy', rfl⟩
    have hgl := hg'.1.len
    refine ⟨((j + 1 : Nat) : Int), by rw [wrap_i64 (by omega) (by omega)]; rfl, ?_⟩
    exact ⟨⟨j + 1, r', (macB B r.master (keyT (r.epoch + 1)).data.toList).2, y'⟩, ⟨by show j + 1 ≤ k; omega, e1, e2, e3.trans hima, hkp', hipre.trans (mac_pre (by omega) _ _), hg'.1.inv, by show (macB B r.master (keyT (r.epoch + 1)).data.toList).2.L.length ≤ 2 + (j + 1); omega, hy'⟩, by show k - (j + 1) < k - j; omega, Ent.mk' ⟨rfl, rfl, rfl, rfl, rfl, rfl, rfl, rfl, rfl, rfl, rfl, trivial⟩ rfl (fun β w' hs => hs.perm [2, 0, 1, 3, 4, 5, 6])⟩
  · have hge0 : ¬ (j : Int) < (k : Int) := hge
    obtain rfl : j = k := by omega
    refine tri_seqJ (ι := Unit) g (fun _ => True) 1 (fun _ => [(3, .c (.v (.int .u32 (later : Int)))), (5, .c (.v (.bool rev))), (13, .c (.v (.int .u64 (l : Int)))), (14, .c (.v (ptrD d2.b))), (16, .c (.v (.int .u64 (at_ : Int)))), (17, .c (.v (.string (mkS (tkTxt t m))))), (18, .c (.p 0 0)), (20, .c (.v (.int .i64 (j : Int))))])
      (fun _ => [⟨0, ty_ticket_Ticket, t.cells.map SL.v⟩]) (fun _ => [dkF { d2 with rv := if rev then [(1, .bool true)] else [] }, rgF r, bxF bx B y, oddF 4, firstF 1, mlF, namF]) ?_ ?_
    rotate_left
    · cases rev with
      | false => exact EntX.of () trivial (Ent.mk' ⟨rfl, rfl, rfl, rfl, rfl, rfl, rfl, rfl, trivial⟩ rfl (fun β w' hs => by
          have e : ({ d2 with rv := if false = true then [(1, .bool true)] else [] } : Dk) = d2 := by
            show ({ d2 with rv := [] } : Dk) = d2
            rw [← hv2]
          show Sat _ _ _ _ (dkF { d2 with rv := if false = true then [(1, .bool true)] else [] } :: _) _
          rw [e]
          exact hs))
      | true =>
        refine call_con [0] (fun β w' hs => (tkRevoke_c w' d2 1 (by rw [hv2]; intro v q; cases q) (hs.mem.take (js := [0]) rfl)).mono (fun v Fs h => by
          unfold revD at h
          rw [show ((1 : Nat) : Int) = 1 from rfl, ht2, hv2, if_neg (by simp), if_pos (show ilook [] (1 : Int) = none from rfl)] at h
          exact h)) ?_
        rintro v Fs ⟨rfl, rfl⟩
        exact EntX.of () trivial (Ent.mk' ⟨rfl, rfl, rfl, rfl, rfl, rfl, rfl, rfl, trivial⟩ rfl (fun β w' hs => hs))
    rintro ⟨⟩ -
    obtain ⟨d3, hd3⟩ : ∃ d3 : Dk, ({ d2 with rv := if rev then [(1, .bool true)] else [] } : Dk) = d3 := ⟨_, rfl⟩
    have hb3 : d2.b = d3.b := by rw [← hd3]
    have hr3 : d3.rb = r.b := by rw [← hd3, hib]; exact hr2
    have hv3 : d3.rv = if rev then [(1, .bool true)] else [] := by rw [← hd3]
    have hrv : ∀ k v, ilook d3.rv k = some v → v = .bool true := by
      rw [hv3]
      intro k v q
      cases rev with
      | false => cases q
      | true =>
        have q2 : ilook [(1, Value.bool true)] k = some v := q
        unfold ilook at q2
        split at q2
        · exact (Option.some.inj q2).symm
        · cases q2
    have hgone : d3.gone (t.serial : Int) = rev := by
      unfold Dk.gone
      rw [hv3, hser]
      cases rev <;> rfl
    rw [hd3, hb3]
    subst hibx
    refine tri_seq g ?_
    refine ⟨(later : Int), by rw [wrap_u64]; omega, ?_⟩
    obtain ⟨then_, hth⟩ : ∃ x : Nat, at_ + later = x := ⟨_, rfl⟩
    refine ⟨(then_ : Int), by rw [wrap_u64]; omega, ?_⟩
    refine tri_seq g ?_
    have h2b := h2a B hipre
    have key : ∃ q : Tk × Int, q = (if 3 ≤ j then (tk0, 15) else if at_ + l ≤ then_ then (tk0, 9) else if rev = true then (tk0, 16) else (t, 0)) ∧ openT r.ky d3.gone B (tkTxt t m) then_ = (q.1, q.2, B) := by
      by_cases h3 : 3 ≤ j
      · refine ⟨(tk0, 15), by rw [if_pos h3], ?_⟩
        have hn : r.ky (t.epoch : Int) = none := by
          unfold Rg.ky
          rw [hkt, hikp.gone h3]
          rfl
        exact open_none then_ hR hm32 hn
      · have hs : r.ky (t.epoch : Int) = some k1 := by rw [hkt]; exact hikp.ky (by omega)
        rw [if_neg h3, open_some then_ hR hm32 hs h2b, hgone]
        by_cases h4 : at_ + l ≤ then_
        · rw [if_pos h4, if_pos (show then_ < t.fro ∨ t.til ≤ then_ by omega)]
          exact ⟨_, rfl, rfl⟩
        · rw [if_neg h4, if_neg (show ¬ (then_ < t.fro ∨ t.til ≤ then_) by omega)]
          by_cases h5 : rev = true
          · rw [if_pos h5, if_pos h5]
            exact ⟨_, rfl, rfl⟩
          · rw [if_neg h5, if_neg h5]
            exact ⟨_, rfl, rfl⟩
    obtain ⟨⟨qt, qe⟩, hq1, hq2⟩ := key
    simp only at hq2
    refine call_con [0, 1, 2] (R := opnOut r d3 (qt, qe, B)) (fun β w' hs => by
      have h := tkOpen_c w' d3 r B y (tkTxt t m) then_ (by omega) hr3 hikp.p hits hiinv (by omega) hrv (hs.mem.take (js := [0, 1, 2, 3, 4, 5, 6]) rfl)
      rw [hq2] at h
      exact h) ?_ ⟨rfl, rfl, rfl, trivial⟩
    rintro v Fs ⟨y3, hy3, rfl, rfl⟩
    refine tri_of g ?_
    by_cases h3 : 3 ≤ j
    · rw [if_pos h3] at hq1
      injection hq1 with q1 q2
      subst q1 q2
      refine BIf.dec (fun _ => ?_) (fun h => absurd (show (j : Int) ≥ 3 by omega) h)
      intro β w' hs
      exact (hs.keepB (List.nil_sublist _)).fin [] ⟨rfl, rfl⟩
    · rw [if_neg h3] at hq1
      refine BIf.dec (fun h => absurd (show (j : Int) ≥ 3 from h) (by omega)) (fun _ => ?_)
      refine ⟨((at_ + l : Nat) : Int), by rw [wrap_u64]; omega, ?_⟩
      by_cases h4 : at_ + l ≤ then_
      · rw [if_pos h4] at hq1
        injection hq1 with q1 q2
        subst q1 q2
        refine BIf.dec (fun _ => ?_) (fun h => absurd (show (then_ : Int) ≥ ((at_ + l : Nat) : Int) by omega) h)
        intro β w' hs
        exact (hs.keepB (List.nil_sublist _)).fin [] ⟨rfl, rfl⟩
      · rw [if_neg h4] at hq1
        refine BIf.dec (fun h => absurd (show (then_ : Int) ≥ ((at_ + l : Nat) : Int) from h) (by omega)) (fun _ => ?_)
        cases rev with
        | true =>
          rw [if_pos rfl] at hq1
          injection hq1 with q1 q2
          subst q1 q2
          intro β w' hs
          exact (hs.keepB (List.nil_sublist _)).fin [] ⟨rfl, rfl⟩
        | false =>
          rw [if_neg (by simp)] at hq1
          injection hq1 with q1 q2
          subst q1 q2
          refine ⟨true, fun β w' => eql_same tkTy_p qt (.tmp 113) (.tmp 114) w', ?_⟩
          intro β w' hs
          exact (hs.keepB (List.nil_sublist _)).fin [] ⟨rfl, rfl⟩
end Go.Proofs.YtlhcgofdfhfegaaGreatDoor.Sx

namespace Go.Proofs.YtlhcgofdfhfegaaGreatDoor.Sx
open Go
theorem handed_shaped {H : Type} {enc : TypeId × Value → H} {a : Assume} {C : Checked} {os : Os} {f : FuncId} {fn : Func} {s : ChangeSpec} {conds : List PathCond} {apart fresh handsOn again : Bool} {X : World → Array Value → Prop}
    (hX : ∀ (w w' : World) (args : Array Value), w.heap = w'.heap → X w args → X w' args)
    (own : ownKnob C.prog.godebug = none) (started : os.Started) (noInit : C.prog.inits.idxOf? f = none) (hfn : C.prog.funcs[f]? = some fn)
    (witness : ∃ (w : World) (tape : Tape) (i : Input), w.os = os ∧ (w.forCall tape i).Shaped C.prog ∧ i.vars = [] ∧ Input.okWide C.prog (w.forCall tape i) .any w.heap.size f i ∧
      ((s.pre enc C.prog fn conds apart (w.forCall tape i).memory i.args ∧ X (w.forCall tape i).memory i.args) ∧ sizedMet enc C.prog fn (OpenSpec.ofChange s) apart (w.forCall tape i).memory i.args) ∧ a.holds C.prog (lone (Frame.enter C.prog f i.args .normal) [] (w.forCall tape i)))
    (key : ∀ (W : World) (base : Nat) (args : Array Value) (ds gs : List (DataW H)) (before : List MemPlace),
      (∀ (j : Nat) t v, fn.params[j]? = some t → args[j]? = some v → Value.okWide C.prog W .any base t v) →
      DataW.Whole enc C.prog fn.params.toList s.vars apart W args.toList ds gs before → X W args → W.ShapedOpen C.prog →
      Calls C.prog f args W fun e W' => ∃ v, e = .returned v ∧ s.post enc C.prog fn apart fresh handsOn again W args v W') :
    ReturnsInHanded a C os f .any (fun w args => (s.pre enc C.prog fn conds apart w args ∧ X w args) ∧ sizedMet enc C.prog fn (OpenSpec.ofChange s) apart w args) (s.post enc C.prog fn apart fresh handsOn again) := by
  refine returnsInHanded_of_calls own started noInit witness (fun w tape i _ hshape _ hin hp _ => ?_)
  obtain ⟨_, _, _, fn2, hfn2, _, _, _, _, hvals⟩ := hin
  obtain rfl : fn2 = fn := Option.some.inj (hfn2.symm.trans hfn)
  obtain ⟨⟨⟨ds, gs, before, hwh, _⟩, hx⟩, _⟩ := hp
  refine (key (w.forCall tape i) w.heap.size i.args ds gs before hvals (DataW.Whole.of_heap (w' := w.forCall tape i) (by rfl) hwh) (hX _ _ _ (by rfl) hx) hshape).mono fun e W' ⟨v, he, hq⟩ => ?_
  subst he
  exact ChangeSpec.post_blind hq
theorem ml_of {w : World} (h : w.ShapedOpen Tryz.prog) : mlF.p w :=
  cell_of_shapedOpen_int (P := Tryz.prog) (g := 0) (t := ty_int) (zero := #[.int .i64 0]) h (of_decide_eq_true (by kernel_rfl)) (by kernel_rfl) rfl (by kernel_rfl) (by kernel_rfl) (ok3.real (d := .int .i64) rfl rfl)
theorem ml_ok {w : World} (h : mlF.p w) : RoOk w mlF := by
  refine ⟨rfl, h, fun k hk => ?_⟩
  obtain ⟨m, hm⟩ := h
  obtain rfl : k = 0 := hk
  unfold World.cell? at hm
  rcases Nat.lt_or_ge 0 w.heap.size with q | q
  · exact q
  · simp [Array.getElem?_eq_none q] at hm
end Go.Proofs.YtlhcgofdfhfegaaGreatDoor.Sx

namespace Go.Proofs.YtlhcgofdfhfegaaGreatDoor.Sx
open Go Go.RowKit
theorem below_of {w w' : World} (h : Chg None_ w w') : Below w.heap.size w w' :=
  ⟨h.os, h.tape, h.output, h.size, fun k hk => h.same k hk (fun q => q)⟩
end Go.Proofs.YtlhcgofdfhfegaaGreatDoor.Sx

namespace Go.Proofs.YtlhcgofdfhfegaaGreatDoor.Sx
open Go
theorem rd_of_ints {H : Type} {enc : TypeId × Value → H} {P : Program} {W : World} {base : Nat} {sp : Nat → Bool} {held : Bool} {fuel g n : Nat} {t e : TypeId} {k : IntKind} {cs : Array Value} {zs : List Int} {q : List MemPlace}
    (ht : P.underlying t = some (.array n e)) (he : P.underlying e = some (.int k)) (hc : P.cellsOf e = 1) (hd : DataW.trod enc P W base sp held fuel t cs.toList = some (.agg (zs.map fun z => .lit (.int k z)), q)) (hcell : ∀ j, W.cell? ⟨g, j, none⟩ = cs[j]?) :
    Rd 1 (some ⟨g, 0, none⟩) zs.length (zs.map (Value.int k)) W := by
  obtain ⟨xs, m, _, hx, hlen, hn, hel⟩ := DataW.trod_array ht hd
  simp only [Prod.mk.injEq, DataW.agg.injEq] at hx
  have hzn : zs.length = n := by
    have h9 := congrArg List.length hx.1
    simp only [List.length_map] at h9
    omega
  refine ⟨by simp, fun hp => ⟨_, rfl, fun j u hu => ?_⟩⟩
  rw [List.getElem?_map] at hu
  obtain ⟨z, hz, rfl⟩ := Option.map_eq_some_iff.1 hu
  have hj : j < zs.length := (List.getElem?_eq_some_iff.1 hz).1
  have h1 := hel j (by omega)
  have h2 : (xs.map (·.1))[j]? = some (.lit (.int k z)) := by rw [← hx.1, List.getElem?_map, hz]; rfl
  rw [List.getElem?_map] at h2
  obtain ⟨x, hxj, hx1⟩ := Option.map_eq_some_iff.1 h2
  rw [hxj, hc, Nat.mul_one] at h1
  obtain ⟨y, e1, e2, _⟩ := DataW.trod_int he h1
  have hy : y = z := by
    rw [e2] at hx1
    simpa using hx1
  subst hy
  rw [add_none, Nat.zero_add, hcell j, ← Array.getElem?_toList]
  have h3 := congrArg (fun l => l[0]?) e1
  simpa [List.getElem?_drop] using h3
abbrev u32s (l : List UInt32) : List Int := l.map fun x => (x.toNat : Int)
theorem rd_u32 {g : Nat} {W : World} {l : List UInt32} (h : Rd 1 (some ⟨g, 0, none⟩) (u32s l).length ((u32s l).map (Value.int .u32)) W) : Rd 1 (some ⟨g, 0, none⟩) l.length (l.map u32) W := by
  have e : (u32s l).map (Value.int .u32) = l.map u32 := by rw [List.map_map]; rfl
  rw [e, List.length_map] at h
  exact h
end Go.Proofs.YtlhcgofdfhfegaaGreatDoor.Sx

namespace Go.Proofs.YtlhcgofdfhfegaaGreatDoor.Sx
open Go
mutual
def lits {H : Type} : DataW H → Option (List Value)
  | .lit (.int k n) => some [.int k n]
  | .lit (.bool b) => some [.bool b]
  | .lit (.string l) => some [.string ⟨l.toArray⟩]
  | .agg ps => litsL ps
  | _ => none
def litsL {H : Type} : List (DataW H) → Option (List Value)
  | [] => some []
  | d :: r => match lits d, litsL r with
    | some a, some b => some (a ++ b)
    | _, _ => none
end
def contig (P : Program) : List Field → Nat → Option Nat
  | [], o => some o
  | f :: r, o => if f.offset = o then contig P r (o + P.cellsOf f.type) else none
def flatB (P : Program) : Nat → TypeId → Bool
  | 0, _ => false
  | n + 1, t => match P.underlying t with
    | some (.int _) | some .bool | some .string => true
    | some (.struct fs) => (match contig P fs.toList 0 with | some e => Nat.beq e (P.cellsOf t) | none => false) && fs.toList.all fun f => flatB P n f.type
    | some (.array m e) => Nat.beq (m * P.cellsOf e) (P.cellsOf t) && flatB P n e
    | _ => false
section
variable {H : Type} {enc : TypeId × Value → H} {P : Program} {w : World} {base : Nat} {sp : Nat → Bool} {held : Bool}
theorem fields_cat (m : Nat) (cs : List Value) : ∀ (fs : List Field) (xs : List (DataW H × List MemPlace)) (o e : Nat), contig P fs o = some e → xs.length = fs.length →
    (∀ (i : Nat) (f : Field), fs[i]? = some f → DataW.trod enc P w base sp held m f.type ((cs.drop f.offset).take (P.cellsOf f.type)) = xs[i]?) →
    (∀ f ∈ fs, ∀ cs' x, DataW.trod enc P w base sp held m f.type cs' = some x → lits x.1 = some cs') → o ≤ e ∧ litsL (xs.map (·.1)) = some ((cs.drop o).take (e - o))
  | [], xs, o, e, hc, hl, _, _ => by
    obtain rfl := Option.some.inj hc
    obtain rfl := List.eq_nil_of_length_eq_zero hl
    exact ⟨Nat.le_refl _, by simp [litsL]⟩
  | f :: r, [], o, e, hc, hl, _, _ => by cases hl
  | f :: r, x :: xs, o, e, hc, hl, h, ih => by
    simp only [contig] at hc
    split at hc
    · rename_i ho
      have h0 := h 0 f rfl
      rw [ho] at h0
      have h1 := ih f List.mem_cons_self _ x h0
      obtain ⟨h2, h3⟩ := fields_cat m cs r xs _ e hc (by simpa using hl) (fun i g hg => by
        have := h (i + 1) g (by simpa using hg)
        simpa using this) (fun g hg => ih g (List.mem_cons_of_mem _ hg))
      refine ⟨by omega, ?_⟩
      simp only [List.map_cons, litsL, h1, h3]
      congr 1
      have e1 : e - o = P.cellsOf f.type + (e - (o + P.cellsOf f.type)) := by omega
      rw [e1, List.take_add, List.drop_drop]
    · cases hc
theorem elems_cat (m k : Nat) (ty : TypeId) (cs : List Value) (hk : P.cellsOf ty = k) : ∀ (n : Nat) (xs : List (DataW H × List MemPlace)) (o : Nat), xs.length = n →
    (∀ i, i < n → DataW.trod enc P w base sp held m ty ((cs.drop (o + i * k)).take k) = xs[i]?) →
    (∀ cs' x, DataW.trod enc P w base sp held m ty cs' = some x → lits x.1 = some cs') → litsL (xs.map (·.1)) = some ((cs.drop o).take (n * k))
  | 0, xs, o, hl, _, _ => by
    obtain rfl := List.eq_nil_of_length_eq_zero hl
    simp [litsL]
  | n + 1, [], o, hl, _, _ => by cases hl
  | n + 1, x :: xs, o, hl, h, ih => by
    have h0 := h 0 (Nat.succ_pos _)
    rw [Nat.zero_mul, Nat.add_zero] at h0
    have h1 := ih _ x h0
    have h3 := elems_cat m k ty cs hk n xs (o + k) (by simpa using hl) (fun i hi => by
      have := h (i + 1) (by omega)
      rw [Nat.succ_mul, Nat.add_comm (i * k) k, ← Nat.add_assoc] at this
      simpa using this) ih
    simp only [List.map_cons, litsL, h1, h3]
    congr 1
    rw [Nat.succ_mul, Nat.add_comm (n * k) k, List.take_add, List.drop_drop]
theorem cells_of : ∀ (k m : Nat) (t : TypeId) (cs : List Value) (x : DataW H × List MemPlace), flatB P k t = true → DataW.trod enc P w base sp held m t cs = some x → lits x.1 = some cs
  | 0, _, _, _, _, h, _ => by cases h
  | k + 1, m, t, cs, x, h, hd => by
    unfold flatB at h
    split at h
    · rename_i ht
      obtain ⟨n, rfl, rfl, _⟩ := DataW.trod_int ht hd
      rfl
    · rename_i ht
      obtain ⟨n, rfl, rfl⟩ := DataW.trod_bool ht hd
      rfl
    · rename_i ht
      obtain ⟨s, rfl, rfl, _⟩ := DataW.trod_string ht hd
      cases s with | mk a => simp [lits, ByteArray.toList_eq]
    · rename_i fs ht
      obtain ⟨xs, n, rfl, rfl, hl, hxl, hel⟩ := DataW.trod_struct ht hd
      simp only [Bool.and_eq_true] at h
      obtain ⟨hcon, hall⟩ := h
      cases hc : contig P fs.toList 0 with
      | none => rw [hc] at hcon; cases hcon
      | some e =>
        rw [hc] at hcon
        have he := Nat.eq_of_beq_eq_true hcon
        subst he
        have := (fields_cat n cs fs.toList xs 0 _ hc (by simpa using hxl) (fun i f hf => hel i f (by simpa using hf)) (fun f hf cs' x' hx => cells_of k n f.type cs' x' (List.all_eq_true.1 hall f hf) hx)).2
        simp only [lits, this, List.drop_zero, Nat.sub_zero]
        rw [← hl, List.take_length]
    · rename_i n e ht
      obtain ⟨xs, m', rfl, rfl, hl, hxl, hel⟩ := DataW.trod_array ht hd
      simp only [Bool.and_eq_true] at h
      have he := Nat.eq_of_beq_eq_true h.1
      have := elems_cat m' (P.cellsOf e) e cs rfl n xs 0 hxl (fun i hi => by rw [Nat.zero_add]; exact hel i hi) (fun cs' x' hx => cells_of k m' e cs' x' h.2 hx)
      simp only [lits, this, List.drop_zero, he]
      rw [← hl, List.take_length]
    · cases h
theorem rd_of_laid {g n size m : Nat} {t : TypeId} {cs : Array Value} {d : DataW H} {q : List MemPlace} {vs : List Value} (hf : flatB P 5 t = true) (hv : lits d = some vs) (hn : vs.length = n * size)
    (hd : DataW.trod enc P w base sp held m t cs.toList = some (d, q)) (hcell : ∀ j, w.cell? ⟨g, j, none⟩ = cs[j]?) : Rd size (some ⟨g, 0, none⟩) n vs w := by
  have h := cells_of 5 m t _ _ hf hd
  rw [hv] at h
  have h' := Option.some.inj h
  refine ⟨hn, fun _ => ⟨_, rfl, fun j u hu => ?_⟩⟩
  rw [add_none, Nat.zero_add, hcell j, ← Array.getElem?_toList, ← h']
  exact hu
end
end Go.Proofs.YtlhcgofdfhfegaaGreatDoor.Sx
