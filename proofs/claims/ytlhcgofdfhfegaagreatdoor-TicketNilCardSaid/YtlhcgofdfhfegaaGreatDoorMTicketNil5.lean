/- Texts joined: RfR2, RfR3, RpL, EqT, Tkj, Tkk, Tkl, Hnd, SxArg, Laid, Laid2. -/
import Derived.Test.YtlhcgofdfhfegaaGreatDoorMTicketNil4
import Derived.Test.YtlhcgofdfhfegaaGreatDoorMTicketNil3
import Derived.Handed
import Derived.Shelf.Vars
import Derived.Test.YtlhcgofdfhfegaaGreatDoorMTicketNil2
import Derived.Below
import Derived.OpenShut
import Derived.ChangeArms
import Derived.LaidMore
set_option linter.unusedVariables false
set_option linter.unusedSimpArgs false
namespace Go.Proofs.YtlhcgofdfhfegaaGreatDoor.Sx
open Go
attribute [local irreducible] Calls
section
variable {cx : Cx} {β : Va} {n : Nat} {H : List Bk} {w : World} {f1 f2 : Fact}
end
def RR.more (x : RR) : RR := { x with epoch := x.epoch + 1 }
def moreL (es : List Int) (e : Int) (room : Nat) : List Int := if room < (es ++ [e]).length then (es ++ [e]).tail else es ++ [e]
end Go.Proofs.YtlhcgofdfhfegaaGreatDoor.Sx

namespace Go.Proofs.YtlhcgofdfhfegaaGreatDoor.Sx
open Go
attribute [local irreducible] Calls
def rr0 (b bx : Nat) (mA : Option Addr) (mc : Nat) (master : List UInt8) (room : Nat) : RR := ⟨b, bx, mA, mc, master, room, none, 0, [], 0⟩
structure RI (r : Rg) (x : RR) (B : Bx.Box) (n : Nat) : Prop where
  ok : RgOk r
  rm : 1 ≤ r.room
  m : x.master = r.master
  room : x.room = r.room
  ep : x.epoch = r.epoch
  es : x.es = r.es
  lc : x.es.length ≤ x.Lc
  inv : BInv B
  len : B.L.length ≤ n
  epn : r.epoch ≤ n
  keys : ∀ k ∈ r.ks, k.p.length = 32 ∧ macB B r.master (keyT k.e).data.toList = (k.p, B)
theorem RI.p {r : Rg} {x : RR} {B : Bx.Box} {n : Nat} (h : RI r x B n) : ∀ q ∈ r.ks, q.p.length ≤ 1000 := fun q hq => by rw [(h.keys q hq).1]; decide
theorem RI.grow {r : Rg} {x : RR} {B B' : Bx.Box} {n n' : Nat} (h : RI r x B n) (hL : B.L.length < 4000) (hp : Pre B B') (hi : BInv B') (hl : B'.L.length ≤ n') (hn : n ≤ n') : RI r x B' n' :=
  ⟨h.ok, h.rm, h.m, h.room, h.ep, h.es, h.lc, hi, hl, Nat.le_trans h.epn hn, fun k hk => by
    obtain ⟨k1, k2⟩ := h.keys k hk
    have := mac_again (B := B) (B' := B') (by omega) r.master (keyT k.e).data.toList (by rw [k2]; exact hp)
    rw [k2] at this
    exact ⟨k1, this⟩⟩
theorem cut_es (r : Rg) : r.cut.es = if r.room < r.es.length then r.es.tail else r.es := by
  unfold Rg.cut Rg.es
  rw [List.length_map]
  split
  · simp [List.map_tail]
  · rfl
theorem RI.rot {r : Rg} {x x' : RR} {B : Bx.Box} {n : Nat} (h : RI r x B n) (hn : n < 90) (A : Option Addr) (c : Nat) (h3 : x'.master = x.master) (h4 : x'.room = x.room) (h5 : x'.epoch = x.epoch + 1) (h6 : x'.es = moreL x.es ((x.epoch + 1 : Nat) : Int) x.room) (h7 : x'.es.length ≤ x'.Lc) :
    RI (r.more A c (macB B r.master (keyT (r.epoch + 1)).data.toList).1).cut x' (macB B r.master (keyT (r.epoch + 1)).data.toList).2 (n + 1) := by
  have hl := h.len
  have hep := h.epn
  have hma := h.ok.master
  have hg := mac_good h.inv (by omega) (k := r.master) (t := (keyT (r.epoch + 1)).data.toList) (by omega) (Nat.le_trans (keyT_len (by omega)) (by decide))
  have hp := mac_pre (B := B) (by omega) r.master (keyT (r.epoch + 1)).data.toList
  have hag := mac_again (B := B) (B' := (macB B r.master (keyT (r.epoch + 1)).data.toList).2) (by omega) r.master (keyT (r.epoch + 1)).data.toList (Pre.refl _)
  have hgl := hg.1.len
  have hg2 := h.grow (by omega) hp hg.1.inv (by omega) (Nat.le_succ n)
  generalize macB B r.master (keyT (r.epoch + 1)).data.toList = q at *
  refine ⟨more_ok h.ok (by omega), by rw [cut_room]; exact h.rm, by rw [h3, cut_master]; exact h.m, by rw [h4, cut_room]; exact h.room, by rw [h5, cut_epoch, h.ep]; rfl, ?_, h7, hg.1.inv, by omega, by rw [cut_epoch]; show r.epoch + 1 ≤ n + 1; omega, ?_⟩
  · rw [h6, cut_es, h.es, h.ep, h.room]
    have e : (r.more A c q.1).es = r.es ++ [((r.epoch + 1 : Nat) : Int)] := by show (r.ks ++ [_]).map _ = _; rw [List.map_append]; rfl
    rw [e]
    rfl
  · intro k hk
    rw [cut_master]
    rcases List.mem_append.1 (show k ∈ r.ks ++ [(⟨r.epoch + 1, A, c, q.1⟩ : RKey)] from cut_mem hk) with hk | hk
    · exact hg2.keys k hk
    · obtain rfl := List.mem_singleton.1 hk
      exact ⟨hg.2.1, hag⟩
theorem erase_es (e : Int) : ∀ ks : List RKey, (ks.map (·.e)).Pairwise (· < ·) → (ks.eraseP fun k => decide ((k.e : Int) = e)).map (fun k => (k.e : Int)) = (ks.map fun k => (k.e : Int)).filter (fun y => !decide (y = e))
  | [], _ => rfl
  | k :: t, h => by
    rw [List.map_cons, List.pairwise_cons] at h
    by_cases hk : (k.e : Int) = e
    · rw [List.eraseP_cons_of_pos (by simpa using hk), List.map_cons, List.filter_cons_of_neg (by simpa using hk)]
      symm
      refine List.filter_eq_self.2 fun y hy => ?_
      obtain ⟨q, hq, rfl⟩ := List.mem_map.1 hy
      have := h.1 q.e (List.mem_map.2 ⟨q, hq, rfl⟩)
      simp
      omega
    · rw [List.eraseP_cons_of_neg (by simpa using hk), List.map_cons, List.map_cons, List.filter_cons_of_pos (by simpa using hk), erase_es e t h.2]
theorem RI.ret {r : Rg} {x x' : RR} {B : Bx.Box} {n : Nat} (h : RI r x B n) (e : Int) (h3 : x'.master = x.master) (h4 : x'.room = x.room) (h5 : x'.epoch = x.epoch) (h6 : x'.es = x.es.filter (fun y => !decide (y = e))) (h7 : x'.es.length ≤ x'.Lc) : RI (r.drop e) x' B n := by
  have hsub : ((r.drop e).ks).Sublist r.ks := List.eraseP_sublist
  refine ⟨⟨h.ok.rise.sublist (hsub.map _), fun k hk => h.ok.le k (drop_sub hk), Nat.le_trans hsub.length_le h.ok.len, h.ok.room, h.ok.master, h.ok.ep⟩, h.rm, h3.trans h.m, h4.trans h.room, h5.trans h.ep, ?_, h7, h.inv, h.len, h.epn, fun k hk => h.keys k (drop_sub hk)⟩
  rw [h6, h.es]
  exact (erase_es e r.ks h.ok.rise).symm
theorem RI.first {b bx : Nat} {mA : Option Addr} {mc : Nat} {master : List UInt8} {room m : Nat} {A : Option Addr} {c : Nat} {x : RR} {B : Bx.Box} (h1 : 1 ≤ master.length) (h2 : master.length ≤ 64) (h3 : 1 ≤ room) (h4 : room ≤ 8) (hi : BInv B) (hL : B.L.length ≤ 0) (hxm : x.master = master) (hxr : x.room = room) (hxe : x.epoch = 1) (hxl : x.es = moreL [] 1 room) (hxc : x.es.length ≤ x.Lc) :
    RI ((ring0 b bx mA mc master room m).more A c (macB B master (keyT 1).data.toList).1).cut x (macB B master (keyT 1).data.toList).2 1 := by
  have h0 : RI (ring0 b bx mA mc master room m) (rr0 b bx mA mc master room) B 0 := ⟨⟨List.Pairwise.nil, fun k hk => (by cases hk), Nat.zero_le _, h4, h2, by show 0 < 98; decide⟩, h3, rfl, rfl, rfl, rfl, Nat.le_refl _, hi, hL, Nat.le_refl _, fun k hk => (by cases hk)⟩
  exact h0.rot (by decide) A c (x' := x) hxm hxr hxe hxl hxc
theorem eqFields_of {P : Program} {w : World} {d : Nat} {xs ys : Array Value} : ∀ (sp : List ((String × TypeId × Nat) × Bool)) (fs : List Field), fs.map (fun f => (f.name, f.type, f.offset)) = sp.map (·.1) → (∀ s ∈ sp, s.1.1 ≠ "_" ∧ ∃ a b, (part s.1.2.1 xs s.1.2.2).run P w = .ok a w ∧ (part s.1.2.1 ys s.1.2.2).run P w = .ok b w ∧ (Op.equalIn d s.1.2.1 a b).run P w = .ok s.2 w) →
    (Op.eqFields d xs ys fs).run P w = .ok (sp.all (·.2)) w
  | [], fs, h, _ => by
    obtain rfl : fs = [] := List.map_eq_nil_iff.1 h
    rfl
  | s :: r, [], h, _ => by cases h
  | s :: r, f :: fs, h, hs => by
    rw [List.map_cons, List.map_cons] at h
    injection h with h1 h2
    obtain ⟨hn, a, b, ha, hb, hc⟩ := hs s List.mem_cons_self
    rw [← h1] at hn ha hb hc
    have ih := eqFields_of r fs h2 (fun x hx => hs x (List.mem_cons_of_mem _ hx))
    simp only at hn ha hb hc
    simp only [Op.eqFields, hn, ne_eq, not_false_eq_true, if_true, Sem.run_bind, ha, hb, hc, Result.andThen_ok, Sem.run_ite, Sem.run_pure, List.all_cons]
    cases s.2 with
    | true => simp [ih]
    | false => simp
theorem who_fields : (Tryz.prog.fieldsOf ty_api_Who).toList.map (fun f => (f.name, f.type, f.offset)) = [("Tenant", ty_string, 0), ("User", ty_string, 1), ("Role", ty_string, 2)] := by kernel_rfl
theorem who_guard : Tryz.prog.eqGuardType Tryz.prog.depth ty_api_Who = false := by kernel_rfl
theorem who_held : Tryz.prog.stoodInHeld ty_api_Who = false := by kernel_rfl
theorem who_under : Tryz.prog.underlying ty_api_Who = some (.struct (Tryz.prog.fieldsOf ty_api_Who)) := by kernel_rfl
def whoV (a b c : List UInt8) : Value := .agg #[.string (mkS a), .string (mkS b), .string (mkS c)]
theorem eqStr (d : Nat) (a b : List UInt8) (w : World) : (Op.equalIn (d + 1) ty_string (.string (mkS a)) (.string (mkS b))).run Tryz.prog w = .ok (decide (a = b)) w := by
  rw [run_equalIn_string w d ty_string (mkS a) (mkS b) ((ok9).real (d := .string) rfl rfl)]
  congr 1
  by_cases h : a = b
  · simp [h]
  · have : ¬ (mkS a).toList = (mkS b).toList := fun q => h (mkS_one (by apply ByteArray.ext; exact Array.toList_inj.1 (by simpa [ByteArray.toList_eq] using q)))
    simp [h, this]
theorem eqWho_at (d : Nat) (a b c a' b' c' : List UInt8) (w : World) : (Op.equalIn (d + 2) ty_api_Who (whoV a b c) (whoV a' b' c')).run Tryz.prog w = .ok (decide (a = a' ∧ b = b' ∧ c = c')) w := by
  unfold whoV
  rw [run_equalIn_struct w (d + 1) _ _ _ who_under who_held, eqFields_of [(("Tenant", ty_string, 0), decide (a = a')), (("User", ty_string, 1), decide (b = b')), (("Role", ty_string, 2), decide (c = c'))] _ who_fields]
  · congr 1
    simp only [List.all_cons, List.all_nil, Bool.and_true, ← Bool.decide_and]
  · intro s hs
    simp only [List.mem_cons, List.not_mem_nil, or_false] at hs
    rcases hs with rfl | rfl | rfl
    · exact ⟨by show ("Tenant" : String) ≠ "_"; decide, .string (mkS a), .string (mkS a'), by simp [part], by simp [part], eqStr d a a' w⟩
    · exact ⟨by show ("User" : String) ≠ "_"; decide, .string (mkS b), .string (mkS b'), by simp [part], by simp [part], eqStr d b b' w⟩
    · exact ⟨by show ("Role" : String) ≠ "_"; decide, .string (mkS c), .string (mkS c'), by simp [part], by simp [part], eqStr d c c' w⟩
theorem eql_who (a b c a' b' c' : List UInt8) (p q : Operand) (w : World) : (binSem .eql ty_api_Who p q (whoV a b c) (whoV a' b' c')).run Tryz.prog w = .ok (.bool (decide (a = a' ∧ b = b' ∧ c = c'))) w := by
  have he := eqWho_at 9998 a b c a' b' c' w
  unfold binSem
  unfold whoV at he ⊢
  simp only [Sem.run_bind, run_eqGuard_agg w _ _ _ _ _ _ who_guard, Result.andThen_ok, run_eql_struct, he]
theorem body_len {t : Tk} (hR : t.Right) : (bodyL t).length ≤ 136 ∧ 1 ≤ (bodyL t).length := by
  have l1 := plainF_len hR.ten
  have l2 := namedT_len hR.usr
  have l3 := plainF_len hR.rol
  unfold bodyL txtL
  simp only [List.length_cons, List.length_append, be_length]
  omega
theorem txt_len {t : Tk} (hR : t.Right) {m : List UInt8} (hm : m.length = 32) : (tkTxt t m).length ≤ 300 := by
  have h1 := b64L_len true (bodyL t)
  have h2 := b64L_len true m
  have h3 := body_len hR
  unfold tkTxt
  rw [List.length_append, List.length_cons]
  show (b64L true (bodyL t)).length + ((b64L true m).length + 1) ≤ 300
  omega
theorem open_some {ky : Int → Option (List UInt8)} {gone : Int → Bool} {B B' : Bx.Box} {t : Tk} {k m : List UInt8} (now : Nat) (hR : t.Right) (hm : m.length = 32) (hk : ky (t.epoch : Int) = some k) (hmac : macB B k (labL ++ bodyL t) = (m, B')) :
    openT ky gone B (tkTxt t m) now = if now < t.fro ∨ t.til ≤ now then (tk0, 9, B') else if gone (t.serial : Int) = true then (tk0, 16, B') else (t, 0, B') := by
  unfold openT tkTxt
  rw [split_join hm (Nat.le_trans (txt_len hR hm) (by decide))]
  simp only
  rw [read_iff.2 ⟨hR, rfl⟩]
  simp only [hk, hmac]
  rw [if_pos trivial]
def annT : List UInt8 := [116]
def annU : List UInt8 := [97, 110, 110]
def annR : List UInt8 := [100, 101, 118]
theorem ann_ok : namedT annU = true ∧ plainF annT = true ∧ plainF annR = true := by decide +kernel
theorem ann_c (w : World) : Pu Tryz.prog n_ostiarylaw18_ann #[] w (.agg #[.string (mkS annT), .string (mkS annU), .string (mkS annR)]) := by
  have g := good_ostiarylaw18_ann w (Un [])
  refine con_of_sx (cx := cx_ostiarylaw18_ann w (Un [])) g b_ostiarylaw18_ann rfl rfl (β := Va.z) [] 0 [] [] rfl rfl (Sat.start rfl) ?_
  intro β w' hs
  exact (hs.keepB (List.nil_sublist _)).fin [] ⟨rfl, rfl⟩
theorem desk18_c (w : World) (sym : Bool) (life : Nat) (h1 : 1 ≤ life) (h2 : life ≤ 1099511627776) (hm : Mem w [oddF 4, firstF 1]) :
    Con Tryz.prog n_ostiarylaw18_desk #[.bool sym, .int .u64 (life : Int)] w [] fun v Fs => ∃ (r : Rg) (y : Lay) (b m1 m2 : Nat), v = .tuple #[ptrD b, ptrR r.b] ∧ r.master = [109] ∧ Kept r 3 0 (macB ⟨sym, false, []⟩ [109] (keyT 1).data.toList).1 ∧ GoodT ⟨sym, false, []⟩ (macB ⟨sym, false, []⟩ [109] (keyT 1).data.toList) ∧ y.ts.map (·.1) = (macB ⟨sym, false, []⟩ [109] (keyT 1).data.toList).2.L ∧
      Fs = [dkF ⟨b, r.b, life, 0, m1, m2, [], []⟩, rgF r, bxF r.bx (macB ⟨sym, false, []⟩ [109] (keyT 1).data.toList).2 y] := by
  have g := good_ostiarylaw18_desk w (Un [])
  refine con_go (cx := cx_ostiarylaw18_desk w (Un [])) g b_ostiarylaw18_desk [.c (.v (.bool sym)), .c (.v (.int .u64 (life : Int)))] [oddF 4, firstF 1] hm ?_
  refine call_con [] (fun β w' hs => newX_c w' sym) ?_
  rintro v Fs ⟨b0, y0, rfl, hy0, rfl⟩
  intro b1
  refine ⟨0, _, rfl, ?_⟩
  have hi0 := box0i sym
  obtain ⟨B, hB⟩ : ∃ B : Bx.Box, (⟨sym, false, []⟩ : Bx.Box) = B := ⟨_, rfl⟩
  have hL0 : B.L.length ≤ 0 := by rw [← hB]; exact Nat.le_refl _
  have hts0 : y0.ts.map (·.1) = B.L := by rw [← hB, hy0]; rfl
  rw [hB] at hi0 ⊢
  refine call_con [1] (fun β w' hs => newK_c w' b0 B y0 (some ⟨b1, 0, none⟩) [109] 1 3 (by decide) (by decide) (by decide) (by decide) hts0 hi0 (by omega) (hs.mem.take (js := [1, 0, 2, 3]) rfl)) ?_
  rintro v Fs ⟨r, y1, rfl, rb1, hma, k1, g1, hy1, rfl⟩
  refine call_con [] (fun β w' hs => newDesk_c w' r.b life) ?_
  rintro v Fs (⟨_, _, b, m1, m2, rfl, rfl⟩ | ⟨h, _⟩)
  rotate_left
  · exact absurd ⟨h1, h2⟩ h
  intro β w' hs
  exact hs.fin [0, 1, 2] ⟨r, y1, b, m1, m2, rfl, hma, k1, g1, hy1, by rw [rb1]; rfl⟩ rfl rfl rfl ⟨rfl, rfl, rfl, trivial⟩
theorem mnt_yes {r : Rg} {d : Dk} {B B2 : Bx.Box} {t : Tk} {v : Value} {Fs : List Fact} {k m : List UInt8} (h : mntOut r d B t v Fs) (hR : t.Right) (hk : r.ky (r.epoch : Int) = some k) (hq : macB B k (labL ++ bodyL t) = (m, B2)) :
    ∃ y', v = .tuple #[.string (mkS (tkTxt t m)), t.v, .int .i64 0] ∧ y'.ts.map (·.1) = B2.L ∧ Fs = [dkF (d.more t), rgF r, bxF r.bx B2 y'] := by
  rcases h with ⟨k', y', _, hk', rfl, hy, rfl⟩ | ⟨e, y', h, _⟩
  · rw [hk] at hk'
    obtain rfl := Option.some.inj hk'
    rw [hq] at hy ⊢
    exact ⟨y', rfl, hy, rfl⟩
  · rcases h with ⟨h, _⟩ | ⟨_, h, _⟩
    · exact absurd hR h
    · rw [hk] at h; cases h
theorem Kept.ky {r : Rg} {k t : Nat} {k1 : List UInt8} (h : Kept r k t k1) (hlt : t < k) : r.ky 1 = some k1 := by
  obtain ⟨q, hq, hp⟩ := h.key hlt
  unfold Rg.ky
  rw [hq, ← hp]
  rfl
theorem Kept.ep1 {r : Rg} {k : Nat} {k1 : List UInt8} (h : Kept r k 0 k1) (hlt : 0 < k) : r.ep = 1 := by
  obtain ⟨q, hq, _⟩ := h.key hlt
  have he := h.ep
  unfold Rg.ep
  rw [he]
  show (match r.key ((1 : Nat) : Int) with | some _ => 1 | none => 1) = 1
  split <;> rfl
def dk1 (b rb life m1 m2 : Nat) : Dk := ⟨b, rb, life, 0, m1, m2, [], []⟩
theorem awake18_c (w : World) (hm : Mem w [oddF 4, firstF 1, mlF, namF]) : Con Tryz.prog n_ostiarylaw18_awake #[] w [] fun v Fs => v = .bool true ∧ Fs = [] := by
  have g := good_ostiarylaw18_awake w (Un [])
  refine con_go (cx := cx_ostiarylaw18_awake w (Un [])) g b_ostiarylaw18_awake [] [oddF 4, firstF 1, mlF, namF] hm ?_
  refine call_con [] (fun β w' hs => desk18_c w' false 10 (by decide) (by decide) (hs.mem.take (js := [0, 1]) rfl)) ?_
  rintro v Fs ⟨r, y1, b, m1, m2, rfl, hma, kp, g1, hy1, rfl⟩
  generalize macB ⟨false, false, []⟩ [109] (keyT 1).data.toList = q1 at *
  obtain ⟨k1, B1⟩ := q1
  have l1 := g1.1.len
  have hk32 := g1.2.1
  have hi1 := g1.1.inv
  simp only at l1 hy1 kp hk32 hi1
  have hL1 : B1.L.length ≤ 1 := l1
  have hep : r.epoch = 1 := kp.ep
  have hep1 := kp.ep1 (by decide)
  have hky := kp.ky (by decide)
  refine call_pu (fun β w' hs => ann_c w') ?_
  obtain ⟨t, ht⟩ : ∃ t : Tk, (⟨1, 1, 5, 15, 7, annT, annU, annR⟩ : Tk) = t := ⟨_, rfl⟩
  have hR : t.Right := by
    obtain ⟨a1, a2, a3⟩ := ann_ok
    rw [← ht]
    exact ⟨a1, a2, a3, by decide, by decide, by decide, by decide, by decide, by decide, by decide, by decide⟩
  obtain ⟨q, hq⟩ : ∃ q, macB B1 k1 (labL ++ bodyL t) = q := ⟨_, rfl⟩
  have hbl := body_len hR
  have g2 := mac_good hi1 (by omega) (k := k1) (t := labL ++ bodyL t) (by omega) (by rw [List.length_append]; show 7 + _ ≤ _; omega)
  have h2a := mac_again (B := B1) (B' := (macB B1 k1 (labL ++ bodyL t)).2) (by omega) k1 (labL ++ bodyL t) (Pre.refl _)
  rw [hq] at g2 h2a
  obtain ⟨m, B2⟩ := q
  have l2 := g2.1.len
  have hm32 := g2.2.1
  have hi2 := g2.1.inv
  simp only at l2 hm32 hi2 h2a
  refine call_con [0, 1, 2] (fun β w' hs => (tkMint_c w' (dk1 b r.b 10 m1 m2) r B1 y1 annT annU annR 7 5 (by decide) (by decide) (by decide) (by decide) (by decide) rfl (Nat.zero_le _) (by omega) kp.p hy1 hi1 (by omega) (hs.mem.take (js := [0, 1, 2, 3, 4, 6]) rfl)).mono (fun v Fs h => by
    rw [hep1, show (⟨1, (dk1 b r.b 10 m1 m2).serial + 1, 5, addT 5 (dk1 b r.b 10 m1 m2).life, 7, annT, annU, annR⟩ : Tk) = t from ht] at h
    exact mnt_yes h hR (by rw [hep]; exact hky) hq)) ?_ ⟨rfl, rfl, rfl, trivial⟩
  rintro v Fs ⟨y2, rfl, hy2, rfl⟩
  obtain ⟨d2, hd2⟩ : ∃ d2, (dk1 b r.b 10 m1 m2).more t = d2 := ⟨_, rfl⟩
  have hb2 : d2.b = b := by rw [← hd2]; rfl
  have hr2 : d2.rb = r.b := by rw [← hd2]; rfl
  have hv2 : d2.rv = [] := by rw [← hd2]; rfl
  have ht2 : ilook d2.to 1 = some (.int .u64 15) := by rw [← hd2, ← ht]; rfl
  have hkt : r.ky (t.epoch : Int) = some k1 := by rw [← ht]; exact hky
  have htl := txt_len hR hm32
  have hfro : t.fro = 5 := by rw [← ht]
  have htil : t.til = 15 := by rw [← ht]
  have hser : t.serial = 1 := by rw [← ht]
  rw [hd2, ← hb2]
  refine call_con [0, 1, 2] (R := opnOut r d2 (t, 0, B2)) (fun β w' hs => by
    have h := tkOpen_c w' d2 r B2 y2 (tkTxt t m) 14 (by omega) hr2 kp.p hy2 hi2 (by omega) (by rw [hv2]; intro k v q; cases q) (hs.mem.take (js := [0, 1, 2, 3, 4, 5, 6]) rfl)
    rw [open_some 14 hR hm32 hkt h2a, if_neg (by omega), if_neg (by unfold Dk.gone; rw [hv2]; intro h; cases h)] at h
    exact h) ?_ ⟨rfl, rfl, rfl, trivial⟩
  rintro v Fs ⟨y3, hy3, rfl, rfl⟩
  simp only at hy3
  refine call_con [0, 1, 2] (R := opnOut r d2 (tk0, 9, B2)) (fun β w' hs => by
    have h := tkOpen_c w' d2 r B2 y3 (tkTxt t m) 15 (by omega) hr2 kp.p hy3 hi2 (by omega) (by rw [hv2]; intro k v q; cases q) (hs.mem.take (js := [0, 1, 2, 3, 4, 5, 6]) rfl)
    rw [open_some 15 hR hm32 hkt h2a, if_pos (by omega)] at h
    exact h) ?_ ⟨rfl, rfl, rfl, trivial⟩
  rintro v Fs ⟨y4, hy4, rfl, rfl⟩
  simp only at hy4
  refine call_con [0] (fun β w' hs => (tkRevoke_c w' d2 1 (by rw [hv2]; intro v q; cases q) (hs.mem.take (js := [0]) rfl)).mono (fun v Fs h => by
    unfold revD at h
    rw [show ((1 : Nat) : Int) = 1 from rfl, ht2, hv2, if_neg (by simp), if_pos (show ilook [] (1 : Int) = none from rfl)] at h
    exact h)) ?_
  rintro v Fs ⟨rfl, rfl⟩
  obtain ⟨d3, hd3⟩ : ∃ d3 : Dk, ({ d2 with rv := iput [] 1 (.bool true) } : Dk) = d3 := ⟨_, rfl⟩
  have hb3 : d2.b = d3.b := by rw [← hd3]
  have hr3 : d3.rb = r.b := by rw [← hd3]; exact hr2
  have hv3 : d3.rv = [(1, .bool true)] := by rw [← hd3]; rfl
  rw [hd3, hb3]
  refine call_con [0, 1, 2] (R := opnOut r d3 (tk0, 16, B2)) (fun β w' hs => by
    have h := tkOpen_c w' d3 r B2 y4 (tkTxt t m) 14 (by omega) hr3 kp.p hy4 hi2 (by omega) (by rw [hv3]; intro k v q; unfold ilook at q; split at q; exact (Option.some.inj q).symm; cases q) (hs.mem.take (js := [0, 1, 2, 3, 4, 5, 6]) rfl)
    rw [open_some 14 hR hm32 hkt h2a, if_neg (by omega), if_pos (by unfold Dk.gone; rw [hv3, hser]; rfl)] at h
    exact h) ?_ ⟨rfl, rfl, rfl, trivial⟩
  rintro v Fs ⟨y5, hy5, rfl, rfl⟩
  subst ht
  refine draw_rule g p_ostiarylaw18_awake_7 (by kernel_rfl) [⟨3, ty_ticket_Ticket, tk0.cells.map SL.v⟩, ⟨2, ty_ticket_Ticket, tk0.cells.map SL.v⟩, ⟨1, ty_ticket_Ticket, (Tk.cells ⟨1, 1, 5, 15, 7, annT, annU, annR⟩).map SL.v⟩, ⟨0, ty_ticket_Ticket, (Tk.cells ⟨1, 1, 5, 15, 7, annT, annU, annR⟩).map SL.v⟩] [] (Sub.of (List.Sublist.refl _) (List.nil_sublist _)) ?_
  refine call_pu (fun β w' hs => ann_c w') ?_
  refine ⟨Sub.of (List.Sublist.refl _) (List.nil_sublist _), ?_⟩
  refine ⟨true, fun β w' => by
    have h := eql_who annT annU annR annT annU annR (.tmp 56) (.tmp 57) w'
    rw [decide_eq_true (⟨rfl, rfl, rfl⟩ : annT = annT ∧ annU = annU ∧ annR = annR)] at h
    exact h, ?_⟩
  intro β w' hs
  exact (hs.keepB (List.nil_sublist _)).fin [] ⟨rfl, rfl⟩
theorem cutTextK_c (w : World) (s : ByteArray) (k : Nat) (hk : k ≤ 1000000) : Pu Tryz.prog n_ostiaryref01_CutText #[.string s, .int .i64 k] w (.string (mkS (s.data.toList.take k))) := by
  refine pu_of (calls_of_sx (cx := cx_ostiaryref01_CutText w None_) (good_ostiaryref01_CutText w None_) b_ostiaryref01_CutText rfl rfl (β := Va.z) [.c (.v (.string s)), .c (.v (.int .i64 k))] 0 [] [] rfl rfl (Sat.start rfl) ?_)
  refine ⟨((min s.size k : Nat) : Int), by dsimp only; omega, ?_⟩
  refine ⟨min s.size k, 0, rfl, rfl, by omega, Nat.zero_le _, ?_⟩
  intro β w' hs
  refine ⟨?_, hs.chg⟩
  have e : s.data.toList.take k = s.data.toList.take (min s.size k) := by
    rw [List.take_eq_take_min, show s.data.toList.length = s.size from rfl, Nat.min_comm]
  rw [e, ← mkS_take, mkS_of]
  rfl
theorem mint0_c (w : World) (a b c : List UInt8) (gen now : Int) : Con Tryz.prog n_ticket_Desk_Mint #[.pointer none, .agg #[.string (mkS a), .string (mkS b), .string (mkS c)], .int .u64 gen, .int .u64 now] w [] fun v Fs => v = .tuple #[.string (mkS []), tk0.v, .int .i64 6] ∧ Fs = [] := by
  have g := good_ticket_Desk_Mint w (Un [])
  refine con_of_sx (cx := cx_ticket_Desk_Mint w (Un [])) g b_ticket_Desk_Mint rfl rfl (β := Va.z) [.c (.v (.pointer none)), .agg [.v (.string (mkS a)), .v (.string (mkS b)), .v (.string (mkS c))], .c (.v (.int .u64 gen)), .c (.v (.int .u64 now))] 0 [] [] rfl rfl (Sat.start rfl) ?_
  intro β w' hs
  exact (hs.keepB (List.nil_sublist _)).fin [] ⟨rfl, rfl⟩
theorem open0_c (w : World) (s : ByteArray) (now : Int) : Con Tryz.prog n_ticket_Desk_Open #[.pointer none, .string s, .int .u64 now] w [] fun v Fs => v = .tuple #[tk0.v, .int .i64 6] ∧ Fs = [] := by
  have g := good_ticket_Desk_Open w (Un [])
  refine con_of_sx (cx := cx_ticket_Desk_Open w (Un [])) g b_ticket_Desk_Open rfl rfl (β := Va.z) [.c (.v (.pointer none)), .c (.v (.string s)), .c (.v (.int .u64 now))] 0 [] [] rfl rfl (Sat.start rfl) ?_
  intro β w' hs
  exact (hs.keepB (List.nil_sublist _)).fin [] ⟨rfl, rfl⟩
theorem newDesk0_c (w : World) (life : Int) : Pu Tryz.prog n_ticket_NewDesk #[.pointer none, .int .u64 life] w (.tuple #[.pointer none, .int .i64 6]) := by
  have g := good_ticket_NewDesk w (Un [])
  refine con_of_sx (cx := cx_ticket_NewDesk w (Un [])) g b_ticket_NewDesk rfl rfl (β := Va.z) [.c (.v (.pointer none)), .c (.v (.int .u64 life))] 0 [] [] rfl rfl (Sat.start rfl) ?_
  intro β w' hs
  exact (hs.keepB (List.nil_sublist _)).fin [] ⟨rfl, rfl⟩
theorem tkRevoke0_c (w : World) (s : Int) : Pu Tryz.prog n_ticket_Desk_Revoke #[.pointer none, .int .u64 s] w (.int .i64 6) := by
  have g := good_ticket_Desk_Revoke w (Un [])
  refine con_of_sx (cx := cx_ticket_Desk_Revoke w (Un [])) g b_ticket_Desk_Revoke rfl rfl (β := Va.z) [.c (.v (.pointer none)), .c (.v (.int .u64 s))] 0 [] [] rfl rfl (Sat.start rfl) ?_
  intro β w' hs
  exact (hs.keepB (List.nil_sublist _)).fin [] ⟨rfl, rfl⟩
theorem sweep0_c (w : World) (s : Int) : Pu Tryz.prog n_ticket_Desk_Sweep #[.pointer none, .int .u64 s] w (.int .i64 0) := by
  have g := good_ticket_Desk_Sweep w (Un [])
  refine con_of_sx (cx := cx_ticket_Desk_Sweep w (Un [])) g b_ticket_Desk_Sweep rfl rfl (β := Va.z) [.c (.v (.pointer none)), .c (.v (.int .u64 s))] 0 [] [] rfl rfl (Sat.start rfl) ?_
  intro β w' hs
  exact (hs.keepB (List.nil_sublist _)).fin [] ⟨rfl, rfl⟩
theorem serial0_c (w : World) : Pu Tryz.prog n_ticket_Desk_Serial #[.pointer none] w (.int .u64 0) := by
  have g := good_ticket_Desk_Serial w (Un [])
  refine con_of_sx (cx := cx_ticket_Desk_Serial w (Un [])) g b_ticket_Desk_Serial rfl rfl (β := Va.z) [.c (.v (.pointer none))] 0 [] [] rfl rfl (Sat.start rfl) ?_
  intro β w' hs
  exact (hs.keepB (List.nil_sublist _)).fin [] ⟨rfl, rfl⟩
theorem revoked0_c (w : World) : Con Tryz.prog n_ticket_Desk_Revoked #[.pointer none] w [] fun v Fs => ∃ bx, v = .func (.func n_ticket_Desk_Revoked_1) #[] #[.pointer (some ⟨bx, 0, none⟩)] ∧ Fs = [bkF bx ty_ptr_ticket_Desk [.pointer none], noO] := by
  refine con_of_sx (cx := cx_ticket_Desk_Revoked w (Un [])) (good_ticket_Desk_Revoked w (Un [])) b_ticket_Desk_Revoked rfl rfl (β := Va.z) [.c (.v (.pointer none))] 0 [] [] rfl rfl (Sat.start rfl) ?_
  intro β w' hs
  exact ((hs.ofBk.noMem noO trivial (fun _ h => h)).perm [1, 0]).fin [0, 1] ⟨β 0, rfl, rfl⟩ rfl rfl rfl ⟨rfl, rfl, trivial⟩
theorem revoked0_it (bx : Nat) : GivesN n_ticket_Desk_Revoked_1 bx ty_ptr_ticket_Desk [.pointer none] noO noO 0 (fun xs => xs = []) := by
  intro l w f0 R J Jx hJ0 hJo hRo hY hm
  have g := good_ticket_Desk_Revoked_1 w (Un [f0, bkF bx ty_ptr_ticket_Desk [.pointer none], noO]) [bx]
  have hs0 : Sat (cx_ticket_Desk_Revoked_1 w (Un [f0, bkF bx ty_ptr_ticket_Desk [.pointer none], noO]) [bx]) (Va.of fun _ => bx) 1 [] (f0 :: R :: [bkF bx ty_ptr_ticket_Desk [.pointer none], noO]) w := by
    refine hm.sat rfl (fun f hf ho k hk => ?_) ⟨Nat.le_refl 1, fun i hi => by obtain rfl : i = 0 := Nat.lt_one_iff.1 hi; rfl⟩
    simp only [List.mem_cons, List.not_mem_nil, or_false] at hf
    rcases hf with rfl | rfl | rfl | rfl
    · exact ⟨_, by simp, hk⟩
    · rw [hRo] at ho; cases ho
    · exact ⟨_, by simp, hk⟩
    · exact ⟨_, by simp, hk⟩
  have hs1 := hs0.toBk 2 rfl 0 Nat.zero_lt_one rfl
  refine con_of_sx (cx := cx_ticket_Desk_Revoked_1 w (Un [f0, bkF bx ty_ptr_ticket_Desk [.pointer none], noO]) [bx]) g b_ticket_Desk_Revoked_1 rfl rfl (β := Va.of fun _ => bx) [.c (.v (.func (.yield l) #[] #[])), .c (.p 0 0)] 1 _ _ rfl rfl hs1 ?_
  intro β w' hs
  exact (hs.keepB (List.nil_sublist _)).fin [0, 2] ⟨f0, _, rfl, .inl ⟨[], hJ0, rfl, rfl⟩⟩ rfl rfl rfl ⟨hJo _ _ hJ0, rfl, trivial⟩
theorem ticketNil_c (w : World) (life now : Int) (s : ByteArray) (hm : Mem w [oddF 4, firstF 1, mlF, namF]) : Con Tryz.prog n_ostiarylaw18_TicketNil #[.int .u64 life, .int .u64 now, .string s] w [] fun v Fs => v = .bool true ∧ Fs = [] := by
  have g := good_ostiarylaw18_TicketNil w (Un [])
  refine con_go (cx := cx_ostiarylaw18_TicketNil w (Un [])) g b_ostiarylaw18_TicketNil [.c (.v (.int .u64 life)), .c (.v (.int .u64 now)), .c (.v (.string s))] [oddF 4, firstF 1, mlF, namF] hm ?_
  refine call_con [] (fun β w' hs => awake18_c w' (hs.mem.take (js := [0, 1, 2, 3]) rfl)) ?_
  rintro v Fs ⟨rfl, rfl⟩
  refine call_pu (fun β w' hs => ann_c w') ?_
  refine call_con [] (fun β w' hs => mint0_c w' annT annU annR 1 now) ?_
  rintro v Fs ⟨rfl, rfl⟩
  refine call_pu (fun β w' hs => cutTextK_c w' s 100 (by decide)) ?_
  refine call_con [] (fun β w' hs => open0_c w' _ now) ?_
  rintro v Fs ⟨rfl, rfl⟩
  refine call_pu (fun β w' hs => newDesk0_c w' life) ?_
  refine call_pu (fun β w' hs => tkRevoke0_c w' now) ?_
  refine call_pu (fun β w' hs => sweep0_c w' now) ?_
  refine call_pu (fun β w' hs => serial0_c w') ?_
  refine call_con [] (fun β w' hs => revoked0_c w') ?_
  rintro v Fs ⟨bx, rfl, rfl⟩
  refine call_con [0, 1] (R := fun v Fs => ∃ A c xs, v = .slice A (List.length xs) c ∧ xs = [] ∧ xs.length ≤ 0 ∧ (0 < xs.length → ∃ ad, A = some ad) ∧ Fs = [urowF A xs c, noO]) (hown := ⟨rfl, rfl, trivial⟩) (fun β w' hs => collectN_c w' n_ticket_Desk_Revoked_1 bx ty_ptr_ticket_Desk [.pointer none] noO noO 0 (fun xs => xs = []) (by kernel_rfl) rfl rfl (Nat.zero_le _) (revoked0_it bx) (hs.mem.take (js := [0, 1]) rfl)) ?_
  rintro v Fs ⟨A, c, xs, rfl, rfl, _, _, rfl⟩
  intro β w' hs
  exact (hs.keepB (List.nil_sublist _)).fin [] ⟨rfl, rfl⟩
end Go.Proofs.YtlhcgofdfhfegaaGreatDoor.Sx

namespace Go.Proofs.YtlhcgofdfhfegaaGreatDoor.Sx
open Go
theorem handed_shaped {H : Type} {enc : TypeId × Value → H} {a : Assume} {C : Checked} {os : Os} {f : FuncId} {fn : Func} {s : ChangeSpec} {conds : List PathCond} {apart fresh handsOn again : Bool} {X : World → Array Value → Prop}
    (hX : ∀ (w w' : World) (args : Array Value), w.heap = w'.heap → X w args → X w' args)
    (own : ownKnob C.prog.godebug = none) (started : os.Started) (noInit : C.prog.inits.idxOf? f = none) (hfn : C.prog.funcs[f]? = some fn)
    (witness : ∃ (w : World) (tape : Tape) (i : Input), w.os = os ∧ (w.forCall tape i).Shaped C.prog ∧ i.vars = [] ∧ Input.okWide C.prog (w.forCall tape i) .any w.heap.size f i ∧
      ((s.pre enc C.prog fn conds apart (w.forCall tape i).memory i.args ∧ X (w.forCall tape i).memory i.args) ∧ sizedMet enc C.prog fn (OpenSpec.ofChange s) apart (w.forCall tape i).memory i.args) ∧ a.holds C.prog (lone (Frame.enter C.prog f i.args .normal) [] (w.forCall tape i)))
    (key : ∀ (W : World) (base : Nat) (args : Array Value) (ds gs : List (DataW H)) (before : List MemPlace),
      (∀ (j : Nat) t v, fn.params[j]? = some t → args[j]? = some v → Value.okWide C.prog W .any base t v) →
      DataW.Whole enc C.prog fn.params.toList s.vars apart W args.toList ds gs before → X W args → W.ShapedOpen C.prog →
      Calls C.prog f args W fun e W' => ∃ v, e = .returned v ∧ s.post enc C.prog fn apart fresh handsOn again W args v W') :
    ReturnsInHanded a C os f .any (fun w args => (s.pre enc C.prog fn conds apart w args ∧ X w args) ∧ sizedMet enc C.prog fn (OpenSpec.ofChange s) apart w args) (s.post enc C.prog fn apart fresh handsOn again) := by
  refine returnsInHanded_of_calls own started noInit witness (fun w tape i _ hshape _ hin hp _ => ?_)
  obtain ⟨_, _, _, fn2, hfn2, _, _, _, _, hvals⟩ := hin
  obtain rfl : fn2 = fn := Option.some.inj (hfn2.symm.trans hfn)
  obtain ⟨⟨⟨ds, gs, before, hwh, _⟩, hx⟩, _⟩ := hp
  refine (key (w.forCall tape i) w.heap.size i.args ds gs before hvals (DataW.Whole.of_heap (w' := w.forCall tape i) (by rfl) hwh) (hX _ _ _ (by rfl) hx) hshape).mono fun e W' ⟨v, he, hq⟩ => ?_
  subst he
  exact ChangeSpec.post_blind hq
theorem ml_of {w : World} (h : w.ShapedOpen Tryz.prog) : mlF.p w :=
  cell_of_shapedOpen_int (P := Tryz.prog) (g := 0) (t := ty_int) (zero := #[.int .i64 0]) h (of_decide_eq_true (by kernel_rfl)) (by kernel_rfl) rfl (by kernel_rfl) (by kernel_rfl) (ok3.real (d := .int .i64) rfl rfl)
theorem ml_ok {w : World} (h : mlF.p w) : RoOk w mlF := by
  refine ⟨rfl, h, fun k hk => ?_⟩
  obtain ⟨m, hm⟩ := h
  obtain rfl : k = 0 := hk
  unfold World.cell? at hm
  rcases Nat.lt_or_ge 0 w.heap.size with q | q
  · exact q
  · simp [Array.getElem?_eq_none q] at hm
end Go.Proofs.YtlhcgofdfhfegaaGreatDoor.Sx

namespace Go.Proofs.YtlhcgofdfhfegaaGreatDoor.Sx
open Go Go.RowKit
theorem below_of {w w' : World} (h : Chg None_ w w') : Below w.heap.size w w' :=
  ⟨h.os, h.tape, h.output, h.size, fun k hk => h.same k hk (fun q => q)⟩
end Go.Proofs.YtlhcgofdfhfegaaGreatDoor.Sx

namespace Go.Proofs.YtlhcgofdfhfegaaGreatDoor.Sx
open Go
theorem rd_of_ints {H : Type} {enc : TypeId × Value → H} {P : Program} {W : World} {base : Nat} {sp : Nat → Bool} {held : Bool} {fuel g n : Nat} {t e : TypeId} {k : IntKind} {cs : Array Value} {zs : List Int} {q : List MemPlace}
    (ht : P.underlying t = some (.array n e)) (he : P.underlying e = some (.int k)) (hc : P.cellsOf e = 1) (hd : DataW.trod enc P W base sp held fuel t cs.toList = some (.agg (zs.map fun z => .lit (.int k z)), q)) (hcell : ∀ j, W.cell? ⟨g, j, none⟩ = cs[j]?) :
    Rd 1 (some ⟨g, 0, none⟩) zs.length (zs.map (Value.int k)) W := by
  obtain ⟨xs, m, _, hx, hlen, hn, hel⟩ := DataW.trod_array ht hd
  simp only [Prod.mk.injEq, DataW.agg.injEq] at hx
  have hzn : zs.length = n := by
    have h9 := congrArg List.length hx.1
    simp only [List.length_map] at h9
    omega
  refine ⟨by simp, fun hp => ⟨_, rfl, fun j u hu => ?_⟩⟩
  rw [List.getElem?_map] at hu
  obtain ⟨z, hz, rfl⟩ := Option.map_eq_some_iff.1 hu
  have hj : j < zs.length := (List.getElem?_eq_some_iff.1 hz).1
  have h1 := hel j (by omega)
  have h2 : (xs.map (·.1))[j]? = some (.lit (.int k z)) := by rw [← hx.1, List.getElem?_map, hz]; rfl
  rw [List.getElem?_map] at h2
  obtain ⟨x, hxj, hx1⟩ := Option.map_eq_some_iff.1 h2
  rw [hxj, hc, Nat.mul_one] at h1
  obtain ⟨y, e1, e2, _⟩ := DataW.trod_int he h1
  have hy : y = z := by
    rw [e2] at hx1
    simpa using hx1
  subst hy
  rw [add_none, Nat.zero_add, hcell j, ← Array.getElem?_toList]
  have h3 := congrArg (fun l => l[0]?) e1
  simpa [List.getElem?_drop] using h3
abbrev u32s (l : List UInt32) : List Int := l.map fun x => (x.toNat : Int)
theorem rd_u32 {g : Nat} {W : World} {l : List UInt32} (h : Rd 1 (some ⟨g, 0, none⟩) (u32s l).length ((u32s l).map (Value.int .u32)) W) : Rd 1 (some ⟨g, 0, none⟩) l.length (l.map u32) W := by
  have e : (u32s l).map (Value.int .u32) = l.map u32 := by rw [List.map_map]; rfl
  rw [e, List.length_map] at h
  exact h
end Go.Proofs.YtlhcgofdfhfegaaGreatDoor.Sx

namespace Go.Proofs.YtlhcgofdfhfegaaGreatDoor.Sx
open Go
mutual
def lits {H : Type} : DataW H → Option (List Value)
  | .lit (.int k n) => some [.int k n]
  | .lit (.bool b) => some [.bool b]
  | .lit (.string l) => some [.string ⟨l.toArray⟩]
  | .agg ps => litsL ps
  | _ => none
def litsL {H : Type} : List (DataW H) → Option (List Value)
  | [] => some []
  | d :: r => match lits d, litsL r with
    | some a, some b => some (a ++ b)
    | _, _ => none
end
def contig (P : Program) : List Field → Nat → Option Nat
  | [], o => some o
  | f :: r, o => if f.offset = o then contig P r (o + P.cellsOf f.type) else none
def flatB (P : Program) : Nat → TypeId → Bool
  | 0, _ => false
  | n + 1, t => match P.underlying t with
    | some (.int _) | some .bool | some .string => true
    | some (.struct fs) => (match contig P fs.toList 0 with | some e => Nat.beq e (P.cellsOf t) | none => false) && fs.toList.all fun f => flatB P n f.type
    | some (.array m e) => Nat.beq (m * P.cellsOf e) (P.cellsOf t) && flatB P n e
    | _ => false
section
variable {H : Type} {enc : TypeId × Value → H} {P : Program} {w : World} {base : Nat} {sp : Nat → Bool} {held : Bool}
theorem fields_cat (m : Nat) (cs : List Value) : ∀ (fs : List Field) (xs : List (DataW H × List MemPlace)) (o e : Nat), contig P fs o = some e → xs.length = fs.length →
    (∀ (i : Nat) (f : Field), fs[i]? = some f → DataW.trod enc P w base sp held m f.type ((cs.drop f.offset).take (P.cellsOf f.type)) = xs[i]?) →
    (∀ f ∈ fs, ∀ cs' x, DataW.trod enc P w base sp held m f.type cs' = some x → lits x.1 = some cs') → o ≤ e ∧ litsL (xs.map (·.1)) = some ((cs.drop o).take (e - o))
  | [], xs, o, e, hc, hl, _, _ => by
    obtain rfl := Option.some.inj hc
    obtain rfl := List.eq_nil_of_length_eq_zero hl
    exact ⟨Nat.le_refl _, by simp [litsL]⟩
  | f :: r, [], o, e, hc, hl, _, _ => by cases hl
  | f :: r, x :: xs, o, e, hc, hl, h, ih => by
    simp only [contig] at hc
    split at hc
    · rename_i ho
      have h0 := h 0 f rfl
      rw [ho] at h0
      have h1 := ih f List.mem_cons_self _ x h0
      obtain ⟨h2, h3⟩ := fields_cat m cs r xs _ e hc (by simpa using hl) (fun i g hg => by
        have := h (i + 1) g (by simpa using hg)
        simpa using this) (fun g hg => ih g (List.mem_cons_of_mem _ hg))
      refine ⟨by omega, ?_⟩
      simp only [List.map_cons, litsL, h1, h3]
      congr 1
      have e1 : e - o = P.cellsOf f.type + (e - (o + P.cellsOf f.type)) := by omega
      rw [e1, List.take_add, List.drop_drop]
    · cases hc
theorem elems_cat (m k : Nat) (ty : TypeId) (cs : List Value) (hk : P.cellsOf ty = k) : ∀ (n : Nat) (xs : List (DataW H × List MemPlace)) (o : Nat), xs.length = n →
    (∀ i, i < n → DataW.trod enc P w base sp held m ty ((cs.drop (o + i * k)).take k) = xs[i]?) →
    (∀ cs' x, DataW.trod enc P w base sp held m ty cs' = some x → lits x.1 = some cs') → litsL (xs.map (·.1)) = some ((cs.drop o).take (n * k))
  | 0, xs, o, hl, _, _ => by
    obtain rfl := List.eq_nil_of_length_eq_zero hl
    simp [litsL]
  | n + 1, [], o, hl, _, _ => by cases hl
  | n + 1, x :: xs, o, hl, h, ih => by
    have h0 := h 0 (Nat.succ_pos _)
    rw [Nat.zero_mul, Nat.add_zero] at h0
    have h1 := ih _ x h0
    have h3 := elems_cat m k ty cs hk n xs (o + k) (by simpa using hl) (fun i hi => by
      have := h (i + 1) (by omega)
      rw [Nat.succ_mul, Nat.add_comm (i * k) k, ← Nat.add_assoc] at this
      simpa using this) ih
    simp only [List.map_cons, litsL, h1, h3]
    congr 1
    rw [Nat.succ_mul, Nat.add_comm (n * k) k, List.take_add, List.drop_drop]
theorem cells_of : ∀ (k m : Nat) (t : TypeId) (cs : List Value) (x : DataW H × List MemPlace), flatB P k t = true → DataW.trod enc P w base sp held m t cs = some x → lits x.1 = some cs
  | 0, _, _, _, _, h, _ => by cases h
  | k + 1, m, t, cs, x, h, hd => by
    unfold flatB at h
    split at h
    · rename_i ht
      obtain ⟨n, rfl, rfl, _⟩ := DataW.trod_int ht hd
      rfl
    · rename_i ht
      obtain ⟨n, rfl, rfl⟩ := DataW.trod_bool ht hd
      rfl
    · rename_i ht
      obtain ⟨s, rfl, rfl, _⟩ := DataW.trod_string ht hd
      cases s with | mk a => simp [lits, ByteArray.toList_eq]
    · rename_i fs ht
      obtain ⟨xs, n, rfl, rfl, hl, hxl, hel⟩ := DataW.trod_struct ht hd
      simp only [Bool.and_eq_true] at h
      obtain ⟨hcon, hall⟩ := h
      cases hc : contig P fs.toList 0 with
      | none => rw [hc] at hcon; cases hcon
      | some e =>
        rw [hc] at hcon
        have he := Nat.eq_of_beq_eq_true hcon
        subst he
        have := (fields_cat n cs fs.toList xs 0 _ hc (by simpa using hxl) (fun i f hf => hel i f (by simpa using hf)) (fun f hf cs' x' hx => cells_of k n f.type cs' x' (List.all_eq_true.1 hall f hf) hx)).2
        simp only [lits, this, List.drop_zero, Nat.sub_zero]
        rw [← hl, List.take_length]
    · rename_i n e ht
      obtain ⟨xs, m', rfl, rfl, hl, hxl, hel⟩ := DataW.trod_array ht hd
      simp only [Bool.and_eq_true] at h
      have he := Nat.eq_of_beq_eq_true h.1
      have := elems_cat m' (P.cellsOf e) e cs rfl n xs 0 hxl (fun i hi => by rw [Nat.zero_add]; exact hel i hi) (fun cs' x' hx => cells_of k m' e cs' x' h.2 hx)
      simp only [lits, this, List.drop_zero, he]
      rw [← hl, List.take_length]
    · cases h
theorem rd_of_laid {g n size m : Nat} {t : TypeId} {cs : Array Value} {d : DataW H} {q : List MemPlace} {vs : List Value} (hf : flatB P 5 t = true) (hv : lits d = some vs) (hn : vs.length = n * size)
    (hd : DataW.trod enc P w base sp held m t cs.toList = some (d, q)) (hcell : ∀ j, w.cell? ⟨g, j, none⟩ = cs[j]?) : Rd size (some ⟨g, 0, none⟩) n vs w := by
  have h := cells_of 5 m t _ _ hf hd
  rw [hv] at h
  have h' := Option.some.inj h
  refine ⟨hn, fun _ => ⟨_, rfl, fun j u hu => ?_⟩⟩
  rw [add_none, Nat.zero_add, hcell j, ← Array.getElem?_toList, ← h']
  exact hu
end
end Go.Proofs.YtlhcgofdfhfegaaGreatDoor.Sx
