/- Texts joined: Mk2, Mk3, Ha, Aw1, Aw2, Aw3, Sto4, Sto5, Sto6, Sto7, Sto8, Aw14, Tl5, Tl7, BxS, Cmk, Tabs, SxArg, Laid, Laid2. -/
import Derived.Test.YthkjfepbmnabkaaGreatDoorMCM4
import Derived.Test.YthkjfepbmnabkaaGreatDoorMCM3
import Derived.Test.YthkjfepbmnabkaaGreatDoorMCM2
import Derived.Below
import Derived.OpenShut
import Derived.ChangeArms
import Derived.LaidMore
set_option linter.unusedVariables false
set_option linter.unusedSimpArgs false
/- Secrets made. -/
namespace Go.Proofs.YthkjfepbmnabkaaGreatDoor.Sx
open Go
attribute [local irreducible] Calls

def clientK : List UInt8 := [67, 108, 105, 101, 110, 116, 32, 75, 101, 121]
def serverK : List UInt8 := [83, 101, 114, 118, 101, 114, 32, 75, 101, 121]
/-- Why there is no secret; nought: there is one. -/
def mkErr (tenant user pass : ByteArray) (n : Nat) (it : Int) : Int :=
  if plainF tenant.data.toList = false then 5 else if ¬ (nameA user).2 = 0 then (nameA user).2 else if ¬ (passA pass).2 = 0 then (passA pass).2 else if saltedN n it = false then 1 else 0
/-- What a box makes of a password. -/
noncomputable def mk1 (B : Bx.Box) (p salt : List UInt8) (it : Nat) : List UInt8 × Bx.Box := strB B p salt it
noncomputable def mk2 (B : Bx.Box) (p salt : List UInt8) (it : Nat) : List UInt8 × Bx.Box := macB (mk1 B p salt it).2 (mk1 B p salt it).1 clientK
noncomputable def mk3 (B : Bx.Box) (p salt : List UInt8) (it : Nat) : List UInt8 × Bx.Box := hashB (mk2 B p salt it).2 (mk2 B p salt it).1
noncomputable def mk4 (B : Bx.Box) (p salt : List UInt8) (it : Nat) : List UInt8 × Bx.Box := macB (mk3 B p salt it).2 (mk1 B p salt it).1 serverK
noncomputable def mk5 (B : Bx.Box) (p salt : List UInt8) (it : Nat) (t : List UInt8) : List UInt8 × Bx.Box := hashB (mk4 B p salt it).2 t
structure MkG (B : Bx.Box) (p salt : List UInt8) (it : Nat) (t : List UInt8) : Prop where
  g1 : GoodT B (mk1 B p salt it)
  g2 : GoodT (mk1 B p salt it).2 (mk2 B p salt it)
  g3 : GoodT (mk2 B p salt it).2 (mk3 B p salt it)
  g4 : GoodT (mk3 B p salt it).2 (mk4 B p salt it)
  g5 : GoodT (mk4 B p salt it).2 (mk5 B p salt it t)
theorem mk_good {B : Bx.Box} (hi : BInv B) (hl : B.L.length < 4000) {p salt t : List UInt8} {it : Nat} (hp : p.length ≤ 1000000) (hs : salt.length ≤ 1000000) (ht : t.length ≤ 1000000) (hit : it ≤ 64) : MkG B p salt it t := by
  have g1 : GoodT B (mk1 B p salt it) := str_good hi (by omega) hp hs hit
  have l1 := g1.1.len
  have k1 := g1.2.1
  have g2 : GoodT (mk1 B p salt it).2 (mk2 B p salt it) := mac_good g1.1.inv (by omega) (by omega) (by decide)
  have l2 := g2.1.len
  have k2 := g2.2.1
  have g3 : GoodT (mk2 B p salt it).2 (mk3 B p salt it) := hash_good g2.1.inv (by omega) (by omega)
  have l3 := g3.1.len
  have g4 : GoodT (mk3 B p salt it).2 (mk4 B p salt it) := mac_good g3.1.inv (by omega) (by omega) (by decide)
  have l4 := g4.1.len
  exact ⟨g1, g2, g3, g4, hash_good g4.1.inv (by omega) ht⟩
theorem MkG.ext {B : Bx.Box} {p salt t : List UInt8} {it : Nat} (h : MkG B p salt it t) : (mk5 B p salt it t).2.L.length ≤ B.L.length + 5 ∧ BInv (mk5 B p salt it t).2 ∧ (mk5 B p salt it t).2.sym = B.sym := by
  have l1 := h.g1.1.len
  have l2 := h.g2.1.len
  have l3 := h.g3.1.len
  have l4 := h.g4.1.len
  have l5 := h.g5.1.len
  exact ⟨by omega, h.g5.1.inv, by rw [h.g5.1.sym, h.g4.1.sym, h.g3.1.sym, h.g2.1.sym, h.g1.1.sym]⟩
def colonS : ByteArray := ⟨#[58]⟩
def haT (u tenant p : ByteArray) : ByteArray := u ++ colonS ++ tenant ++ colonS ++ p
theorem haT_size (u tenant p : ByteArray) : (haT u tenant p).size = u.size + tenant.size + p.size + 2 := by
  have : colonS.size = 1 := rfl
  simp only [haT, ByteArray.size_append, this]
  omega
def noSec : Value := .agg #[.slice none 0 0, .int .i64 0, .slice none 0 0, .slice none 0 0, .slice none 0 0]
/-- A secret that was made, in memory; the box behind it. -/
def madeSec (F : Bx.Box → Lay → Fact) (B : Bx.Box) (tenant user pass : ByteArray) (salt : List UInt8) (it : Int) (v : Value) (Fs : List Fact) : Prop :=
  ∃ A0 c0 A1 c1 A2 c2 A3 c3 y',
    v = .tuple #[(SecA.mk A0 A1 A2 A3 c0 c1 c2 c3 salt (mk3 B (passA pass).1.data.toList salt it.toNat).1 (mk4 B (passA pass).1.data.toList salt it.toNat).1 (mk5 B (passA pass).1.data.toList salt it.toNat (haT (nameA user).1 tenant (passA pass).1).data.toList).1 it).val, .int .i64 0] ∧
    y'.ts.map (·.1) = (mk5 B (passA pass).1.data.toList salt it.toNat (haT (nameA user).1 tenant (passA pass).1).data.toList).2.L ∧
    Fs = [browF ty_uint8 A3 (mk5 B (passA pass).1.data.toList salt it.toNat (haT (nameA user).1 tenant (passA pass).1).data.toList).1 c3, browF ty_uint8 A2 (mk4 B (passA pass).1.data.toList salt it.toNat).1 c2, browF ty_uint8 A1 (mk3 B (passA pass).1.data.toList salt it.toNat).1 c1, browF ty_uint8 A0 salt c0, F (mk5 B (passA pass).1.data.toList salt it.toNat (haT (nameA user).1 tenant (passA pass).1).data.toList).2 y']
def makeOut (F : Bx.Box → Lay → Fact) (B : Bx.Box) (y : Lay) (tenant user pass : ByteArray) (salt : List UInt8) (it : Int) (v : Value) (Fs : List Fact) : Prop :=
  if mkErr tenant user pass salt.length it = 0 then madeSec F B tenant user pass salt it v Fs
  else v = .tuple #[noSec, .int .i64 (mkErr tenant user pass salt.length it)] ∧ Fs = [F B y]
theorem makeOut_no {F : Bx.Box → Lay → Fact} {B : Bx.Box} {y : Lay} {tenant user pass : ByteArray} {salt : List UInt8} {it e : Int} (h : mkErr tenant user pass salt.length it = e) (h0 : ¬ e = 0) : makeOut F B y tenant user pass salt it (.tuple #[noSec, .int .i64 e]) [F B y] := by
  unfold makeOut
  rw [h, if_neg h0]
  exact ⟨rfl, rfl⟩
set_option maxHeartbeats 2000000 in
theorem make_c (w : World) (b : Nat) (B : Bx.Box) (y : Lay) (tenant user pass : ByteArray) (S : Option Addr) (salt : List UInt8) (cS : Nat) (it : Int) (hts : y.ts.map (·.1) = B.L) (hi : BInv B) (hL : B.L.length < 4000) (ht : tenant.size ≤ 100000) (hu : user.size ≤ 100000) (hp : pass.size ≤ 100000) (hsl : salt.length ≤ 100000)
    (hm : Mem w [bxF b B y, bsF S salt, oddF 2, firstF 0, namF]) :
    Con Tryz.prog n_cred_Make #[ptrB b, .string tenant, .string user, .string pass, .slice S salt.length cS, .int .i64 it] w [bxF b B y] (makeOut (bxF b) B y tenant user pass salt it) := by
  have g := good_cred_Make w (Un [bxF b B y])
  have hml := maxLen_eq
  have hs0 : Sat (cx_cred_Make w (Un [bxF b B y])) Va.z 0 [] [bxF b B y, bsF S salt, oddF 2, firstF 0, namF] w := hm.sat0 rfl (ownIn (Gs := [bxF b B y]) (fun f hf => by
    simp only [List.mem_cons, List.not_mem_nil, or_false] at hf
    rcases hf with rfl | rfl | rfl | rfl <;> rfl))
  refine con_of_sx (cx := cx_cred_Make w (Un [bxF b B y])) g b_cred_Make rfl rfl (β := Va.z) [.c (.v (ptrB b)), .c (.v (.string tenant)), .c (.v (.string user)), .c (.v (.string pass)), .c (.v (.slice S salt.length cS)), .c (.v (.int .i64 it))] 0 [] _ rfl rfl hs0 ?_
  have bad : ∀ {e : Int}, mkErr tenant user pass salt.length it = e → ¬ e = 0 → ∀ {n : Nat} {H : List Bk} (β : Va) (w' : World), Sat (cx_cred_Make w (Un [bxF b B y])) β n H [bxF b B y, bsF S salt, oddF 2, firstF 0, namF] w' → Fin w [bxF b B y] (makeOut (bxF b) B y tenant user pass salt it) (.tuple #[noSec, .int .i64 e]) w' := by
    intro e h h0 n H β w' hs
    exact (hs.keepB (List.nil_sublist _)).fin [0] (makeOut_no h h0)
  obtain ⟨b1, hb1⟩ : ∃ b1, plainF tenant.data.toList = b1 := ⟨_, rfl⟩
  refine call_pu (v := .bool b1) (fun β w' hs => by rw [← hb1]; exact plain_c w' tenant ht) ?_
  cases b1 with
  | false => exact fun β w' hs => bad (by unfold mkErr; rw [if_pos hb1]) (by decide) β w' hs
  | true =>
  obtain ⟨un, ue, hun⟩ : ∃ un ue, nameA user = (un, ue) := ⟨_, _, rfl⟩
  have hul := nameA_len user
  rw [hun] at hul
  simp only at hul
  refine call_pu (v := .tuple #[.string un, .int .i64 ue]) (fun β w' hs => by
    have h := nameA_c w' user hu (namF_T (hs.get 4 rfl))
    rw [hun] at h
    exact h) ?_
  refine BIf.not (BIf.dec (fun h1 => ?_) (fun h1 => ?_))
  rotate_left
  · exact fun β w' hs => bad (by unfold mkErr; rw [if_neg (by rw [hb1]; decide), hun, if_pos h1]) h1 β w' hs
  obtain rfl : ue = 0 := h1
  obtain ⟨pn, pe, hpn⟩ : ∃ pn pe, passA pass = (pn, pe) := ⟨_, _, rfl⟩
  have hpl := passA_len pass
  rw [hpn] at hpl
  simp only at hpl
  refine call_pu (v := .tuple #[.string pn, .int .i64 pe]) (fun β w' hs => by
    have h := pass_c w' pass hp (namF_T (hs.get 4 rfl))
    rw [hpn] at h
    exact h) ?_
  refine BIf.not (BIf.dec (fun h2 => ?_) (fun h2 => ?_))
  rotate_left
  · exact fun β w' hs => bad (by unfold mkErr; rw [if_neg (by rw [hb1]; decide), hun, if_neg (by simp), hpn, if_pos h2]) h2 β w' hs
  obtain rfl : pe = 0 := h2
  obtain ⟨b2, hb2⟩ : ∃ b2, saltedN salt.length it = b2 := ⟨_, rfl⟩
  refine call_pu (v := .bool b2) (fun β w' hs => by rw [← hb2]; exact csalted_c w' S salt.length cS it) ?_
  cases b2 with
  | false => exact fun β w' hs => bad (by unfold mkErr; rw [if_neg (by rw [hb1]; decide), hun, if_neg (by simp), hpn, if_neg (by simp), if_pos hb2]) (by decide) β w' hs
  | true =>
  obtain ⟨hit1, hit2, hs32⟩ := salted_ok hb2
  have hout : makeOut (bxF b) B y tenant user pass salt it = madeSec (bxF b) B tenant user pass salt it := by
    funext v Fs
    unfold makeOut
    rw [if_pos (by unfold mkErr; rw [if_neg (by rw [hb1]; decide), hun, if_neg (by simp), hpn, if_neg (by simp), if_neg (by rw [hb2]; decide)])]
  rw [hout]
  unfold madeSec
  rw [hun, hpn]
  simp only
  clear hout bad
  have hpl2 : pn.data.toList.length ≤ 64 := hpl
  have hht := haT_size un tenant pn
  have ht32 : tenant.size ≤ 32 := by
    unfold plainF at hb1
    simp only [Bool.and_eq_true, decide_eq_true_eq] at hb1
    exact hb1.2.2
  have hG := mk_good hi hL (p := pn.data.toList) (salt := salt) (it := it.toNat) (t := (haT un tenant pn).data.toList) (by omega) (by omega) (by show (haT un tenant pn).size ≤ _; omega) (by omega)
  intro bp cp hcp _
  refine call_con [1] (R := strL (bxF b) (mk1 B pn.data.toList salt it.toNat)) (fun β w' hs => strL_c w' b B y (some ⟨bp, 0, none⟩) S pn.data.toList salt cp cS it ⟨hit1, hit2⟩ hts hi (by omega) (by omega) (by omega) ((hs.unown 0 rfl).mem.take (js := [1, 0, 2, 3, 4]) rfl)) ?_
  rintro v Fs ⟨A1, c1, y1, rfl, q1, q2, hts1, rfl⟩
  have l1 := hG.g1.1.len
  have k1 := hG.g1.2.1
  intro bc
  refine ⟨0, _, rfl, ?_⟩
  intro br
  refine call_con [3] (R := outL (bxF b) (mk2 B pn.data.toList salt it.toNat)) (fun β w' hs => by
    have h2 := ((hs.rowRd 0 rfl).ro 2 rfl).part1 (l := clientK) [0, 1] rfl
    exact macL_c w' b _ y1 A1 _ c1 br _ clientK 10 hts1 hG.g1.1.inv (by omega) (by omega) (by decide) (h2.mem.take (js := [4, 0, 3, 7, 8]) rfl)) ?_
  rintro v Fs ⟨A2, c2, y2, rfl, q3, q4, hts2, rfl⟩
  have l2 := hG.g2.1.len
  have k2 := hG.g2.2.1
  refine call_con [] (fun β w' hs => clone_c w' S salt cS (hs.get 6 rfl) (by omega)) ?_
  rintro v Fs ⟨A0, c0, rfl, q5, q6, rfl⟩
  intro br2
  refine call_con [3] (R := outL (bxF b) (mk3 B pn.data.toList salt it.toNat)) (fun β w' hs => by
    have h2 := ((hs.rowRd 0 rfl).ro 2 rfl).part1 (l := (mk2 B pn.data.toList salt it.toNat).1) [0, 2] rfl
    exact hashL_c w' b _ y2 br2 A2 _ c2 hts2 hG.g2.1.inv (by omega) (by omega) (h2.mem.take (js := [4, 0, 10, 11]) rfl)) ?_
  rintro v Fs ⟨A3, c3, y3, rfl, q7, q8, hts3, rfl⟩
  have l3 := hG.g3.1.len
  have k3 := hG.g3.2.1
  intro bs
  refine ⟨0, _, rfl, ?_⟩
  intro br3
  refine call_con [3] (R := outL (bxF b) (mk4 B pn.data.toList salt it.toNat)) (fun β w' hs => by
    have h2 := ((hs.rowRd 0 rfl).ro 9 rfl).part1 (l := serverK) [0, 1] rfl
    exact macL_c w' b _ y3 A1 _ c1 br3 _ serverK 10 hts3 hG.g3.1.inv (by omega) (by omega) (by decide) (h2.mem.take (js := [4, 0, 10, 13, 14]) rfl)) ?_
  rintro v Fs ⟨A4, c4, y4, rfl, q9, q10, hts4, rfl⟩
  have l4 := hG.g4.1.len
  have k4 := hG.g4.2.1
  have hcs : colonS.size = 1 := rfl
  refine ⟨by show un.size + 1 ≤ maxLen; omega, by show (un ++ colonS).size + tenant.size ≤ maxLen; rw [ByteArray.size_append]; omega, by show (un ++ colonS ++ tenant).size + 1 ≤ maxLen; rw [ByteArray.size_append, ByteArray.size_append]; omega, by show (un ++ colonS ++ tenant ++ colonS).size + pn.size ≤ maxLen; rw [ByteArray.size_append, ByteArray.size_append, ByteArray.size_append]; omega, ?_⟩
  intro bh ch hch _
  intro br4
  refine call_con [3] (R := outL (bxF b) (mk5 B pn.data.toList salt it.toNat (haT un tenant pn).data.toList)) (fun β w' hs => by
    have h2 := ((hs.rowRd 0 rfl).unown 1 rfl).part1 (l := (haT un tenant pn).data.toList) [0, 1] rfl
    exact hashL_c w' b _ y4 br4 (some ⟨bh, 0, none⟩) (haT un tenant pn).data.toList ch hts4 hG.g4.1.inv (by omega) (by show (haT un tenant pn).size ≤ _; omega) (h2.mem.take (js := [4, 0, 16, 17]) rfl)) ?_
  rintro v Fs ⟨A5, c5, y5, rfl, q11, q12, hts5, rfl⟩
  intro β w' hs
  exact (hs.keepB (List.nil_sublist _)).fin [0, 4, 7, 9, 1] ⟨A0, c0, A3, c3, A4, c4, A5, c5, y5, rfl, hts5, rfl⟩ rfl rfl rfl ⟨rfl, rfl, rfl, rfl, rfl, trivial⟩
end Go.Proofs.YthkjfepbmnabkaaGreatDoor.Sx

/- Secrets made, by the reference. -/
namespace Go.Proofs.YthkjfepbmnabkaaGreatDoor.Sx
open Go
attribute [local irreducible] Calls

set_option maxHeartbeats 2000000 in
theorem rmake_c (w : World) (b : Nat) (B : Bx.Box) (y : Lay) (tenant user pass : ByteArray) (S : Option Addr) (salt : List UInt8) (cS : Nat) (it : Int) (hts : y.ts.map (·.1) = B.L) (hi : BInv B) (hL : B.L.length < 4000) (ht : tenant.size ≤ 100000) (hu : user.size ≤ 100000) (hp : pass.size ≤ 100000) (hsl : salt.length ≤ 100000)
    (hm : Mem w [rbxF b B y, bsF S salt, oddF 3]) :
    Con Tryz.prog n_ostiaryref14_Make #[ptrB b, .string tenant, .string user, .string pass, .slice S salt.length cS, .int .i64 it] w [rbxF b B y] (makeOut (rbxF b) B y tenant user pass salt it) := by
  have g := good_ostiaryref14_Make w (Un [rbxF b B y])
  have hml := maxLen_eq
  have hs0 : Sat (cx_ostiaryref14_Make w (Un [rbxF b B y])) Va.z 0 [] [rbxF b B y, bsF S salt, oddF 3] w := hm.sat0 rfl (ownIn (Gs := [rbxF b B y]) (fun f hf => by
    simp only [List.mem_cons, List.not_mem_nil, or_false] at hf
    rcases hf with rfl | rfl <;> rfl))
  refine con_of_sx (cx := cx_ostiaryref14_Make w (Un [rbxF b B y])) g b_ostiaryref14_Make rfl rfl (β := Va.z) [.c (.v (ptrB b)), .c (.v (.string tenant)), .c (.v (.string user)), .c (.v (.string pass)), .c (.v (.slice S salt.length cS)), .c (.v (.int .i64 it))] 0 [] _ rfl rfl hs0 ?_
  have bad : ∀ {e : Int}, mkErr tenant user pass salt.length it = e → ¬ e = 0 → ∀ {n : Nat} {H : List Bk} (β : Va) (w' : World), Sat (cx_ostiaryref14_Make w (Un [rbxF b B y])) β n H [rbxF b B y, bsF S salt, oddF 3] w' → Fin w [rbxF b B y] (makeOut (rbxF b) B y tenant user pass salt it) (.tuple #[noSec, .int .i64 e]) w' := by
    intro e h h0 n H β w' hs
    exact (hs.keepB (List.nil_sublist _)).fin [0] (makeOut_no h h0)
  obtain ⟨b1, hb1⟩ : ∃ b1, plainF tenant.data.toList = b1 := ⟨_, rfl⟩
  refine call_pu (v := .bool b1) (fun β w' hs => by rw [← hb1]; exact rplain_c w' tenant ht) ?_
  cases b1 with
  | false => exact fun β w' hs => bad (by unfold mkErr; rw [if_pos hb1]) (by decide) β w' hs
  | true =>
  obtain ⟨un, ue, hun⟩ : ∃ un ue, nameA user = (un, ue) := ⟨_, _, rfl⟩
  have hul := nameA_len user
  rw [hun] at hul
  simp only at hul
  refine call_pu (v := .tuple #[.string un, .int .i64 ue]) (fun β w' hs => by
    have h := rsized_c w' user 32 hu
    have e : (mkS (sizF user.data.toList 32).1, (sizF user.data.toList 32).2) = (un, ue) := hun
    obtain ⟨e1, e2⟩ := Prod.mk.inj e
    rw [e1, e2] at h
    exact h) ?_
  refine BIf.not (BIf.dec (fun h1 => ?_) (fun h1 => ?_))
  rotate_left
  · exact fun β w' hs => bad (by unfold mkErr; rw [if_neg (by rw [hb1]; decide), hun, if_pos h1]) h1 β w' hs
  obtain rfl : ue = 0 := h1
  obtain ⟨pn, pe, hpn⟩ : ∃ pn pe, passA pass = (pn, pe) := ⟨_, _, rfl⟩
  have hpl := passA_len pass
  rw [hpn] at hpl
  simp only at hpl
  refine call_pu (v := .tuple #[.string pn, .int .i64 pe]) (fun β w' hs => by
    have h := rsized_c w' pass 64 hp
    have e : (mkS (sizF pass.data.toList 64).1, (sizF pass.data.toList 64).2) = (pn, pe) := hpn
    obtain ⟨e1, e2⟩ := Prod.mk.inj e
    rw [e1, e2] at h
    exact h) ?_
  refine BIf.not (BIf.dec (fun h2 => ?_) (fun h2 => ?_))
  rotate_left
  · exact fun β w' hs => bad (by unfold mkErr; rw [if_neg (by rw [hb1]; decide), hun, if_neg (by simp), hpn, if_pos h2]) h2 β w' hs
  obtain rfl : pe = 0 := h2
  obtain ⟨b2, hb2⟩ : ∃ b2, saltedN salt.length it = b2 := ⟨_, rfl⟩
  refine call_pu (v := .bool b2) (fun β w' hs => by rw [← hb2]; exact rsalted_c w' S salt.length cS it) ?_
  cases b2 with
  | false => exact fun β w' hs => bad (by unfold mkErr; rw [if_neg (by rw [hb1]; decide), hun, if_neg (by simp), hpn, if_neg (by simp), if_pos hb2]) (by decide) β w' hs
  | true =>
  obtain ⟨hit1, hit2, hs32⟩ := salted_ok hb2
  have hout : makeOut (rbxF b) B y tenant user pass salt it = madeSec (rbxF b) B tenant user pass salt it := by
    funext v Fs
    unfold makeOut
    rw [if_pos (by unfold mkErr; rw [if_neg (by rw [hb1]; decide), hun, if_neg (by simp), hpn, if_neg (by simp), if_neg (by rw [hb2]; decide)])]
  rw [hout]
  unfold madeSec
  rw [hun, hpn]
  simp only
  clear hout bad
  have hpl2 : pn.data.toList.length ≤ 64 := hpl
  have hht := haT_size un tenant pn
  have ht32 : tenant.size ≤ 32 := by
    unfold plainF at hb1
    simp only [Bool.and_eq_true, decide_eq_true_eq] at hb1
    exact hb1.2.2
  have hlim : salt.length ≤ lim := by rw [lim_eq]; omega
  have hG := mk_good hi hL (p := pn.data.toList) (salt := salt) (it := it.toNat) (t := (haT un tenant pn).data.toList) (by omega) (by omega) (by show (haT un tenant pn).size ≤ _; omega) (by omega)
  intro bp cp hcp _
  refine call_con [1] (R := outL (rbxF b) (mk1 B pn.data.toList salt it.toNat)) (fun β w' hs => rstrL_c w' b B y (some ⟨bp, 0, none⟩) S pn.data.toList salt cp cS it ⟨hit1, hit2⟩ hts hi (by omega) (by omega) (by omega) ((hs.unown 0 rfl).mem.take (js := [1, 0, 2, 3]) rfl)) ?_
  rintro v Fs ⟨A1, c1, y1, rfl, q1, q2, hts1, rfl⟩
  have l1 := hG.g1.1.len
  have k1 := hG.g1.2.1
  intro bc
  refine ⟨0, _, rfl, ?_⟩
  refine call_con [2] (R := outL (rbxF b) (mk2 B pn.data.toList salt it.toNat)) (fun β w' hs => rmacL_c w' b _ y1 A1 (some ⟨bc, 0, none⟩) _ clientK c1 10 hts1 hG.g1.1.inv (by omega) (by omega) (by decide) ((hs.ro 1 rfl).mem.take (js := [2, 1, 0, 5]) rfl)) ?_
  rintro v Fs ⟨A2, c2, y2, rfl, q3, q4, hts2, rfl⟩
  have l2 := hG.g2.1.len
  have k2 := hG.g2.2.1
  refine call_con [] (fun β w' hs => con_row (copy_c w' S salt cS (hs.get 5 rfl) hlim)) ?_
  rintro v Fs ⟨A0, c0, rfl, q5, q6, rfl⟩
  refine call_con [2] (R := outL (rbxF b) (mk3 B pn.data.toList salt it.toNat)) (fun β w' hs => rhashL_c w' b _ y2 A2 _ c2 hts2 hG.g2.1.inv (by omega) (by omega) ((hs.ro 1 rfl).mem.take (js := [2, 1, 7]) rfl)) ?_
  rintro v Fs ⟨A3, c3, y3, rfl, q7, q8, hts3, rfl⟩
  have l3 := hG.g3.1.len
  have k3 := hG.g3.2.1
  intro bs
  refine ⟨0, _, rfl, ?_⟩
  refine call_con [2] (R := outL (rbxF b) (mk4 B pn.data.toList salt it.toNat)) (fun β w' hs => rmacL_c w' b _ y3 A1 (some ⟨bs, 0, none⟩) _ serverK c1 10 hts3 hG.g3.1.inv (by omega) (by omega) (by decide) ((hs.ro 6 rfl).mem.take (js := [2, 6, 0, 9]) rfl)) ?_
  rintro v Fs ⟨A4, c4, y4, rfl, q9, q10, hts4, rfl⟩
  have l4 := hG.g4.1.len
  have k4 := hG.g4.2.1
  have hcs : colonS.size = 1 := rfl
  refine ⟨by show un.size + 1 ≤ maxLen; omega, by show (un ++ colonS).size + tenant.size ≤ maxLen; rw [ByteArray.size_append]; omega, by show (un ++ colonS ++ tenant).size + 1 ≤ maxLen; rw [ByteArray.size_append, ByteArray.size_append]; omega, by show (un ++ colonS ++ tenant ++ colonS).size + pn.size ≤ maxLen; rw [ByteArray.size_append, ByteArray.size_append, ByteArray.size_append]; omega, ?_⟩
  intro bh ch hch _
  refine call_con [2] (R := outL (rbxF b) (mk5 B pn.data.toList salt it.toNat (haT un tenant pn).data.toList)) (fun β w' hs => rhashL_c w' b _ y4 (some ⟨bh, 0, none⟩) (haT un tenant pn).data.toList ch hts4 hG.g4.1.inv (by omega) (by show (haT un tenant pn).size ≤ _; omega) ((hs.unown 0 rfl).mem.take (js := [2, 0, 11]) rfl)) ?_
  rintro v Fs ⟨A5, c5, y5, rfl, q11, q12, hts5, rfl⟩
  intro β w' hs
  exact (hs.keepB (List.nil_sublist _)).fin [0, 3, 5, 6, 1] ⟨A0, c0, A3, c3, A4, c4, A5, c5, y5, rfl, hts5, rfl⟩ rfl rfl rfl ⟨rfl, rfl, rfl, rfl, rfl, trivial⟩
end Go.Proofs.YthkjfepbmnabkaaGreatDoor.Sx

/- Texts joined by colons, as bytes. -/
namespace Go.Proofs.YthkjfepbmnabkaaGreatDoor.Sx
open Go Sha
attribute [local irreducible] Calls

end Go.Proofs.YthkjfepbmnabkaaGreatDoor.Sx

/- What answers a challenge, by a plain box. -/
namespace Go.Proofs.YthkjfepbmnabkaaGreatDoor.Sx
open Go Sha
attribute [local irreducible] Calls

end Go.Proofs.YthkjfepbmnabkaaGreatDoor.Sx

/- What answers a challenge, by a plain box: the whole. -/
namespace Go.Proofs.YthkjfepbmnabkaaGreatDoor.Sx
open Go Sha
attribute [local irreducible] Calls

/-- An answer's eight parts. -/
structure AnsA where
  user : ByteArray
  realm : ByteArray
  nonce : ByteArray
  uri : ByteArray
  cnonce : ByteArray
  opaq : ByteArray
  nc : Nat
  proof : Value
def AnsA.cells (a : AnsA) : List Value := [.string a.user, .string a.realm, .string a.nonce, .string a.uri, .string a.cnonce, .string a.opaq, .int .u32 a.nc, a.proof]
end Go.Proofs.YthkjfepbmnabkaaGreatDoor.Sx

/- The document's example of a digest: it is right. -/
namespace Go.Proofs.YthkjfepbmnabkaaGreatDoor.Sx
open Go Sha
attribute [local irreducible] Calls

end Go.Proofs.YthkjfepbmnabkaaGreatDoor.Sx

/- Who there is: tenants and users that come. -/
namespace Go.Proofs.YthkjfepbmnabkaaGreatDoor.Sx
open Go
attribute [local irreducible] Calls

def addT (X : ASto) (t : ByteArray) : Int × ASto :=
  if plainF t.data.toList = false then (5, X) else if (aten X.ts t).isSome then (7, X) else if 8 ≤ X.ts.length then (8, X) else (0, { X with ts := X.ts ++ [(t, [])] })
/-- What an operation leaves. -/
def stoOut (S : Sto) (r : Int × ASto) (v : Value) (Fs : List Fact) : Prop := ∃ S' : Sto, v = .int .i64 r.1 ∧ S'.a = r.2 ∧ S'.b = S.b ∧ Fs = [stoF S']
theorem stoOut_same {S : Sto} {r : Int × ASto} {e : Int} (h : r = (e, S.a)) : stoOut S r (.int .i64 e) [stoF S] := ⟨S, by rw [h], by rw [h], rfl, rfl⟩
theorem ml_len (S : Sto) : S.ml.length = S.a.ts.length := by simp [Sto.ml, Sto.a]

theorem mlook_end : ∀ {l : ML} {s : ByteArray} {v : Value}, mlook l s = none → mlook (l ++ [(s, v)]) s = some v
  | [], s, v, _ => by simp [mlook]
  | (k, u) :: r, s, v, h => by
    simp only [mlook] at h
    split at h
    · cases h
    · rename_i hne
      simp only [List.cons_append, mlook, if_neg hne]
      exact mlook_end h
theorem sto_addT {c0 : Cx} {w : World} {S : Sto} {t : ByteArray} {mb : Nat} (h0 : Sat c0 Va.z 0 [] [bkF S.b ty_cred_Store S.vs, mapF S.m (S.ml ++ [(t, .map (some mb))]), sepF (S.ts.map tenF), mapF mb []] w) :
    Sat c0 Va.z 0 [] [stoF { S with ts := S.ts ++ [⟨mb, t, []⟩] }] w := by
  have h1 := h0.noMem (sepF []) ⟨fun f hf => (by cases hf), List.Pairwise.nil⟩ (fun k hk => by obtain ⟨f, hf, _⟩ := hk; cases hf)
  have h2 := h1.sep [4, 0]
  have h3 := h2.blur 0 3 (A := S.ts.map tenF) (B := []) (x := tenF ⟨mb, t, []⟩) rfl (by show some (sepF (S.ts.map tenF)) = _; rw [List.append_nil]) rfl (by decide)
  have h4 := h3.sep [1, 2, 0]
  have e : stoF { S with ts := S.ts ++ [⟨mb, t, []⟩] } = sepF [bkF S.b ty_cred_Store S.vs, mapF S.m (S.ml ++ [(t, .map (some mb))]), sepF (S.ts.map tenF ++ [tenF ⟨mb, t, []⟩])] := by
    unfold stoF Sto.ml
    simp [Sto.vs]
  rw [e]
  exact h4
theorem addTenant_c (w : World) (S : Sto) (t : ByteArray) (ht : t.size ≤ 100000) (hm : Mem w [stoF S]) : Con Tryz.prog n_cred_Store_AddTenant #[ptr S.b, .string t] w [stoF S] (stoOut S (addT S.a t)) := by
  have g := good_cred_Store_AddTenant w (Un [stoF S])
  refine con_of_sx (cx := cx_cred_Store_AddTenant w (Un [stoF S])) g b_cred_Store_AddTenant rfl rfl (β := Va.z) [.c (.v (ptr S.b)), .c (.v (.string t))] 0 [] [stoF S] rfl rfl (hm.sat0 rfl (fun f hf ho k hk => ⟨f, hf, hk⟩)) ?_
  refine call_pu (fun β w' hs => plain_c w' t ht) ?_
  generalize hp : plainF t.data.toList = bp
  cases bp with
  | false =>
    intro β w' hs
    exact hs.fin [0] (stoOut_same (by unfold addT; rw [if_pos hp]))
  | true =>
    have hp' : ¬ plainF t.data.toList = false := by rw [hp]; decide
    rcases look_ten t S.ts with ⟨A, T, B, eT, h0, h1, h2, h3, _⟩ | ⟨h1, h2, h3⟩
    · refine call_pu (v := .map (some T.b)) (fun β w' hs => by
        have h := users_c w' S t (hs.get 0 rfl) (hs.getLt 0 rfl)
        rw [h0] at h
        exact h) ?_
      intro β w' hs
      refine hs.fin [0] (stoOut_same ?_)
      unfold addT
      rw [if_neg hp', if_pos (by show (aten (S.ts.map Ten.a) t).isSome = true; rw [h3]; rfl)]
    · refine call_pu (v := .map none) (fun β w' hs => by
        have h := users_c w' S t (hs.get 0 rfl) (hs.getLt 0 rfl)
        rw [h3] at h
        exact h) ?_
      have h2' : ¬ (aten S.a.ts t).isSome = true := by show ¬ (aten (S.ts.map Ten.a) t).isSome = true; rw [h2]; simp
      have hl := ml_len S
      refine ⟨.map (some S.m), fun β w' hs => bkc (sto_bk (hs.get 0 rfl)) rfl, ?_⟩
      refine ⟨S.ml, fun β w' hs => sto_map (hs.get 0 rfl), ?_⟩
      refine BIf.dec (fun hf => ?_) (fun hf => ?_)
      · have hf0 : (8 : Int) ≤ (S.ml.length : Int) := hf
        intro β w' hs
        refine hs.fin [0] (stoOut_same ?_)
        unfold addT
        rw [if_neg hp', if_neg h2', if_pos (by omega)]
      · have hf0 : ¬ (8 : Int) ≤ (S.ml.length : Int) := hf
        refine ⟨.map (some S.m), fun β w' hs => bkc (sto_bk (hs.get 0 rfl)) rfl, ?_⟩
        intro mb
        refine ⟨[], fun _ => [stoF { S with ts := S.ts ++ [⟨mb, t, []⟩] }], fun β w' hs => ?_, fun _ => ?_⟩
        · have q1 := hs.unsep 1 rfl
          obtain ⟨w2, q2, q3⟩ := q1.mapPut g 1 rfl (t := ty_map_string_map_string_ptr_cred_Cred) t (.map (some mb))
          rw [mput_end (show mlook S.ml t = none from h1)] at q3
          exact ⟨w2, 0, q2, q3.recut [0, 1, 2, 3] sto_addT⟩
        · intro β w' hs
          refine hs.fin [0] ⟨{ S with ts := S.ts ++ [⟨mb, t, []⟩] }, ?_, ?_, rfl, rfl⟩
          · unfold addT
            rw [if_neg hp', if_neg h2', if_neg (by omega)]
            rfl
          · unfold addT
            rw [if_neg hp', if_neg h2', if_neg (by omega)]
            show ASto.mk ((S.ts ++ [(⟨mb, t, []⟩ : Ten)]).map Ten.a) _ _ = _
            rw [List.map_append]
            rfl

/-! ### a user more -/
def addU (X : ASto) (t u : ByteArray) (a : ASec) : Int × ASto :=
  match aten X.ts t with
  | none => (6, X)
  | some us => if (nameA u).2 = 0 then if rightA a = false then (4, X) else if (ausr us (nameA u).1).isSome then (7, X) else if 32 ≤ us.length then (8, X) else if greatN ≤ X.last then (8, X) else
      (0, { X with ts := atenU X.ts t (fun us => us ++ [⟨t, (nameA u).1, a, X.last + 1, [], false⟩]), last := X.last + 1 })
    else ((nameA u).2, X)
def newCrd (b : Nat) (t n : ByteArray) (y : Sec) (gen : Nat) : Crd := ⟨b, t, n, y, gen, none, 0, [], false⟩
theorem sto_addU {c0 : Cx} {w : World} {S : Sto} {A B : List Ten} {T : Ten} {n : ByteArray} {c : Crd} {last : Nat} (hT : S.ts = A ++ T :: B) (hn : c.user = n)
    (h0 : Sat c0 Va.z 0 [] [bkF S.b ty_cred_Store [.map (some S.m), .int .u64 (last : Int), .int .u64 S.reads], bkF c.b ty_cred_Cred c.vs, sepF c.parts, mapF T.b (T.m ++ [(n, ptr c.b)]), sepF (T.us.map crdF), mapF S.m S.ml, sepF ((A ++ B).map tenF)] w) :
    Sat c0 Va.z 0 [] [stoF { S with ts := A ++ { T with us := T.us ++ [c] } :: B, last := last }] w := by
  have h1 := h0.unsep 2 rfl
  have h2 := h1.sep [6, 0, 1, 2, 3, 4] rfl ⟨rfl, rfl, rfl, rfl, rfl, rfl, trivial⟩
  have h3 := h2.blur 0 3 (A := T.us.map crdF) (B := []) (x := crdF c) rfl (by show some (sepF (T.us.map crdF)) = _; rw [List.append_nil]) rfl (by decide)
  have h4 := h3.sep [2, 0]
  have e1 : tenF { T with us := T.us ++ [c] } = sepF [mapF T.b (T.m ++ [(n, ptr c.b)]), sepF (T.us.map crdF ++ [crdF c])] := by
    unfold tenF Ten.m
    simp [hn]
  have h4' : Sat c0 Va.z 0 [] [tenF { T with us := T.us ++ [c] }, bkF S.b ty_cred_Store [.map (some S.m), .int .u64 (last : Int), .int .u64 S.reads], mapF S.m S.ml, sepF (A.map tenF ++ B.map tenF)] w := by
    rw [e1, ← List.map_append]
    exact h4
  have h5 := h4'.blur 0 3 (A := A.map tenF) (B := B.map tenF) (x := tenF { T with us := T.us ++ [c] }) rfl rfl rfl (by decide)
  have h6 := h5.sep [1, 2, 0]
  have e : stoF { S with ts := A ++ { T with us := T.us ++ [c] } :: B, last := last } = sepF [bkF S.b ty_cred_Store [.map (some S.m), .int .u64 (last : Int), .int .u64 S.reads], mapF S.m S.ml, sepF (A.map tenF ++ tenF { T with us := T.us ++ [c] } :: B.map tenF)] := by
    unfold stoF Sto.ml
    rw [hT]
    simp [Sto.vs]
  rw [e]
  exact h6
theorem sto_openT {c0 : Cx} {w : World} {S : Sto} {A B : List Ten} {T : Ten} (hT : S.ts = A ++ T :: B) (h0 : Sat c0 Va.z 0 [] [stoF S] w) :
    Sat c0 Va.z 0 [] [bkF S.b ty_cred_Store S.vs, mapF T.b T.m, sepF (T.us.map crdF), mapF S.m S.ml, sepF ((A ++ B).map tenF)] w := by
  have h1 := h0.unsep 0 rfl
  have h2 := h1.focus 2 (A := A.map tenF) (B := B.map tenF) (x := tenF T) (by show some (sepF (S.ts.map tenF)) = _; rw [hT, List.map_append, List.map_cons]) rfl
  have h3 := h2.unsep 0 rfl
  have h4 := h3.perm [3, 0, 1, 4, 2]
  rw [List.map_append]
  exact h4
set_option maxHeartbeats 1000000 in
theorem add_c (w : World) (S : Sto) (t u : ByteArray) (x : SecV) (a : ASec) (hu : u.size ≤ 100000) (hz : ASz a) (hm : Mem w [stoF S, secF x a, namF]) :
    Con Tryz.prog n_cred_Store_Add #[ptr S.b, .string t, .string u, .agg x.vs.toArray] w [stoF S] (stoOut S (addU S.a t u a)) := by
  have g := good_cred_Store_Add w (Un [stoF S])
  refine con_of_sx (cx := cx_cred_Store_Add w (Un [stoF S])) g b_cred_Store_Add rfl rfl (β := Va.z) [.c (.v (ptr S.b)), .c (.v (.string t)), .c (.v (.string u)), .agg x.ss] 0 [] [stoF S, secF x a, namF] rfl rfl (hm.sat0 rfl (ownIn (Gs := [stoF S]) (fun f hf => by
    simp only [List.mem_cons, List.not_mem_nil, or_false] at hf
    rcases hf with rfl | rfl <;> rfl))) ?_
  rcases look_ten t S.ts with ⟨A, T, B, eT, h0, h1, h2, h3, h4, _⟩ | ⟨h1, h2, h3⟩
  rotate_left
  · refine call_pu (v := .map none) (fun β w' hs => by
      have h := users_c w' S t (hs.get 0 rfl) (hs.getLt 0 rfl)
      rw [h3] at h
      exact h) ?_
    intro β w' hs
    refine (hs.keepB (List.nil_sublist _)).fin [0] (stoOut_same ?_)
    unfold addU
    rw [show aten S.a.ts t = none from h2]
  refine call_pu (v := .map (some T.b)) (fun β w' hs => by
    have h := users_c w' S t (hs.get 0 rfl) (hs.getLt 0 rfl)
    rw [h0] at h
    exact h) ?_
  obtain ⟨p, e, hpe⟩ : ∃ p e, nameA u = (p, e) := ⟨_, _, rfl⟩
  have hadd : addU S.a t u a = if e = 0 then if rightA a = false then (4, S.a) else if (ausr (T.us.map Crd.a) p).isSome then (7, S.a) else if 32 ≤ (T.us.map Crd.a).length then (8, S.a) else if greatN ≤ S.last then (8, S.a) else
      (0, { S.a with ts := atenU S.a.ts t (fun us => us ++ [⟨t, p, a, S.last + 1, [], false⟩]), last := S.last + 1 }) else (e, S.a) := by
    unfold addU
    rw [show aten S.a.ts t = _ from h3, hpe]
    rfl
  refine call_pu (v := .tuple #[.string p, .int .i64 e]) (fun β w' hs => by
    have h := nameA_c w' u hu (namF_T (hs.get 2 rfl))
    rw [hpe] at h
    exact h) ?_
  refine BIf.not (BIf.dec (fun he => ?_) (fun he => ?_))
  rotate_left
  · have he0 : ¬ e = 0 := he
    rw [if_neg he0] at hadd
    intro β w' hs
    exact (hs.keepB (List.nil_sublist _)).fin [0] (stoOut_same hadd)
  have he0 : e = 0 := he
  rw [if_pos he0] at hadd
  refine call_pu (fun β w' hs => cright_c w' x) ?_
  have hri : rightN x = rightA a := (hm.fact (secF x a) (by simp)).right
  rw [hri]
  generalize hr : rightA a = br at hadd
  cases br with
  | false =>
    rw [if_pos rfl] at hadd
    intro β w' hs
    exact (hs.keepB (List.nil_sublist _)).fin [0] (stoOut_same hadd)
  | true =>
  rw [if_neg (by decide)] at hadd
  refine ⟨.pointer none, fun w => zero_ptrC w, T.m, mlook T.m p, fun β w' hs => ten_map (sto_ten (hs.get 0 rfl) eT), rfl, ?_⟩
  rcases look_crd p T.us with ⟨U, c, V, eU, q0, q1, q2, q3, _⟩ | ⟨q1, q2, q3⟩
  · rw [show mlook T.m p = _ from q2]
    rw [q3, if_pos (show (some c.a).isSome = true from rfl)] at hadd
    intro β w' hs
    exact (hs.keepB (List.nil_sublist _)).fin [0] (stoOut_same hadd)
  rw [show mlook T.m p = _ from q1]
  rw [q2, if_neg (show ¬ (none : Option ACrd).isSome = true from fun h => by cases h)] at hadd
  have hml : T.m.length = (T.us.map Crd.a).length := by simp [Ten.m]
  refine ⟨T.m, fun β w' hs => ten_map (sto_ten (hs.get 0 rfl) eT), ?_⟩
  rw [← hml] at hadd
  refine BIf.dec (fun hf => ?_) (fun hf => ?_)
  · have hf0 : (32 : Int) ≤ (T.m.length : Int) := hf
    rw [if_pos (by omega)] at hadd
    intro β w' hs
    exact (hs.keepB (List.nil_sublist _)).fin [0] (stoOut_same hadd)
  have hf0 : ¬ (32 : Int) ≤ (T.m.length : Int) := hf
  rw [if_neg (by omega)] at hadd
  refine ⟨.int .u64 (S.last : Int), fun β w' hs => bkc (sto_bk (hs.get 0 rfl)) rfl, ?_⟩
  refine BIf.dec (fun hg => ?_) (fun hg => ?_)
  · have hg0 : (9007199254740992 : Int) ≤ (S.last : Int) := hg
    rw [if_pos (by unfold greatN; omega)] at hadd
    intro β w' hs
    exact (hs.keepB (List.nil_sublist _)).fin [0] (stoOut_same hadd)
  have hg0 : ¬ (9007199254740992 : Int) ≤ (S.last : Int) := hg
  have hgl : S.last < greatN := by unfold greatN; omega
  rw [if_neg (by unfold greatN; omega)] at hadd
  refine call_con [] (fun β w' hs => scopyOf_c w' x a (hs.get 1 rfl) hz) ?_
  rintro v Fs ⟨y, hy, rfl, rfl⟩
  refine ⟨[⟨0, ty_cred_Secret, x.ss⟩], fun yb => [bkF S.b ty_cred_Store S.vs, bkF yb ty_cred_Cred (newCrd yb t p y 0).vs, sepF (newCrd yb t p y 0).parts, mapF T.b (T.m ++ [(p, ptr yb)]), sepF (T.us.map crdF), mapF S.m S.ml, sepF ((A ++ B).map tenF), secF x a, namF], fun β w' hs => ?_, fun yb => ?_⟩
  · have k1 := hs.ofBk
    have k2 := k1.noMem (strsF none []) ⟨rfl, fun q => by cases q⟩ (fun k hk => by obtain ⟨q, _⟩ := hk; cases q)
    have k3 := k2.sep [0, 5, 4, 3, 2] rfl ⟨rfl, rfl, rfl, rfl, rfl, trivial⟩
    have k4 := k3.recut [2] (sto_openT eT) rfl rfl ⟨rfl, trivial⟩ ⟨rfl, rfl, rfl, rfl, rfl, trivial⟩
    obtain ⟨w2, k5, k6⟩ := k4.mapPut g 1 rfl (t := ty_map_string_ptr_cred_Cred) p (ptr (β 1))
    rw [mput_end (show mlook T.m p = none from q1)] at k6
    exact ⟨w2, β 1, k5, k6.perm [0, 6, 5, 1, 2, 3, 4, 7, 8]⟩
  refine ⟨.pointer none, fun w => zero_ptrC w, T.m ++ [(p, ptr yb)], some (ptr yb), fun β w' hs => hs.get 3 rfl, mlook_end (show mlook T.m p = none from q1), ?_⟩
  refine call_con [0, 1] (fun β w' hs => touched_c w' S.b yb S.last (.map (some S.m)) (.int .u64 S.reads) (newCrd yb t p y 0).vs rfl hgl (hs.mem.take (js := [0, 1]) rfl)) ?_
  rintro v Fs ⟨rfl, rfl⟩
  intro β w' hs
  have k := (hs.keepB (List.nil_sublist _)).recut [0, 1, 2, 3, 4, 5, 6] (sto_addU (S := S) (c := newCrd yb t p y (S.last + 1)) (last := S.last + 1) eT rfl) rfl rfl ⟨rfl, rfl, rfl, rfl, rfl, rfl, rfl, trivial⟩
  refine k.fin [0] ⟨{ S with ts := A ++ { T with us := T.us ++ [newCrd yb t p y (S.last + 1)] } :: B, last := S.last + 1 }, by rw [hadd]; rfl, ?_, rfl, rfl⟩
  rw [hadd]
  have k8 := h4 { T with us := T.us ++ [newCrd yb t p y (S.last + 1)] } (fun us => us ++ [⟨t, p, a, S.last + 1, [], false⟩]) h1 (by
    rw [List.map_append]
    show _ ++ [Crd.a (newCrd yb t p y (S.last + 1))] = _
    congr 2
    show ACrd.mk t p y.a (S.last + 1) [] false = _
    rw [hy])
  show ASto.mk _ _ _ = ASto.mk _ _ _
  rw [k8]
  rfl
end Go.Proofs.YthkjfepbmnabkaaGreatDoor.Sx

/- Who there is: a user found; his credential copied; revoked. -/
namespace Go.Proofs.YthkjfepbmnabkaaGreatDoor.Sx
open Go
attribute [local irreducible] Calls

/-! ### where a user stands -/
structure At (S : Sto) (t u : ByteArray) (A : List Ten) (T : Ten) (B : List Ten) (U : List Crd) (c : Crd) (V : List Crd) : Prop where
  ten : S.ts = A ++ T :: B
  crd : T.us = U ++ c :: V
  name : T.name = t
  user : c.user = (nameA u).1
  fine : (nameA u).2 = 0
  is : aone S.a t u = some c.a
  upd : ∀ c' : Crd, ∀ f : ACrd → ACrd, c'.user = c.user → c'.a = f c.a → (A ++ { T with us := U ++ c' :: V } :: B).map Ten.a = atenU S.a.ts t (fun us => ausrU us (nameA u).1 f)
  del : (A ++ { T with us := U ++ V } :: B).map Ten.a = atenU S.a.ts t (fun us => ausrD us (nameA u).1)
  mdel : (U ++ V).map (fun c : Crd => (c.user, ptr c.b)) = Sx.mdel T.m (nameA u).1
  look : mlook S.ml t = some (.map (some T.b))
theorem usr_some {S : Sto} {t u : ByteArray} {c : Crd} (h : S.usr t u = some c) : ∃ A T B U V, At S t u A T B U c V := by
  unfold Sto.usr at h
  split at h
  · rename_i he
    rcases look_ten t S.ts with ⟨A, T, B, eT, h0, h1, h2, h3, h4, _⟩ | ⟨h1, h2, h3⟩
    · rw [h0] at h
      have h' : crdO T.us (nameA u).1 = some c := h
      rcases look_crd (nameA u).1 T.us with ⟨U, c', V, eU, q0, q1, q2, q3, q4, q5, q6, q7⟩ | ⟨q1, q2, q3⟩
      · rw [q0] at h'
        obtain rfl := Option.some.inj h'
        refine ⟨A, T, B, U, V, eT, eU, h1, q1, he, ?_, fun c1 f e1 e2 => ?_, ?_, q6, h2⟩
        · unfold aone aget
          rw [if_pos he, show aten S.a.ts t = _ from h3]
          exact q3
        · refine h4 { T with us := U ++ c1 :: V } (fun us => ausrU us (nameA u).1 f) h1 ?_
          exact q4 c1 f (e1.trans q1) e2
        · exact h4 { T with us := U ++ V } (fun us => ausrD us (nameA u).1) h1 q5
      · rw [q3] at h'; cases h'
    · rw [h3] at h; cases h
  · cases h
theorem usr_none {S : Sto} {t u : ByteArray} (h : S.usr t u = none) : aone S.a t u = none := by
  unfold Sto.usr at h
  unfold aone aget
  split at h
  · rename_i he
    rw [if_pos he]
    rcases look_ten t S.ts with ⟨A, T, B, eT, h0, h1, h2, h3, _⟩ | ⟨h1, h2, h3⟩
    · rw [h0] at h
      have h' : crdO T.us (nameA u).1 = none := h
      rw [show aten S.a.ts t = _ from h3]
      rcases look_crd (nameA u).1 T.us with ⟨U, c', V, eU, q0, q1, q2, q3, _⟩ | ⟨q1, q2, q3⟩
      · rw [q0] at h'; cases h'
      · exact q2
    · rw [show aten S.a.ts t = none from h2]; rfl
  · rename_i he
    rw [if_neg he]
theorem At.crdP {S : Sto} {t u : ByteArray} {A B : List Ten} {T : Ten} {U V : List Crd} {c : Crd} {w : World} (h : At S t u A T B U c V) (hp : (stoF S).p w) : (crdF c).p w := ten_crd (sto_ten hp h.ten) h.crd
theorem crd_sec {c : Crd} {w : World} (h : (crdF c).p w) : SRd c.sec.x c.sec.a w := Sec.rd fun f hf => h.1 f (by
  unfold Crd.fs Crd.parts
  exact List.mem_cons_of_mem _ (List.mem_cons_of_mem _ hf))
theorem crd_strs {c : Crd} {w : World} (h : (crdF c).p w) : Rd 1 c.rA c.roles.length (strs c.roles) w := h.1 (strsF c.rA c.roles) (by simp [Crd.fs, Crd.parts])

/-! ### copied -/
theorem strsRow {A : Option Addr} {l : List ByteArray} {c : Nat} {w : World} (h : (srowF A l c).p w) : (strsF A l).p w := row_rd h
theorem strsRowD {A : Option Addr} {l : List ByteArray} {c : Nat} {w : World} (h : (srowF A l c).p w) : ∀ k, (strsF A l).D k → (srowF A l c).D k := by
  rintro k ⟨hk, ad, q, rfl⟩
  have hl : 0 < l.length := by
    have : 0 < l.length * 1 := hk
    omega
  have q' : A = some ad := q
  rcases h.2 with ⟨he, h0⟩ | ⟨g, cap, cur, he, _⟩
  · omega
  · have hA : A = some ⟨g, 0, none⟩ := by injection he
    rw [q'] at hA
    obtain rfl := Option.some.inj hA
    show Value.ownBlock (.slice A l.length c) = _
    rw [q']
    rfl
/-- A row of texts, from now on to be read. -/
theorem Sat.strsRow {cx : Cx} {β : Va} {n : Nat} {H : List Bk} {F : List Fact} {w : World} (h : Sat cx β n H F w) (j : Nat) {A : Option Addr} {l : List ByteArray} {c : Nat} (hj : nth F j = some (srowF A l c)) : Sat cx β n H (putAt F j (strsF A l)) w := by
  have hp := h.get j hj
  exact h.upd hj rfl (Chg.refl _ _) (row_rd hp) (fun k hk => .inl (strsRowD hp k hk))
structure CSz (a : ACrd) : Prop where
  sec : ASz a.sec
  roles : a.roles.length ≤ 1000000
def Crd.ss (c : Crd) : List SL := .v (.string c.tenant) :: .v (.string c.user) :: (c.sec.x.ss ++ [.v (.int .u64 c.gen), .v (.slice c.rA c.roles.length c.rc), .v (.bool c.revoked)])
theorem ccopyOf_c (w : World) (c : Crd) (h1 : SRd c.sec.x c.sec.a w) (h2 : Rd 1 c.rA c.roles.length (strs c.roles) w) (hz : CSz c.a) :
    Con Tryz.prog n_cred_Cred_copyOf #[.agg c.vs.toArray] w [] fun v Fs => ∃ c' : Crd, c'.a = c.a ∧ v = .agg c'.vs.toArray ∧ Fs = [srowF c'.rA c'.roles c'.rc, c'.sec.ha1.f, c'.sec.server.f, c'.sec.stored.f, c'.sec.salt.f] := by
  have g := good_cred_Cred_copyOf w (Un [])
  refine con_of_sx (cx := cx_cred_Cred_copyOf w (Un [])) g b_cred_Cred_copyOf rfl rfl (β := Va.z) [.agg c.ss] 0 [] [oldF w] rfl rfl (old_sat rfl) ?_
  have hS : ∀ {n : Nat} {F : List Fact}, Sub (cx_cred_Cred_copyOf w (Un [])) n [⟨1, ty_cred_Cred, ti113.zero.map SL.v⟩, ⟨0, ty_cred_Cred, c.ss⟩] F [⟨0, ty_cred_Cred, c.ss⟩] [] := fun {n F} => Sub.of (List.sublist_cons_self _ _) (List.nil_sublist _)
  refine draw_rule g p_cred_Cred_copyOf_1 (by kernel_rfl) [⟨0, ty_cred_Cred, c.ss⟩] [] hS ?_
  refine call_con [] (fun β w' hs => scopyOf_c w' c.sec.x c.sec.a (h1.old (hs.get 0 rfl)) hz.sec) ?_
  rintro v Fs ⟨y, hy, rfl, rfl⟩
  refine ⟨hS, ?_⟩
  refine call_con [] (fun β w' hs => cloneS_c w' c.rA c.roles c.rc (Rd.old h2 (hs.get 4 rfl)) hz.roles) ?_
  rintro v Fs ⟨A', c', rfl, _, _, rfl⟩
  refine ⟨hS, ?_⟩
  intro β w' hs
  refine (hs.keepB (List.nil_sublist _)).fin [0, 1, 2, 3, 4] ⟨⟨0, c.tenant, c.user, y, c.gen, A', c', c.roles, c.revoked⟩, ?_, rfl, rfl⟩ rfl rfl rfl ⟨rfl, rfl, rfl, rfl, rfl, trivial⟩
  show ACrd.mk _ _ y.a _ _ _ = ACrd.mk _ _ _ _ _ _
  rw [hy]

/-! ### found -/
def stoR (S : Sto) : Sto := { S with reads := IntKind.u64.wrap (S.reads + 1) }
theorem stoR_usr (S : Sto) (t u : ByteArray) : (stoR S).usr t u = S.usr t u := rfl
theorem sto_reads {cx : Cx} {β : Va} {n : Nat} {H : List Bk} {w : World} {S : Sto} (h : Sat cx β n H [stoF S, namF] w) (r : Int) :
    ∃ w', (storeCells ((⟨S.b, 0, none⟩ : Addr).add 2) [.int .u64 r] 0).run cx.P w = .ok () w' ∧ Sat cx β n H [stoF { S with reads := r }, namF] w' := by
  have h1 := h.unsep 0 rfl
  obtain ⟨w', e1, e2⟩ := h1.bkSet 0 (o := 2) (us := [.int .u64 r]) rfl (by simp [Sto.vs]) (fun u hu => by obtain rfl := List.mem_singleton.1 hu; rfl)
  exact ⟨w', e1, e2.sep [0, 1, 2]⟩
def crd0 : Crd := ⟨0, ByteArray.empty, ByteArray.empty, ⟨⟨none, 0, []⟩, 0, ⟨none, 0, []⟩, ⟨none, 0, []⟩, ⟨none, 0, []⟩⟩, 0, none, 0, [], false⟩
def crdRows (c : Crd) : List Fact := [srowF c.rA c.roles c.rc, c.sec.ha1.f, c.sec.server.f, c.sec.stored.f, c.sec.salt.f]
def findOut (S : Sto) (t u : ByteArray) (v : Value) (Fs : List Fact) : Prop := match aone S.a t u with
  | none => v = .tuple #[.agg crd0.vs.toArray, .bool false] ∧ Fs = [stoF (stoR S)]
  | some a => ∃ c : Crd, c.a = a ∧ v = .tuple #[.agg c.vs.toArray, .bool true] ∧ Fs = crdRows c ++ [stoF (stoR S)]
theorem add2 (b o j : Nat) : ((⟨b, o, none⟩ : Addr).add j) = ⟨b, o + j, none⟩ := by rw [add_none]
theorem find_c (w : World) (S : Sto) (t u : ByteArray) (hu : u.size ≤ 100000) (hz : ∀ a, aone S.a t u = some a → CSz a) (hm : Mem w [stoF S, namF]) : Con Tryz.prog n_cred_Store_Find #[ptr S.b, .string t, .string u] w [stoF S] (findOut S t u) := by
  have g := good_cred_Store_Find w (Un [stoF S])
  refine con_of_sx (cx := cx_cred_Store_Find w (Un [stoF S])) g b_cred_Store_Find rfl rfl (β := Va.z) [.c (.v (ptr S.b)), .c (.v (.string t)), .c (.v (.string u))] 0 [] [stoF S, namF] rfl rfl (hm.sat0 rfl (ownIn (Gs := [stoF S]) (fun f hf => by
    obtain rfl := List.mem_singleton.1 hf; rfl))) ?_
  refine ⟨.int .u64 S.reads, fun β w' hs => bkc (sto_bk (hs.get 0 rfl)) rfl, IntKind.u64.wrap (S.reads + 1), rfl, ?_⟩
  refine ⟨[stoF (stoR S), namF], fun β w' hs => sto_reads hs _, ?_⟩
  cases hc : S.usr t u with
  | none =>
    refine call_pu (v := .pointer none) (fun β w' hs => by
      have h := get_c w' (stoR S) t u (hs.get 0 rfl) (hs.getLt 0 rfl) hu (namF_T (hs.get 1 rfl))
      rw [stoR_usr, hc] at h
      exact h) ?_
    intro β w' hs
    refine (hs.keepB (List.nil_sublist _)).fin [0] ?_
    unfold findOut
    rw [usr_none hc]
    exact ⟨rfl, rfl⟩
  | some c =>
    obtain ⟨A, T, B, U, V, at_⟩ := usr_some hc
    refine call_pu (v := ptr c.b) (fun β w' hs => by
      have h := get_c w' (stoR S) t u (hs.get 0 rfl) (hs.getLt 0 rfl) hu (namF_T (hs.get 1 rfl))
      rw [stoR_usr, hc] at h
      exact h) ?_
    have hcp : ∀ {w'}, (stoF (stoR S)).p w' → (crdF c).p w' := fun hp => ten_crd (sto_ten hp at_.ten) at_.crd
    refine ⟨c.vs, rfl, fun β w' hs j v hv => ?_, ?_⟩
    · rw [add2]
      exact bkc (crd_bk (hcp (hs.get 0 rfl))) (by rw [Nat.zero_add]; exact hv)
    refine call_con [] (fun β w' hs => ccopyOf_c w' c (crd_sec (hcp (hs.get 0 rfl))) (crd_strs (hcp (hs.get 0 rfl))) (hz _ at_.is)) ?_
    rintro v Fs ⟨c', hc', rfl, rfl⟩
    intro β w' hs
    refine (hs.keepB (List.nil_sublist _)).fin [0, 1, 2, 3, 4, 5] ?_ rfl rfl rfl ⟨rfl, rfl, rfl, rfl, rfl, rfl, trivial⟩
    unfold findOut
    rw [at_.is]
    exact ⟨c', hc', rfl, rfl⟩
end Go.Proofs.YthkjfepbmnabkaaGreatDoor.Sx

/- Who there is: who is revoked, or goes. -/
namespace Go.Proofs.YthkjfepbmnabkaaGreatDoor.Sx
open Go
attribute [local irreducible] Calls

/-! ### an entry goes -/
/-! ### who goes -/
/-! ### who is revoked -/
def updU (X : ASto) (t u : ByteArray) (f : ACrd → ACrd) : ASto := { X with ts := atenU X.ts t (fun us => ausrU us (nameA u).1 fun c => { f c with gen := X.last + 1 }), last := X.last + 1 }
def revU (X : ASto) (t u : ByteArray) (b : Bool) : Int × ASto := match aone X t u with
  | none => (6, X)
  | some _ => if greatN ≤ X.last then (8, X) else (0, updU X t u fun c => { c with revoked := b })
/-- The store, shut behind a touch. -/
theorem sto_touched {c0 : Cx} {w : World} {S : Sto} {t u : ByteArray} {A B : List Ten} {T : Ten} {U V : List Crd} {c c' : Crd} (at_ : At S t u A T B U c V) (hb : c'.b = c.b) (hu : c'.user = c.user)
    (h0 : Sat c0 Va.z 0 [] [bkF S.b ty_cred_Store [.map (some S.m), .int .u64 ((S.last + 1 : Nat) : Int), .int .u64 S.reads], bkF c.b ty_cred_Cred c'.vs, sepF c'.parts, restF S.m S.ml (A ++ B) T.b T.m (U ++ V)] w) :
    Sat c0 Va.z 0 [] [stoF { S with ts := A ++ { T with us := U ++ c' :: V } :: B, last := S.last + 1 }] w :=
  sto_shut (S := S) (S' := { S with ts := A ++ { T with us := U ++ c' :: V } :: B, last := S.last + 1 }) at_.ten at_.crd hb hu rfl h0
theorem revoke_c (w : World) (S : Sto) (t u : ByteArray) (b : Bool) (hu : u.size ≤ 100000) (hm : Mem w [stoF S, namF]) : Con Tryz.prog n_cred_Store_Revoke #[ptr S.b, .string t, .string u, .bool b] w [stoF S] (stoOut S (revU S.a t u b)) := by
  have g := good_cred_Store_Revoke w (Un [stoF S])
  refine con_of_sx (cx := cx_cred_Store_Revoke w (Un [stoF S])) g b_cred_Store_Revoke rfl rfl (β := Va.z) [.c (.v (ptr S.b)), .c (.v (.string t)), .c (.v (.string u)), .c (.v (.bool b))] 0 [] [stoF S, namF] rfl rfl (hm.sat0 rfl (ownIn (Gs := [stoF S]) (fun f hf => by
    obtain rfl := List.mem_singleton.1 hf; rfl))) ?_
  cases hc : S.usr t u with
  | none =>
    refine call_pu (v := .pointer none) (fun β w' hs => by
      have h := get_c w' S t u (hs.get 0 rfl) (hs.getLt 0 rfl) hu (namF_T (hs.get 1 rfl))
      rw [hc] at h
      exact h) ?_
    intro β w' hs
    refine hs.fin [0] (stoOut_same ?_)
    unfold revU
    rw [usr_none hc]
  | some c =>
    obtain ⟨A, T, B, U, V, at_⟩ := usr_some hc
    refine call_pu (v := ptr c.b) (fun β w' hs => by
      have h := get_c w' S t u (hs.get 0 rfl) (hs.getLt 0 rfl) hu (namF_T (hs.get 1 rfl))
      rw [hc] at h
      exact h) ?_
    refine ⟨.int .u64 (S.last : Int), fun β w' hs => bkc (sto_bk (hs.get 0 rfl)) rfl, ?_⟩
    refine BIf.dec (fun hg => ?_) (fun hg => ?_)
    · have hg0 : (9007199254740992 : Int) ≤ (S.last : Int) := hg
      intro β w' hs
      refine hs.fin [0] (stoOut_same ?_)
      unfold revU
      rw [at_.is]
      exact if_pos (by unfold greatN; show _ ≤ S.last; omega)
    · have hg0 : ¬ (9007199254740992 : Int) ≤ (S.last : Int) := hg
      have hgl : S.last < greatN := by unfold greatN; omega
      refine ⟨[bkF S.b ty_cred_Store S.vs, bkF c.b ty_cred_Cred { c with revoked := b }.vs, sepF c.parts, restF S.m S.ml (A ++ B) T.b T.m (U ++ V), namF], fun β w' hs => ?_, ?_⟩
      · have k1 := hs.recut [0] (sto_open at_.ten at_.crd)
        exact k1.bkSet 1 (o := 9) (us := [.bool b]) rfl (Nat.le_refl 10) (fun u hu => by obtain rfl := List.mem_singleton.1 hu; rfl)
      refine call_con [0, 1] (fun β w' hs => touched_c w' S.b c.b S.last (.map (some S.m)) (.int .u64 S.reads) (Crd.vs { c with revoked := b }) rfl hgl (by have h := hs.mem.take (js := [0, 1]) rfl; exact h)) ?_
      rintro v Fs ⟨rfl, rfl⟩
      intro β w' hs
      have k := hs.recut [0, 1, 2, 3] (sto_touched (c' := { c with revoked := b, gen := S.last + 1 }) at_ rfl rfl)
      refine k.fin [0] ⟨{ S with ts := A ++ { T with us := U ++ { c with revoked := b, gen := S.last + 1 } :: V } :: B, last := S.last + 1 }, ?_, ?_, rfl, rfl⟩
      · unfold revU
        rw [at_.is]
        show _ = Value.int .i64 (if greatN ≤ S.last then (8, S.a) else (0, _)).1
        rw [if_neg (Nat.not_le.2 hgl)]
        rfl
      · unfold revU
        rw [at_.is]
        show _ = (if greatN ≤ S.last then (8, S.a) else (0, updU S.a t u fun c => { c with revoked := b })).2
        rw [if_neg (Nat.not_le.2 hgl)]
        show ASto.mk _ _ _ = ASto.mk _ _ _
        rw [at_.upd { c with revoked := b, gen := S.last + 1 } (fun c => { c with revoked := b, gen := S.last + 1 }) rfl rfl]
        rfl
end Go.Proofs.YthkjfepbmnabkaaGreatDoor.Sx

/- Who there is: a role more, behind all others. -/
namespace Go.Proofs.YthkjfepbmnabkaaGreatDoor.Sx
open Go
attribute [local irreducible] Calls

theorem isNaN_c (w : World) (x : ByteArray) : Pu Tryz.prog n_cmp_isNaN_string #[.string x] w (.bool false) := by
  have g := good_cmp_isNaN_string w (Un [])
  refine con_of_sx (cx := cx_cmp_isNaN_string w (Un [])) g b_cmp_isNaN_string rfl rfl (β := Va.z) [.c (.v (.string x))] 0 [] [] rfl rfl (Sat.start rfl) ?_
  intro β w' hs
  refine hs.fin [] ⟨?_, rfl⟩
  show Value.bool (!decide (x = x)) = _
  simp
theorem less_c (w : World) (x y : ByteArray) : Pu Tryz.prog n_cmp_Less_string #[.string x, .string y] w (.bool (Op.bytesLess x.toList y.toList)) := by
  have g := good_cmp_Less_string w (Un [])
  refine con_of_sx (cx := cx_cmp_Less_string w (Un [])) g b_cmp_Less_string rfl rfl (β := Va.z) [.c (.v (.string x)), .c (.v (.string y))] 0 [] [] rfl rfl (Sat.start rfl) ?_
  refine call_pu (fun β w' hs => isNaN_c w' x) ?_
  intro β w' hs
  exact hs.fin [] ⟨rfl, rfl⟩
/-- Behind all that are less. -/
theorem bsE_c (w : World) (A : Option Addr) (l : List ByteArray) (c : Nat) (x : ByteArray) (hr : Rd 1 A l.length (strs l) w) (hn : l.length ≤ 1000000) (hall : ∀ y ∈ l, Op.bytesLess y.toList x.toList = true) :
    Pu Tryz.prog n_slices_BinarySearch_string_string #[.slice A l.length c, .string x] w (.tuple #[.int .i64 (l.length : Int), .bool false]) := by
  have g := good_slices_BinarySearch_string_string w (Un [])
  refine con_of_sx (cx := cx_slices_BinarySearch_string_string w (Un [])) g b_slices_BinarySearch_string_string rfl rfl (β := Va.z) [.c (.v (.slice A l.length c)), .c (.v (.string x))] 0 [] [oldF w] rfl rfl (old_sat rfl) ?_
  refine loop_rule 0 (fun i : Nat => [(0, .c (.v (.slice A l.length c))), (1, .c (.v (.string x))), (6, .c (.v (.int .i64 l.length))), (7, .c (.v (.int .i64 (i : Int)))), (8, .c (.v (.int .i64 l.length)))]) (fun _ => []) (fun _ => [oldF w])
    (fun i => i ≤ l.length) (fun i => l.length - i) 0 (Nat.zero_le _) (Ent.same ⟨rfl, rfl, rfl, rfl, rfl, trivial⟩ rfl) g ?_
  intro i hi
  refine BIf.dec (fun hlt => ?_) (fun hge => ?_)
  · have hlt0 : (i : Int) < l.length := hlt
    have hil : i < l.length := by omega
    have hh : (i + l.length) / 2 < l.length := by omega
    obtain ⟨y, hy, hym⟩ := at_lt hh
    refine ⟨((i + l.length : Nat) : Int), by rw [wrap_i64 (by omega) (by omega)]; omega, ((i + l.length : Nat) : Int), by rw [wrap_u64']; omega, by decide, (((i + l.length) / 2 : Nat) : Int), ?_, (((i + l.length) / 2 : Nat) : Int), by rw [wrap_i64 (by omega) (by omega)], ?_⟩
    · show Int.fdiv ((i + l.length : Nat) : Int) (2 ^ (min (Int.toNat 1) 64)) = _
      rw [Int.fdiv_eq_ediv_of_nonneg _ (by decide)]
      have : (2 : Int) ^ (min (Int.toNat 1) 64) = 2 := by decide
      rw [this]
      omega
    obtain ⟨ad, hA, _⟩ := hr.2 (by omega)
    refine ⟨ad, (i + l.length) / 2, hA, rfl, hh, .string y, fun β w' hs => ?_, ?_⟩
    · have h := Rd.old hr (hs.get 0 rfl)
      rw [hA] at h
      exact Rd.cell1 h (by simp [strs, hy])
    refine call_pu (v := .bool true) (fun β w' hs => by
      have h := less_c w' y x
      rw [hall y hym] at h
      exact h) ?_
    refine ⟨(((i + l.length) / 2 + 1 : Nat) : Int), by rw [wrap_i64 (by omega) (by omega)]; rfl, ?_⟩
    exact ⟨(i + l.length) / 2 + 1, hh, by omega, Ent.same ⟨rfl, rfl, rfl, rfl, rfl, trivial⟩ rfl⟩
  · have hge0 : ¬ (i : Int) < l.length := hge
    obtain rfl : i = l.length := by omega
    conv => whnf
    generalize h1 : decide ((l.length : Int) < (l.length : Int)) = b1
    cases b1 with
    | true => exact absurd (of_decide_eq_true h1) (by omega)
    | false =>
      intro β w' hs
      exact hs.fin [] ⟨rfl, rfl⟩
/-- A text more, at the end. -/
theorem insE_c (w : World) (A B : Option Addr) (l : List ByteArray) (c cb : Nat) (x : ByteArray) (hn : l.length ≤ 1000000) (hlc : l.length ≤ c) (hm : Mem w [srowF A l c, rowF ty_string 1 (.slice B 1 cb) 1 [.string x]]) :
    Con Tryz.prog n_slices_Insert_string_string #[.slice A l.length c, .int .i64 l.length, .slice B 1 cb] w [srowF A l c, rowF ty_string 1 (.slice B 1 cb) 1 [.string x]] fun v Fs => ∃ A' c', v = .slice A' (l ++ [x]).length c' ∧ (l ++ [x]).length ≤ c' ∧ Fs = [srowF A' (l ++ [x]) c'] := by
  have g := good_slices_Insert_string_string w (Un [srowF A l c, rowF ty_string 1 (.slice B 1 cb) 1 [.string x]])
  refine con_of_sx (cx := cx_slices_Insert_string_string w (Un [srowF A l c, rowF ty_string 1 (.slice B 1 cb) 1 [.string x]])) g b_slices_Insert_string_string rfl rfl (β := Va.z) [.c (.v (.slice A l.length c)), .c (.v (.int .i64 l.length)), .c (.v (.slice B 1 cb))] 0 [] [srowF A l c, rowF ty_string 1 (.slice B 1 cb) 1 [.string x]] rfl rfl (hm.sat0 rfl (fun f hf ho k hk => ⟨f, hf, hk⟩)) ?_
  refine ⟨c, l.length, l.length, 0, c - l.length, _, rfl, rfl, rfl, Nat.le_refl c, hlc, Nat.le_refl _, Nat.sub_self _, rfl, rfl, ?_⟩
  refine BIf.dec (fun _ => ?_) (fun h => absurd rfl h)
  refine ⟨0, l.length, (l ++ [x]).length, strs l, [.string x], strs (l ++ [x]), rfl, fun β w' hs => row_rd (hs.get 1 rfl), fun u hu => by obtain rfl := List.mem_singleton.1 hu; rfl, by simp, by simp [strs], by rw [maxLen_eq, List.length_append]; simp only [List.length_singleton]; omega, by show (l ++ [x]).length * 16 ≤ _; rw [List.length_append]; simp only [List.length_singleton]; omega, ?_⟩
  intro A' c' h1 h2 h3 β w' hs
  exact hs.fin [0] ⟨A', c', rfl, h1, rfl⟩
def grantE (X : ASto) (t u role : ByteArray) : Int × ASto := match aone X t u with
  | none => (6, X)
  | some c => if plainF role.data.toList = false then (5, X) else if 8 ≤ c.roles.length then (8, X) else if greatN ≤ X.last then (8, X) else (0, updU X t u fun c => { c with roles := c.roles ++ [role] })
theorem grantE_c (w : World) (S : Sto) (t u role : ByteArray) (hu : u.size ≤ 100000) (hro : role.size ≤ 100000) (hz : ∀ a, aone S.a t u = some a → a.roles.length ≤ 1000 ∧ ∀ r ∈ a.roles, Op.bytesLess r.toList role.toList = true) (hm : Mem w [stoF S, namF]) :
    Con Tryz.prog n_cred_Store_Grant #[ptr S.b, .string t, .string u, .string role] w [stoF S] (stoOut S (grantE S.a t u role)) := by
  have g := good_cred_Store_Grant w (Un [stoF S])
  refine con_of_sx (cx := cx_cred_Store_Grant w (Un [stoF S])) g b_cred_Store_Grant rfl rfl (β := Va.z) [.c (.v (ptr S.b)), .c (.v (.string t)), .c (.v (.string u)), .c (.v (.string role))] 0 [] [stoF S, namF] rfl rfl (hm.sat0 rfl (ownIn (Gs := [stoF S]) (fun f hf => by
    obtain rfl := List.mem_singleton.1 hf; rfl))) ?_
  cases hc : S.usr t u with
  | none =>
    refine call_pu (v := .pointer none) (fun β w' hs => by
      have h := get_c w' S t u (hs.get 0 rfl) (hs.getLt 0 rfl) hu (namF_T (hs.get 1 rfl))
      rw [hc] at h
      exact h) ?_
    intro β w' hs
    refine hs.fin [0] (stoOut_same ?_)
    unfold grantE
    rw [usr_none hc]
  | some c =>
    obtain ⟨A, T, B, U, V, at_⟩ := usr_some hc
    obtain ⟨hrl, hall⟩ := hz _ at_.is
    have hrl' : c.roles.length ≤ 1000 := hrl
    refine call_pu (v := ptr c.b) (fun β w' hs => by
      have h := get_c w' S t u (hs.get 0 rfl) (hs.getLt 0 rfl) hu (namF_T (hs.get 1 rfl))
      rw [hc] at h
      exact h) ?_
    have hgr : grantE S.a t u role = if plainF role.data.toList = false then (5, S.a) else if 8 ≤ c.roles.length then (8, S.a) else if greatN ≤ S.last then (8, S.a) else (0, updU S.a t u fun c => { c with roles := c.roles ++ [role] }) := by
      unfold grantE
      rw [at_.is]
      rfl
    refine call_pu (fun β w' hs => plain_c w' role hro) ?_
    generalize hp : plainF role.data.toList = bp at hgr
    cases bp with
    | false =>
      rw [if_pos rfl] at hgr
      intro β w' hs
      exact hs.fin [0] (stoOut_same hgr)
    | true =>
    rw [if_neg (by decide)] at hgr
    have hcell : ∀ {β : Va} {n : Nat} {H : List Bk} {F : List Fact} {w' : World}, Sat (cx_cred_Store_Grant w (Un [stoF S])) β n H F w' → ∀ j, nth F j = some (stoF S) → w'.cell? ⟨c.b, 8, none⟩ = some (.slice c.rA c.roles.length c.rc) := fun hs j hj => bkc (crd_bk (at_.crdP (hs.get j hj))) rfl
    refine ⟨.slice c.rA c.roles.length c.rc, fun β w' hs => hcell hs 0 rfl, ?_⟩
    refine call_pu (fun β w' hs => bsE_c w' c.rA c.roles c.rc role (crd_strs (at_.crdP (hs.get 0 rfl))) (by omega) hall) ?_
    refine ⟨.slice c.rA c.roles.length c.rc, fun β w' hs => hcell hs 0 rfl, ?_⟩
    refine BIf.dec (fun hf => ?_) (fun hf => ?_)
    · have hf0 : (8 : Int) ≤ (c.roles.length : Int) := hf
      rw [if_pos (by omega)] at hgr
      intro β w' hs
      exact hs.fin [0] (stoOut_same hgr)
    have hf0 : ¬ (8 : Int) ≤ (c.roles.length : Int) := hf
    rw [if_neg (by omega)] at hgr
    refine ⟨.int .u64 (S.last : Int), fun β w' hs => bkc (sto_bk (hs.get 0 rfl)) rfl, ?_⟩
    refine BIf.dec (fun hg => ?_) (fun hg => ?_)
    · have hg0 : (9007199254740992 : Int) ≤ (S.last : Int) := hg
      rw [if_pos (by unfold greatN; omega)] at hgr
      intro β w' hs
      exact hs.fin [0] (stoOut_same hgr)
    have hg0 : ¬ (9007199254740992 : Int) ≤ (S.last : Int) := hg
    have hgl : S.last < greatN := by unfold greatN; omega
    rw [if_neg (Nat.not_le.2 hgl)] at hgr
    refine ⟨.slice c.rA c.roles.length c.rc, fun β w' hs => hcell hs 0 rfl, ?_⟩
    refine call_con [] (fun β w' hs => cloneS_c w' c.rA c.roles c.rc (crd_strs (at_.crdP (hs.get 0 rfl))) (by omega)) ?_
    rintro v Fs ⟨A1, c1, rfl, hc1, _, rfl⟩
    intro b1
    refine call_con [1, 0] (fun β w' hs => insE_c w' A1 (some ⟨b1, 0, none⟩) c.roles c1 1 role (by omega) hc1 (hs.mem.take (js := [1, 0]) rfl)) ?_
    rintro v Fs ⟨A2, c2, rfl, hc2, rfl⟩
    obtain ⟨cr, hcr⟩ : ∃ cr : Crd, cr = { c with rA := A2, rc := c2, roles := c.roles ++ [role] } := ⟨_, rfl⟩
    have hvs : putAll c.vs 8 [.slice A2 (c.roles ++ [role]).length c2] = cr.vs := by rw [hcr]; rfl
    refine ⟨[bkF S.b ty_cred_Store S.vs, bkF c.b ty_cred_Cred cr.vs, sepF c.parts, restF S.m S.ml (A ++ B) T.b T.m (U ++ V), srowF A2 (c.roles ++ [role]) c2, namF], fun β w' hs => ?_, ?_⟩
    · have k1 := hs.recut [1] (sto_open at_.ten at_.crd)
      have k2 := k1.bkSet 1 (o := 8) (us := [.slice A2 (c.roles ++ [role]).length c2]) rfl (show 8 + 1 ≤ 10 by decide) (fun u hu => by obtain rfl := List.mem_singleton.1 hu; rfl)
      rw [hvs] at k2
      exact k2
    refine call_con [0, 1] (fun β w' hs => touched_c w' S.b c.b S.last (.map (some S.m)) (.int .u64 S.reads) cr.vs rfl hgl (by have h := hs.mem.take (js := [0, 1]) rfl; exact h)) ?_
    rintro v Fs ⟨rfl, rfl⟩
    intro β w' hs
    have k1 := hs.unsep 2 rfl
    have k2 := k1.strsRow 8 rfl
    have k3 := k2.sep [8, 1, 2, 3, 4] rfl ⟨rfl, rfl, rfl, rfl, rfl, trivial⟩
    have k4 := k3.perm [2, 3, 0, 4, 5]
    have k := k4.recut [0, 1, 2, 3] (Fs := [stoF { S with ts := A ++ { T with us := U ++ { cr with gen := S.last + 1 } :: V } :: B, last := S.last + 1 }]) (fun h => sto_touched (c' := { cr with gen := S.last + 1 }) at_ (by rw [hcr]) (by rw [hcr]) (by rw [hcr] at h ⊢; exact h)) rfl rfl ⟨rfl, rfl, rfl, rfl, trivial⟩ ⟨rfl, trivial⟩
    refine k.fin [0] ⟨{ S with ts := A ++ { T with us := U ++ { cr with gen := S.last + 1 } :: V } :: B, last := S.last + 1 }, ?_, ?_, rfl, rfl⟩
    · rw [hgr]; rfl
    · rw [hgr]
      show ASto.mk _ _ _ = ASto.mk _ _ _
      rw [at_.upd { cr with gen := S.last + 1 } (fun c => { c with roles := c.roles ++ [role], gen := S.last + 1 }) (by rw [hcr]) (by rw [hcr]; rfl)]
      rfl
end Go.Proofs.YthkjfepbmnabkaaGreatDoor.Sx

/- Who there is: a secret of noughts; the example. -/
namespace Go.Proofs.YthkjfepbmnabkaaGreatDoor.Sx
open Go
attribute [local irreducible] Calls

def zeros32 : List UInt8 := List.replicate 32 0
def plainS : ASec := ⟨[1], 1, zeros32, zeros32, zeros32⟩
def plainX (b0 b1 b2 b3 : Nat) : SecV := ⟨some ⟨b0, 0, none⟩, 1, 1, 1, some ⟨b1, 0, none⟩, 32, 32, some ⟨b2, 0, none⟩, 32, 32, some ⟨b3, 0, none⟩, 32, 32⟩
noncomputable def rowZ (b : Nat) : Fact := rowF ty_uint8 1 (.slice (some ⟨b, 0, none⟩) 32 32) 32 (repl ti5.zero 32)
def row1 (b : Nat) : Fact := rowF ty_uint8 1 (.slice (some ⟨b, 0, none⟩) 1 1) 1 [.int .u8 1]
set_option maxRecDepth 100000 in
set_option maxHeartbeats 4000000 in
theorem plain14_c (w : World) : Con Tryz.prog n_ostiarylaw14_plain #[] w [] fun v Fs => ∃ b0 b1 b2 b3, v = .agg (plainX b0 b1 b2 b3).vs.toArray ∧ Fs = [rowZ b3, rowZ b2, rowZ b1, row1 b0] := by
  have g := good_ostiarylaw14_plain w (Un [])
  refine con_of_sx (cx := cx_ostiarylaw14_plain w (Un [])) g b_ostiarylaw14_plain rfl rfl (β := Va.z) [] 0 [] [] rfl rfl (Sat.start rfl) ?_
  have hS : ∀ {n : Nat} {H : List Bk} {F : List Fact}, Sub (cx_ostiarylaw14_plain w (Un [])) n H F [] [] := fun {n H F} => Sub.of (List.nil_sublist _) (List.nil_sublist _)
  refine draw_rule g p_ostiarylaw14_plain_1 (by kernel_rfl) [] [] hS ?_
  exact ⟨fun b0 => ⟨hS, ⟨⟨32, 32, rfl, rfl, Nat.le_refl _, by decide, by decide, fun b1 => ⟨hS, ⟨⟨32, 32, rfl, rfl, Nat.le_refl _, by decide, by decide, fun b2 => ⟨hS, ⟨32, 32, rfl, rfl, Nat.le_refl _, by decide, by decide, fun b3 => ⟨hS, ⟨hS, fun β w' hs => (hs.keepB (List.nil_sublist _)).fin [0, 1, 2, 3] ⟨b0, b1, b2, b3, rfl, rfl⟩ rfl rfl rfl ⟨rfl, rfl, rfl, rfl, trivial⟩⟩⟩⟩⟩⟩, ⟨32, 32, rfl, rfl, Nat.le_refl _, by decide, by decide, fun b3 => ⟨hS, ⟨32, 32, rfl, rfl, Nat.le_refl _, by decide, by decide, fun b2 => ⟨hS, ⟨hS, fun β w' hs => (hs.keepB (List.nil_sublist _)).fin [1, 0, 2, 3] ⟨b0, b1, b2, b3, rfl, rfl⟩ rfl rfl rfl ⟨rfl, rfl, rfl, rfl, trivial⟩⟩⟩⟩⟩⟩⟩⟩⟩, ⟨⟨32, 32, rfl, rfl, Nat.le_refl _, by decide, by decide, fun b2 => ⟨hS, ⟨⟨32, 32, rfl, rfl, Nat.le_refl _, by decide, by decide, fun b1 => ⟨hS, ⟨32, 32, rfl, rfl, Nat.le_refl _, by decide, by decide, fun b3 => ⟨hS, ⟨hS, fun β w' hs => (hs.keepB (List.nil_sublist _)).fin [0, 2, 1, 3] ⟨b0, b1, b2, b3, rfl, rfl⟩ rfl rfl rfl ⟨rfl, rfl, rfl, rfl, trivial⟩⟩⟩⟩⟩⟩, ⟨32, 32, rfl, rfl, Nat.le_refl _, by decide, by decide, fun b3 => ⟨hS, ⟨32, 32, rfl, rfl, Nat.le_refl _, by decide, by decide, fun b1 => ⟨hS, ⟨hS, fun β w' hs => (hs.keepB (List.nil_sublist _)).fin [1, 2, 0, 3] ⟨b0, b1, b2, b3, rfl, rfl⟩ rfl rfl rfl ⟨rfl, rfl, rfl, rfl, trivial⟩⟩⟩⟩⟩⟩⟩⟩⟩, ⟨32, 32, rfl, rfl, Nat.le_refl _, by decide, by decide, fun b3 => ⟨hS, ⟨⟨32, 32, rfl, rfl, Nat.le_refl _, by decide, by decide, fun b1 => ⟨hS, ⟨32, 32, rfl, rfl, Nat.le_refl _, by decide, by decide, fun b2 => ⟨hS, ⟨hS, fun β w' hs => (hs.keepB (List.nil_sublist _)).fin [2, 0, 1, 3] ⟨b0, b1, b2, b3, rfl, rfl⟩ rfl rfl rfl ⟨rfl, rfl, rfl, rfl, trivial⟩⟩⟩⟩⟩⟩, ⟨32, 32, rfl, rfl, Nat.le_refl _, by decide, by decide, fun b2 => ⟨hS, ⟨32, 32, rfl, rfl, Nat.le_refl _, by decide, by decide, fun b1 => ⟨hS, ⟨hS, fun β w' hs => (hs.keepB (List.nil_sublist _)).fin [2, 1, 0, 3] ⟨b0, b1, b2, b3, rfl, rfl⟩ rfl rfl rfl ⟨rfl, rfl, rfl, rfl, trivial⟩⟩⟩⟩⟩⟩⟩⟩⟩⟩⟩⟩, ⟨⟨32, 32, rfl, rfl, Nat.le_refl _, by decide, by decide, fun b1 => ⟨hS, ⟨fun b0 => ⟨hS, ⟨⟨32, 32, rfl, rfl, Nat.le_refl _, by decide, by decide, fun b2 => ⟨hS, ⟨32, 32, rfl, rfl, Nat.le_refl _, by decide, by decide, fun b3 => ⟨hS, ⟨hS, fun β w' hs => (hs.keepB (List.nil_sublist _)).fin [0, 1, 3, 2] ⟨b0, b1, b2, b3, rfl, rfl⟩ rfl rfl rfl ⟨rfl, rfl, rfl, rfl, trivial⟩⟩⟩⟩⟩⟩, ⟨32, 32, rfl, rfl, Nat.le_refl _, by decide, by decide, fun b3 => ⟨hS, ⟨32, 32, rfl, rfl, Nat.le_refl _, by decide, by decide, fun b2 => ⟨hS, ⟨hS, fun β w' hs => (hs.keepB (List.nil_sublist _)).fin [1, 0, 3, 2] ⟨b0, b1, b2, b3, rfl, rfl⟩ rfl rfl rfl ⟨rfl, rfl, rfl, rfl, trivial⟩⟩⟩⟩⟩⟩⟩⟩, ⟨⟨32, 32, rfl, rfl, Nat.le_refl _, by decide, by decide, fun b2 => ⟨hS, ⟨fun b0 => ⟨hS, ⟨32, 32, rfl, rfl, Nat.le_refl _, by decide, by decide, fun b3 => ⟨hS, ⟨hS, fun β w' hs => (hs.keepB (List.nil_sublist _)).fin [0, 2, 3, 1] ⟨b0, b1, b2, b3, rfl, rfl⟩ rfl rfl rfl ⟨rfl, rfl, rfl, rfl, trivial⟩⟩⟩⟩⟩, ⟨32, 32, rfl, rfl, Nat.le_refl _, by decide, by decide, fun b3 => ⟨hS, fun b0 => ⟨hS, ⟨hS, fun β w' hs => (hs.keepB (List.nil_sublist _)).fin [1, 2, 3, 0] ⟨b0, b1, b2, b3, rfl, rfl⟩ rfl rfl rfl ⟨rfl, rfl, rfl, rfl, trivial⟩⟩⟩⟩⟩⟩⟩⟩, ⟨32, 32, rfl, rfl, Nat.le_refl _, by decide, by decide, fun b3 => ⟨hS, ⟨fun b0 => ⟨hS, ⟨32, 32, rfl, rfl, Nat.le_refl _, by decide, by decide, fun b2 => ⟨hS, ⟨hS, fun β w' hs => (hs.keepB (List.nil_sublist _)).fin [2, 0, 3, 1] ⟨b0, b1, b2, b3, rfl, rfl⟩ rfl rfl rfl ⟨rfl, rfl, rfl, rfl, trivial⟩⟩⟩⟩⟩, ⟨32, 32, rfl, rfl, Nat.le_refl _, by decide, by decide, fun b2 => ⟨hS, fun b0 => ⟨hS, ⟨hS, fun β w' hs => (hs.keepB (List.nil_sublist _)).fin [2, 1, 3, 0] ⟨b0, b1, b2, b3, rfl, rfl⟩ rfl rfl rfl ⟨rfl, rfl, rfl, rfl, trivial⟩⟩⟩⟩⟩⟩⟩⟩⟩⟩⟩⟩, ⟨⟨32, 32, rfl, rfl, Nat.le_refl _, by decide, by decide, fun b2 => ⟨hS, ⟨fun b0 => ⟨hS, ⟨⟨32, 32, rfl, rfl, Nat.le_refl _, by decide, by decide, fun b1 => ⟨hS, ⟨32, 32, rfl, rfl, Nat.le_refl _, by decide, by decide, fun b3 => ⟨hS, ⟨hS, fun β w' hs => (hs.keepB (List.nil_sublist _)).fin [0, 3, 1, 2] ⟨b0, b1, b2, b3, rfl, rfl⟩ rfl rfl rfl ⟨rfl, rfl, rfl, rfl, trivial⟩⟩⟩⟩⟩⟩, ⟨32, 32, rfl, rfl, Nat.le_refl _, by decide, by decide, fun b3 => ⟨hS, ⟨32, 32, rfl, rfl, Nat.le_refl _, by decide, by decide, fun b1 => ⟨hS, ⟨hS, fun β w' hs => (hs.keepB (List.nil_sublist _)).fin [1, 3, 0, 2] ⟨b0, b1, b2, b3, rfl, rfl⟩ rfl rfl rfl ⟨rfl, rfl, rfl, rfl, trivial⟩⟩⟩⟩⟩⟩⟩⟩, ⟨⟨32, 32, rfl, rfl, Nat.le_refl _, by decide, by decide, fun b1 => ⟨hS, ⟨fun b0 => ⟨hS, ⟨32, 32, rfl, rfl, Nat.le_refl _, by decide, by decide, fun b3 => ⟨hS, ⟨hS, fun β w' hs => (hs.keepB (List.nil_sublist _)).fin [0, 3, 2, 1] ⟨b0, b1, b2, b3, rfl, rfl⟩ rfl rfl rfl ⟨rfl, rfl, rfl, rfl, trivial⟩⟩⟩⟩⟩, ⟨32, 32, rfl, rfl, Nat.le_refl _, by decide, by decide, fun b3 => ⟨hS, fun b0 => ⟨hS, ⟨hS, fun β w' hs => (hs.keepB (List.nil_sublist _)).fin [1, 3, 2, 0] ⟨b0, b1, b2, b3, rfl, rfl⟩ rfl rfl rfl ⟨rfl, rfl, rfl, rfl, trivial⟩⟩⟩⟩⟩⟩⟩⟩, ⟨32, 32, rfl, rfl, Nat.le_refl _, by decide, by decide, fun b3 => ⟨hS, ⟨fun b0 => ⟨hS, ⟨32, 32, rfl, rfl, Nat.le_refl _, by decide, by decide, fun b1 => ⟨hS, ⟨hS, fun β w' hs => (hs.keepB (List.nil_sublist _)).fin [2, 3, 0, 1] ⟨b0, b1, b2, b3, rfl, rfl⟩ rfl rfl rfl ⟨rfl, rfl, rfl, rfl, trivial⟩⟩⟩⟩⟩, ⟨32, 32, rfl, rfl, Nat.le_refl _, by decide, by decide, fun b1 => ⟨hS, fun b0 => ⟨hS, ⟨hS, fun β w' hs => (hs.keepB (List.nil_sublist _)).fin [2, 3, 1, 0] ⟨b0, b1, b2, b3, rfl, rfl⟩ rfl rfl rfl ⟨rfl, rfl, rfl, rfl, trivial⟩⟩⟩⟩⟩⟩⟩⟩⟩⟩⟩⟩, ⟨32, 32, rfl, rfl, Nat.le_refl _, by decide, by decide, fun b3 => ⟨hS, ⟨fun b0 => ⟨hS, ⟨⟨32, 32, rfl, rfl, Nat.le_refl _, by decide, by decide, fun b1 => ⟨hS, ⟨32, 32, rfl, rfl, Nat.le_refl _, by decide, by decide, fun b2 => ⟨hS, ⟨hS, fun β w' hs => (hs.keepB (List.nil_sublist _)).fin [3, 0, 1, 2] ⟨b0, b1, b2, b3, rfl, rfl⟩ rfl rfl rfl ⟨rfl, rfl, rfl, rfl, trivial⟩⟩⟩⟩⟩⟩, ⟨32, 32, rfl, rfl, Nat.le_refl _, by decide, by decide, fun b2 => ⟨hS, ⟨32, 32, rfl, rfl, Nat.le_refl _, by decide, by decide, fun b1 => ⟨hS, ⟨hS, fun β w' hs => (hs.keepB (List.nil_sublist _)).fin [3, 1, 0, 2] ⟨b0, b1, b2, b3, rfl, rfl⟩ rfl rfl rfl ⟨rfl, rfl, rfl, rfl, trivial⟩⟩⟩⟩⟩⟩⟩⟩, ⟨⟨32, 32, rfl, rfl, Nat.le_refl _, by decide, by decide, fun b1 => ⟨hS, ⟨fun b0 => ⟨hS, ⟨32, 32, rfl, rfl, Nat.le_refl _, by decide, by decide, fun b2 => ⟨hS, ⟨hS, fun β w' hs => (hs.keepB (List.nil_sublist _)).fin [3, 0, 2, 1] ⟨b0, b1, b2, b3, rfl, rfl⟩ rfl rfl rfl ⟨rfl, rfl, rfl, rfl, trivial⟩⟩⟩⟩⟩, ⟨32, 32, rfl, rfl, Nat.le_refl _, by decide, by decide, fun b2 => ⟨hS, fun b0 => ⟨hS, ⟨hS, fun β w' hs => (hs.keepB (List.nil_sublist _)).fin [3, 1, 2, 0] ⟨b0, b1, b2, b3, rfl, rfl⟩ rfl rfl rfl ⟨rfl, rfl, rfl, rfl, trivial⟩⟩⟩⟩⟩⟩⟩⟩, ⟨32, 32, rfl, rfl, Nat.le_refl _, by decide, by decide, fun b2 => ⟨hS, ⟨fun b0 => ⟨hS, ⟨32, 32, rfl, rfl, Nat.le_refl _, by decide, by decide, fun b1 => ⟨hS, ⟨hS, fun β w' hs => (hs.keepB (List.nil_sublist _)).fin [3, 2, 0, 1] ⟨b0, b1, b2, b3, rfl, rfl⟩ rfl rfl rfl ⟨rfl, rfl, rfl, rfl, trivial⟩⟩⟩⟩⟩, ⟨32, 32, rfl, rfl, Nat.le_refl _, by decide, by decide, fun b1 => ⟨hS, fun b0 => ⟨hS, ⟨hS, fun β w' hs => (hs.keepB (List.nil_sublist _)).fin [3, 2, 1, 0] ⟨b0, b1, b2, b3, rfl, rfl⟩ rfl rfl rfl ⟨rfl, rfl, rfl, rfl, trivial⟩⟩⟩⟩⟩⟩⟩⟩⟩⟩⟩⟩⟩⟩⟩
end Go.Proofs.YthkjfepbmnabkaaGreatDoor.Sx

/- Who there is: the document's example. -/
namespace Go.Proofs.YthkjfepbmnabkaaGreatDoor.Sx
open Go
attribute [local irreducible] Calls

theorem stoOut_eq {S : Sto} {r : Int × ASto} {v : Value} {Fs : List Fact} {e : Int} {X : ASto} (h : stoOut S r v Fs) (hr : r = (e, X)) : ∃ S', v = .int .i64 e ∧ S'.a = X ∧ S'.b = S.b ∧ Fs = [stoF S'] := by
  subst hr; exact h
def tT : ByteArray := ⟨#[116]⟩
def annT : ByteArray := ⟨#[97, 110, 110]⟩
def devT : ByteArray := ⟨#[100, 101, 118]⟩
def X0 : ASto := ⟨[], 0, 0⟩
def X1 : ASto := ⟨[(tT, [])], 0, 0⟩
def annC (gen : Nat) (roles : List ByteArray) (r : Bool) : ACrd := ⟨tT, annT, plainS, gen, roles, r⟩
def X2 (gen : Nat) (roles : List ByteArray) (r : Bool) (reads : Int) : ASto := ⟨[(tT, [annC gen roles r])], gen, reads⟩
theorem name_ann : nameA annT = (annT, 0) := by decide +kernel
theorem e1 : addT X0 tT = (0, X1) := by rfl
theorem e2 : addU X1 tT annT plainS = (0, X2 1 [] false 0) := by
  unfold addU
  rw [name_ann]
  rfl
theorem aone_X2 (gen : Nat) (roles : List ByteArray) (r : Bool) (reads : Int) : aone (X2 gen roles r reads) tT annT = some (annC gen roles r) := by
  unfold aone
  rw [name_ann]
  rfl
theorem e3 : grantE (X2 1 [] false 0) tT annT devT = (0, X2 2 [devT] false 0) := by
  unfold grantE
  rw [aone_X2]
  unfold updU
  rw [name_ann]
  rfl
theorem e4 : revU (X2 2 [devT] false 1) tT annT true = (0, X2 3 [devT] true 1) := by
  unfold revU
  rw [aone_X2]
  unfold updU
  rw [name_ann]
  rfl
theorem plainSz : ASz plainS := ⟨by decide, by decide, by decide, by decide⟩
/-- The secret of noughts, to be read. -/
theorem Sat.plainF {cx : Cx} {β : Va} {n : Nat} {H : List Bk} {w : World} {F : List Fact} {b0 b1 b2 b3 : Nat} (h : Sat cx β n H F w) (js : List Nat) (hj : takeIx F js = [rowZ b3, rowZ b2, rowZ b1, row1 b0]) (hn : nodupB js = true := by rfl) : Sat cx β n H (secF (plainX b0 b1 b2 b3) plainS :: dropIx js 0 F) w := by
  refine h.fuse js (secF (plainX b0 b1 b2 b3) plainS) (fun w hm => ?_) (fun k hk => ?_) hn (by rw [hj]; exact ⟨rfl, rfl, rfl, rfl, trivial⟩)
  · rw [hj] at hm
    exact ⟨rfl, rfl, rfl, rfl, rfl, row_rd (hm.fact (row1 b0) (by simp)), row_rd (hm.fact (rowZ b1) (by simp)), row_rd (hm.fact (rowZ b2) (by simp)), row_rd (hm.fact (rowZ b3) (by simp))⟩
  · rw [hj]
    obtain ⟨f, hf, hk⟩ := hk
    simp only [List.mem_cons, List.not_mem_nil, or_false] at hf
    rcases hf with rfl | rfl | rfl | rfl
    all_goals
      obtain ⟨_, ad, q, rfl⟩ := hk
      obtain rfl := Option.some.inj q
    · exact ⟨row1 b0, by simp, rfl⟩
    · exact ⟨rowZ b1, by simp, rfl⟩
    · exact ⟨rowZ b2, by simp, rfl⟩
    · exact ⟨rowZ b3, by simp, rfl⟩
def curA (X : ASto) (t u : ByteArray) (n : Int) : Bool := match aone X t u with
  | some a => !a.revoked && decide ((a.gen : Int) = n)
  | none => false
theorem current_a (w : World) (S : Sto) (t u : ByteArray) (n : Int) (h : (stoF S).p w) (hl : ∀ k, (stoF S).D k → k < w.heap.size) (hu : u.size ≤ 100000) (hn : NamT w) :
    Pu Tryz.prog n_cred_Store_Current #[ptr S.b, .string t, .string u, .int .u64 n] w (.bool (curA S.a t u n)) := by
  have h1 := current_c w S t u n h hl hu hn
  have e : curA S.a t u n = (match S.usr t u with | some c => !c.revoked && decide ((c.gen : Int) = n) | none => false) := by
    unfold curA
    cases hc : S.usr t u with
    | none => rw [usr_none hc]
    | some c =>
      obtain ⟨A, T, B, U, V, at_⟩ := usr_some hc
      rw [at_.is]
      rfl
  rw [e]
  exact h1
theorem stoR_a {S : Sto} {gen : Nat} {roles : List ByteArray} {r : Bool} (h : S.a = X2 gen roles r 0) : (stoR S).a = X2 gen roles r 1 := by
  show ASto.mk S.a.ts S.a.last (IntKind.u64.wrap (S.a.reads + 1)) = _
  rw [h]
  rfl
theorem cur_X2 (gen : Nat) (roles : List ByteArray) (r : Bool) (reads n : Int) : curA (X2 gen roles r reads) tT annT n = (!r && decide ((gen : Int) = n)) := by
  unfold curA
  rw [aone_X2]
  rfl
set_option maxHeartbeats 2000000 in
theorem awake14_c (w : World) (hm : Mem w [namF]) : Pu Tryz.prog n_ostiarylaw14_awake #[] w (.bool true) := by
  have g := good_ostiarylaw14_awake w (Un [])
  refine con_of_sx (cx := cx_ostiarylaw14_awake w (Un [])) g b_ostiarylaw14_awake rfl rfl (β := Va.z) [] 0 [] [namF] rfl rfl (hm.sat0 rfl (ownIn (Gs := []) (fun f hf => by
    obtain rfl := List.mem_singleton.1 hf; rfl))) ?_
  refine call_con [] (fun β w' hs => cnew_c w') ?_
  rintro v Fs ⟨b, m, rfl, rfl⟩
  refine call_con [0] (fun β w' hs => addTenant_c w' (sto0 b m) tT (by decide) (hs.mem.take (js := [0]) rfl)) ?_
  intro v Fs h
  obtain ⟨S1, rfl, a1, b1, rfl⟩ := stoOut_eq h e1
  replace b1 : S1.b = b := b1
  refine call_con [] (fun β w' hs => plain14_c w') ?_
  rintro v Fs ⟨c0, c1, c2, c3, rfl, rfl⟩
  refine call_conS [4] (R := stoOut S1 (0, X2 1 [] false 0)) (fun β w' hs => by
    have k := (hs.plainF [0, 1, 2, 3] rfl).perm [1, 0, 2]
    have h := add_c w' S1 tT annT (plainX c0 c1 c2 c3) plainS (by decide) plainSz k.mem
    rw [b1, a1, e2] at h
    exact h) ?_
  rintro v Fs ⟨S2, rfl, a2, b2, rfl⟩
  refine ⟨[], [stoF S2, namF], fun β w' hs => hs.perm [0, 5], ?_⟩
  replace b2 : S2.b = b := b2.trans b1
  replace a2 : S2.a = X2 1 [] false 0 := a2
  refine call_con [0] (R := stoOut S2 (0, X2 2 [devT] false 0)) (fun β w' hs => by
    have h := grantE_c w' S2 tT annT devT (by decide) (by decide) (fun a ha => by
      rw [a2, aone_X2] at ha
      obtain rfl := Option.some.inj ha
      exact ⟨by decide, fun r hr => by cases hr⟩) hs.mem
    rw [b2, a2, e3] at h
    exact h) ?_
  rintro v Fs ⟨S3, rfl, a3, b3, rfl⟩
  replace b3 : S3.b = b := b3.trans b2
  replace a3 : S3.a = X2 2 [devT] false 0 := a3
  refine call_con [0] (R := findOut S3 tT annT) (fun β w' hs => by
    have h := find_c w' S3 tT annT (by decide) (fun a ha => by
      rw [a3, aone_X2] at ha
      obtain rfl := Option.some.inj ha
      exact ⟨plainSz, by decide⟩) hs.mem
    rw [b3] at h
    exact h) ?_
  intro v Fs h
  unfold findOut at h
  rw [a3, aone_X2] at h
  obtain ⟨c, hc, rfl, rfl⟩ := h
  have a5 := stoR_a a3
  have b5 : (stoR S3).b = b := b3
  obtain ⟨cb, ct, cu, csec, cg, cA, cc, cr, cv⟩ := c
  simp only [Crd.a, annC, ACrd.mk.injEq] at hc
  obtain ⟨rfl, rfl, hsec, rfl, rfl, rfl⟩ := hc
  refine call_pu (v := .bool true) (fun β w' hs => by
    have h := current_a w' (stoR S3) tT annT 2 (hs.get 5 rfl) (hs.getLt 5 rfl) (by decide) (namF_T (hs.get 6 rfl))
    rw [a5, b5, cur_X2] at h
    exact h) ?_
  refine call_con [5] (R := stoOut (stoR S3) (0, X2 3 [devT] true 1)) (fun β w' hs => by
    have h := revoke_c w' (stoR S3) tT annT true (by decide) (hs.mem.take (js := [5, 6]) rfl)
    rw [b5, a5, e4] at h
    exact h) ?_
  rintro v Fs ⟨S4, rfl, a4, b4, rfl⟩
  replace b4 : S4.b = b := b4.trans b5
  replace a4 : S4.a = X2 3 [devT] true 1 := a4
  refine call_pu (v := .int .u64 3) (fun β w' hs => by
    have h := last_c w' S4 (hs.get 0 rfl) (hs.getLt 0 rfl)
    rw [b4, show S4.last = 3 from congrArg ASto.last a4] at h
    exact h) ?_
  refine call_pu (v := .bool false) (fun β w' hs => by
    have h := current_a w' S4 tT annT 3 (hs.get 0 rfl) (hs.getLt 0 rfl) (by decide) (namF_T (hs.get 6 rfl))
    rw [a4, b4, cur_X2] at h
    exact h) ?_
  intro β w' hs
  exact (hs.keepB (List.nil_sublist _)).fin [] ⟨rfl, rfl⟩
end Go.Proofs.YthkjfepbmnabkaaGreatDoor.Sx

/- BoxTurns. -/
namespace Go.Proofs.YthkjfepbmnabkaaGreatDoor.Sx
open Go
attribute [local irreducible] Calls

def OpA.ok (w : World) (o : OpA) : Prop := (Bs w o.K o.key ∧ o.key.length ≤ o.cK) ∧ (Bs w o.X o.text ∧ o.text.length ≤ o.cX)
/-- Where a script stands. -/
structure LS where
  k : Nat
  B : Bx.Box
  y : Lay
  z : Lay
  T : Option Addr
  c : Nat
  ts : List Part
def LS.F (tb b rb : Nat) (i : LS) : List Fact := tlF tb b rb i.B i.y i.z i.T i.c i.ts
structure LS.Ok (i : LS) (n m : Nat) : Prop where
  k : i.k ≤ n
  lo : Lo i.B i.y i.z
  ok : TOk i.B i.ts
  bl : i.B.L.length ≤ min i.k m
  tl : i.ts.length ≤ min i.k m
def LS.start (sym : Bool) (y0 : Lay) : LS := ⟨0, ⟨sym, false, []⟩, y0, ⟨none, 0, 0, []⟩, none, 0, []⟩
theorem LS.Ok.next {i : LS} {n m : Nat} (h : i.Ok n m) (hk : i.k < n) (hm : i.k < m) {B' : Bx.Box} {y z : Lay} {T : Option Addr} {c : Nat} {ts' : List Part} (he : Ext i.B B') (hl : Lo B' y z) (ho : TOk B' ts') (ht : ts'.length ≤ i.ts.length + 1) : (LS.mk (i.k + 1) B' y z T c ts').Ok n m := by
  have h1 := h.bl
  have h2 := h.tl
  have h3 := he.len
  exact ⟨hk, hl, ho, by show B'.L.length ≤ min (i.k + 1) m; omega, by show ts'.length ≤ min (i.k + 1) m; omega⟩
end Go.Proofs.YthkjfepbmnabkaaGreatDoor.Sx

/- The law's two boxes, compared: the program's small words on a box. -/
namespace Go.Proofs.YthkjfepbmnabkaaGreatDoor.Sx
open Go
attribute [local irreducible] Calls

theorem lenX_c (w : World) (b : Nat) (B : Bx.Box) (y : Lay) (hb : (bxF b B y).p w) (hbD : ∀ k, (bxF b B y).D k → k < w.heap.size) : Pu Tryz.prog n_box_Box_Len #[ptrB b] w (.int .i64 (B.L.length : Int)) := by
  have g := good_box_Box_Len w (Un [])
  refine con_of_sx (cx := cx_box_Box_Len w (Un [])) g b_box_Box_Len rfl rfl (β := Va.z) [.c (.v (ptrB b))] 0 [] [oldF w] rfl rfl (old_sat rfl) ?_
  refine ⟨.slice y.A B.L.length y.c, fun β w' hs => box_cell (bx_bk (fact_old hb hbD (hs.get 0 rfl))) (o := 2) rfl, ?_⟩
  intro β w' hs
  exact hs.fin [] ⟨rfl, rfl⟩
end Go.Proofs.YthkjfepbmnabkaaGreatDoor.Sx

/- Secrets made: one word for both ends; a box at its beginning; facts put in another way. -/
namespace Go.Proofs.YthkjfepbmnabkaaGreatDoor.Sx
open Go
attribute [local irreducible] Calls

theorem tri_sat {cx : Cx} {c : Code} {Q : Exit → KT} {n : Nat} {env : Env} {H : List Bk} {F F' : List Fact} (hS : ∀ β w, Sat cx β n H F w → Sat cx β n H F' w) (h : Tri cx c Q n env H F') : Tri cx c Q n env H F :=
  ⟨fun β a w hi => h.run β a w ⟨hi.ag, hi.size, hi.df, hi.lte, hS β w hi.sat⟩⟩
theorem reify_tri {cx : Cx} {c : Code} {Q : Exit → KT} {n : Nat} {env : Env} {H : List Bk} {F : List Fact} (id : Nat) {ty : TypeId} {cs : List SL} (vs : Nat → List Value) (h1 : tyAt H id = some ty) (h2 : cellsAt H id = some cs) (h3 : ∀ b, allV (cs.map (SL.re id b)) = some (vs b))
    (h : ∀ b, Tri cx c Q n (envRe id b env) (bksRe id b H) (bkF b ty (vs b) :: F)) : Tri cx c Q n env H F :=
  tri_join (ι := Nat) (fun _ => True) n (fun b => envRe id b env) (fun b => bksRe id b H) (fun b => bkF b ty (vs b) :: F) (fun b _ => h b) (EntX.reify id vs h1 h2 h3 (fun b => EntX.of b trivial ⟨fun β a w hi => ⟨β, rfl, rfl, hi⟩⟩))
theorem dropIx_ge {js : List Nat} : ∀ {F : List Fact} {i : Nat}, (∀ j ∈ js, j < i) → dropIx js i F = F
  | [], _, _ => rfl
  | f :: r, i, h => by
    have hm : memb js i = false := by
      cases hb : memb js i with
      | false => rfl
      | true => have := h i (memb_mem hb); omega
    simp only [dropIx, hm]
    rw [dropIx_ge (fun j hj => Nat.lt_succ_of_lt (h j hj))]
def box0 (sym : Bool) : Bx.Box := ⟨sym, false, []⟩
def lay0 : Lay := ⟨none, 0, 0, []⟩
theorem box0_inv (sym : Bool) : BInv (box0 sym) := ⟨fun _ q => (by cases q), List.nodup_nil, fun _ q => (by cases q), fun _ => rfl, Nat.zero_le _⟩
theorem Sat.rbx0 {cx : Cx} {β : Va} {n : Nat} {H : List Bk} {F : List Fact} {w : World} {rb : Nat} {sym : Bool} (hs : Sat cx β n H (bkF rb ty_ostiaryref05_Box [.bool sym, .slice none 0 0, .bool false] :: F) w) : Sat cx β n H (rbxF rb (box0 sym) lay0 :: F) w := by
  have h1 := (hs.nilRow ty_ostiaryref05_Term 6).noMem (partsF []) (fun _ h => (by cases h)) (fun k hk => by obtain ⟨p, hp, _⟩ := hk; cases hp)
  have h2 := h1.sep [2, 1, 0] rfl ⟨rfl, rfl, rfl, trivial⟩
  have e : dropIx [2, 1, 0] 0 (partsF [] :: rowF ty_ostiaryref05_Term 6 (.slice none 0 0) 0 [] :: bkF rb ty_ostiaryref05_Box [.bool sym, .slice none 0 0, .bool false] :: F) = F := by
    show dropIx [2, 1, 0] 3 F = F
    exact dropIx_ge (fun j hj => by simp only [List.mem_cons, List.not_mem_nil, or_false] at hj; omega)
  rw [e] at h2
  exact h2
/-- A fact more, that is nowhere. -/
theorem Fin.addO {w w' : World} {Gs : List Fact} {R : Value → List Fact → Prop} {v : Value} (h : Fin w Gs R v w') (f : Fact) (hp : f.p w') (hD : ∀ k, ¬ f.D k) (ho : f.own = true) : Fin w Gs (fun v Fs => ∃ Fs0, R v Fs0 ∧ Fs = f :: Fs0) v w' := by
  obtain ⟨Fs, hR, hc, hm, hown, hDs⟩ := h
  refine ⟨f :: Fs, ⟨Fs, hR, rfl⟩, hc, ⟨fun g hg => ?_, fun g hg k hk => ?_, List.pairwise_cons.2 ⟨fun g _ _ k hk => absurd hk (hD k), hm.sepf⟩⟩, ⟨ho, hown⟩, fun g hg k hk => ?_⟩
  · rcases List.mem_cons.1 hg with rfl | hg
    · exact hp
    · exact hm.fact g hg
  · rcases List.mem_cons.1 hg with rfl | hg
    · exact absurd hk (hD k)
    · exact hm.flt g hg k hk
  · rcases List.mem_cons.1 hg with rfl | hg
    · exact absurd hk (hD k)
    · exact hDs g hg k hk
abbrev nilB : Fact := browF ty_uint8 none [] 0
theorem Con.addNil {P : Program} {k : FuncId} {args : Array Value} {w : World} {Gs : List Fact} {R : Value → List Fact → Prop} (h : Con P k args w Gs R) : Con P k args w Gs (fun v Fs => ∃ Fs0, R v Fs0 ∧ Fs = nilB :: Fs0) :=
  Calls.mono h fun _ _ ⟨v, he, hf⟩ => ⟨v, he, hf.addO nilB ⟨by simp, .inl ⟨rfl, rfl⟩⟩ (fun k hk => by cases hk) rfl⟩
/-- What is made, or nothing. -/
structure MkR where
  e : Int
  salt : List UInt8
  it : Int
  stored : List UInt8
  server : List UInt8
  ha1 : List UInt8
  B : Bx.Box
noncomputable def mkR (B : Bx.Box) (tenant user pass : ByteArray) (salt : List UInt8) (it : Int) : MkR :=
  if mkErr tenant user pass salt.length it = 0 then
    ⟨0, salt, it, (mk3 B (passA pass).1.data.toList salt it.toNat).1, (mk4 B (passA pass).1.data.toList salt it.toNat).1, (mk5 B (passA pass).1.data.toList salt it.toNat (haT (nameA user).1 tenant (passA pass).1).data.toList).1, (mk5 B (passA pass).1.data.toList salt it.toNat (haT (nameA user).1 tenant (passA pass).1).data.toList).2⟩
  else ⟨mkErr tenant user pass salt.length it, [], 0, [], [], [], B⟩
def SecA.is (x : SecA) (r : MkR) : Prop := x.s0 = r.salt ∧ x.it = r.it ∧ x.s1 = r.stored ∧ x.s2 = r.server ∧ x.s3 = r.ha1
def SecA.fs (x : SecA) : List Fact := [browF ty_uint8 x.A3 x.s3 x.c3, browF ty_uint8 x.A2 x.s2 x.c2, browF ty_uint8 x.A1 x.s1 x.c1, browF ty_uint8 x.A0 x.s0 x.c0]
def makeU (F : Bx.Box → Lay → Fact) (r : MkR) (v : Value) (Fs : List Fact) : Prop :=
  ∃ (x : SecA) (y' : Lay), x.is r ∧ v = .tuple #[x.val, .int .i64 r.e] ∧ y'.ts.map (·.1) = r.B.L ∧ Fs = [browF ty_uint8 x.A3 x.s3 x.c3, browF ty_uint8 x.A2 x.s2 x.c2, browF ty_uint8 x.A1 x.s1 x.c1, browF ty_uint8 x.A0 x.s0 x.c0, F r.B y']
theorem makeU_of {P : Program} {k : FuncId} {args : Array Value} {w : World} {Gs : List Fact} {F : Bx.Box → Lay → Fact} {B : Bx.Box} {y : Lay} {tenant user pass : ByteArray} {salt : List UInt8} {it : Int} (hts : y.ts.map (·.1) = B.L) (h : Con P k args w Gs (makeOut F B y tenant user pass salt it)) : Con P k args w Gs (makeU F (mkR B tenant user pass salt it)) := by
  by_cases h0 : mkErr tenant user pass salt.length it = 0
  · refine h.mono fun v Fs k => ?_
    unfold makeOut at k
    rw [if_pos h0] at k
    obtain ⟨A0, c0, A1, c1, A2, c2, A3, c3, y', rfl, h1, rfl⟩ := k
    unfold makeU mkR
    rw [if_pos h0]
    exact ⟨⟨A0, A1, A2, A3, c0, c1, c2, c3, salt, _, _, _, it⟩, y', ⟨rfl, rfl, rfl, rfl, rfl⟩, rfl, h1, rfl⟩
  · refine (((h.addNil).addNil).addNil).addNil.mono fun v Fs k => ?_
    obtain ⟨_, ⟨_, ⟨_, ⟨_, k, rfl⟩, rfl⟩, rfl⟩, rfl⟩ := k
    unfold makeOut at k
    rw [if_neg h0] at k
    obtain ⟨rfl, rfl⟩ := k
    unfold makeU mkR
    rw [if_neg h0]
    exact ⟨⟨none, none, none, none, 0, 0, 0, 0, [], [], [], [], 0⟩, y, ⟨rfl, rfl, rfl, rfl, rfl⟩, rfl, hts, rfl⟩
/-- A nil box makes none. -/
theorem makeN_c (w : World) (tenant user pass : ByteArray) (S : Value) (it : Int) : Pu Tryz.prog n_cred_Make #[.pointer none, .string tenant, .string user, .string pass, S, .int .i64 it] w (.tuple #[noSec, .int .i64 6]) := by
  refine con_of_sx (cx := cx_cred_Make w (Un [])) (good_cred_Make w (Un [])) b_cred_Make rfl rfl (β := Va.z) [.c (.v (.pointer none)), .c (.v (.string tenant)), .c (.v (.string user)), .c (.v (.string pass)), .c (.v S), .c (.v (.int .i64 it))] 0 [] [] rfl rfl (Sat.start rfl) ?_
  intro β w' hs
  exact (hs.keepB (List.nil_sublist _)).fin [] ⟨rfl, rfl⟩
theorem secret_c (w : World) (x : SecA) : Pu Tryz.prog n_ostiarylaw14_secret #[x.val] w x.val := by
  refine con_of_sx (cx := cx_ostiarylaw14_secret w (Un [])) (good_ostiarylaw14_secret w (Un [])) b_ostiarylaw14_secret rfl rfl (β := Va.z) [.agg x.cells] 0 [] [] rfl rfl (Sat.start rfl) ?_
  intro β w' hs
  exact (hs.keepB (List.nil_sublist _)).fin [] ⟨rfl, rfl⟩
theorem sameSec_c (w : World) (x y : SecA) (hx : x.Rd w) (hy : y.Rd w) (h : x.s0 = y.s0 ∧ x.it = y.it ∧ x.s1 = y.s1 ∧ x.s2 = y.s2 ∧ x.s3 = y.s3) : Pu Tryz.prog n_ostiaryref14_SameSecret #[x.val, y.val] w (.bool true) := by
  have := sameSecret_c w x y hx hy
  rwa [decide_eq_true h] at this
theorem SecA.same {x y : SecA} {r : MkR} (hx : x.is r) (hy : y.is r) : x.s0 = y.s0 ∧ x.it = y.it ∧ x.s1 = y.s1 ∧ x.s2 = y.s2 ∧ x.s3 = y.s3 :=
  ⟨hx.1.trans hy.1.symm, hx.2.1.trans hy.2.1.symm, hx.2.2.1.trans hy.2.2.1.symm, hx.2.2.2.1.trans hy.2.2.2.1.symm, hx.2.2.2.2.trans hy.2.2.2.2.symm⟩
end Go.Proofs.YthkjfepbmnabkaaGreatDoor.Sx

/- CredMakes. -/
namespace Go.Proofs.YthkjfepbmnabkaaGreatDoor.Sx
open Go
attribute [local irreducible] Calls

theorem cut_size' (s : ByteArray) (k : Nat) : (s.extract 0 (min s.size k)).size ≤ k := by
  rw [ByteArray.size_extract]; omega
set_option maxHeartbeats 4000000 in
theorem credMakes_c (w : World) (sym : Bool) (t0 u0 p0 : ByteArray) (S : Option Addr) (salt : List UInt8) (cS : Nat) (it : Int) (ht0 : t0.size ≤ maxLen) (hu0 : u0.size ≤ maxLen) (hp0 : p0.size ≤ maxLen) (hcS : salt.length ≤ cS)
    (hm : Mem w [bsF S salt, oddF 2, firstF 0, oddF 3, namF]) :
    Con Tryz.prog n_ostiarylaw14_CredMakes #[.bool sym, .string t0, .string u0, .string p0, .slice S salt.length cS, .int .i64 it] w [] fun v Fs => v = .bool true ∧ Fs = [] := by
  have g := good_ostiarylaw14_CredMakes w (Un [])
  have hml := maxLen_eq
  have hlim : 40 ≤ lim := by rw [lim_eq]; decide
  have hs0 : Sat (cx_ostiarylaw14_CredMakes w (Un [])) Va.z 0 [] [bsF S salt, oddF 2, firstF 0, oddF 3, namF] w := hm.sat0 rfl (ownIn (Gs := []) (fun f hf => by
    simp only [List.mem_cons, List.not_mem_nil, or_false] at hf
    rcases hf with rfl | rfl | rfl | rfl | rfl <;> rfl))
  refine con_of_tri (cx := cx_ostiarylaw14_CredMakes w (Un [])) g b_ostiarylaw14_CredMakes rfl rfl (β := Va.z) [.c (.v (.bool sym)), .c (.v (.string t0)), .c (.v (.string u0)), .c (.v (.string p0)), .c (.v (.slice S salt.length cS)), .c (.v (.int .i64 it))] 0 [] _ rfl rfl hs0 ?_
  refine tri_seq g ?_
  refine tri_seq g ?_
  refine call_pu (fun β w' hs => awake14_c w' (hs.mem.take (js := [4]) rfl)) ?_
  refine tri_seq g ?_
  refine call_pu (fun β w' hs => cutText_c w' t0 40 ht0 (by decide)) ?_
  refine call_pu (fun β w' hs => cutText_c w' u0 50 hu0 (by decide)) ?_
  refine call_pu (fun β w' hs => cutText_c w' p0 80 hp0 (by decide)) ?_
  have z0 := cut_size' t0 40
  have z1 := cut_size' u0 50
  have z2 := cut_size' p0 80
  generalize t0.extract 0 (min t0.size 40) = t at z0 ⊢
  generalize u0.extract 0 (min u0.size 50) = u at z1 ⊢
  generalize p0.extract 0 (min p0.size 80) = p at z2 ⊢
  have hs40 : (salt.take 40).length ≤ 40 := by rw [List.length_take]; omega
  refine call_con [] (fun β w' hs => cutC w' S salt cS 40 (hs.get 0 rfl) hcS hlim) ?_
  generalize salt.take 40 = sa at hs40 ⊢
  rintro v Fs ⟨A0, c0, rfl, q0, _, rfl⟩
  have hsl : sa.length ≤ lim := by rw [lim_eq]; omega
  refine tri_seqJ (ι := Int) g (fun _ => True) 0 (fun i => [(0, .c (.v (.bool sym))), (1, .c (.v (.string t))), (2, .c (.v (.string u))), (3, .c (.v (.string p))), (4, .c (.v (.slice A0 sa.length c0))), (5, .c (.v (.int .i64 i)))]) (fun _ => [])
    (fun _ => [browF ty_uint8 A0 sa c0, bsF S salt, oddF 2, firstF 0, oddF 3, namF]) ?_ ?_
  rotate_left
  · refine BIf.dec (fun h8 => ?_) (fun h8 => ?_)
    · obtain ⟨x1, e1⟩ : ∃ x1, it.tmod 4 = x1 := ⟨_, rfl⟩
      refine ⟨by decide, x1, e1, ?_⟩
      obtain ⟨x2, e2⟩ : ∃ x2, IntKind.i64.wrap (it.tdiv 4) = x2 := ⟨_, rfl⟩
      refine ⟨by decide, x2, e2, ?_⟩
      obtain ⟨x3, e3⟩ : ∃ x3, x2.tmod 2 = x3 := ⟨_, rfl⟩
      refine ⟨by decide, x3, e3, ?_⟩
      obtain ⟨x4, e4⟩ : ∃ x4, IntKind.i64.wrap (x3 * 64) = x4 := ⟨_, rfl⟩
      refine ⟨x4, e4, ?_⟩
      obtain ⟨x5, e5⟩ : ∃ x5, max 0 x4 = x5 := ⟨_, rfl⟩
      refine ⟨x5, e5, ?_⟩
      obtain ⟨r', e6⟩ : ∃ r', IntKind.i64.wrap (x1 + x5) = r' := ⟨_, rfl⟩
      refine ⟨r', e6, ?_⟩
      exact EntX.of r' trivial (Ent.mk' ⟨rfl, rfl, rfl, rfl, rfl, rfl, trivial⟩ rfl (fun β w' hs => hs))
    · exact EntX.of it trivial (Ent.mk' ⟨rfl, rfl, rfl, rfl, rfl, rfl, trivial⟩ rfl (fun β w' hs => hs))
  clear it
  rintro it -
  refine tri_seq g ?_
  refine call_con [] (fun β w' hs => newX_c w' sym) ?_
  rintro v Fs ⟨b, y0, rfl, hy0, rfl⟩
  refine reify_tri 0 (fun _ => [.bool sym, .slice none 0 0, .bool false]) rfl rfl (fun _ => rfl) (fun rb => ?_)
  refine tri_sat (fun β w' hs => hs.rbx0) ?_
  refine tri_seq g ?_
  refine call_con [] (fun β w' hs => con_row (copy_c w' A0 sa c0 (row_rd (hs.get 2 rfl)) hsl)) ?_
  rintro v Fs ⟨A1, c1, rfl, q1, _, rfl⟩
  refine tri_seq g ?_
  refine call_con [2] (R := makeU (bxF b) (mkR (box0 sym) t u p sa it)) (fun β w' hs => makeU_of (by rw [hy0]; rfl) (make_c w' b (box0 sym) y0 t u p A1 sa c1 it (by rw [hy0]; rfl) (box0_inv sym) (by show 0 < 4000; decide) (by omega) (by omega) (by omega) (by omega) ((hs.ro 0 rfl).mem.take (js := [2, 0, 5, 6, 8]) rfl))) ?_
  rintro v Fs ⟨x, y1, hx, rfl, hts1, rfl⟩
  refine tri_seq g ?_
  refine call_con [6] (R := makeU (rbxF rb) (mkR (box0 sym) t u p sa it)) (fun β w' hs => makeU_of rfl (rmake_c w' rb (box0 sym) lay0 t u p A0 sa c0 it rfl (box0_inv sym) (by show 0 < 4000; decide) (by omega) (by omega) (by omega) (by omega) ((hs.ro 7 rfl).mem.take (js := [6, 7, 11]) rfl))) ?_
  rintro v Fs ⟨x2, y2, hx2, rfl, hts2, rfl⟩
  have hsame := SecA.same hx hx2
  generalize mkR (box0 sym) t u p sa it = r at *
  obtain ⟨e, _, _, _, _, _, B'⟩ := r
  simp only at hts1 hts2
  clear hx hx2
  obtain ⟨N, hN⟩ : ∃ N : Int, (B'.L.length : Int) = N := ⟨_, rfl⟩
  refine tri_seq g ?_
  refine draw_rule g p_ostiarylaw14_CredMakes_10 (by kernel_rfl) [⟨2, ty_ostiaryref14_Secret, x2.cells⟩, ⟨1, ty_cred_Secret, x.cells⟩] [rbxF rb B' y2] (subPerm [4]) ?_
  refine call_pu (fun β w' hs => secret_c w' x) ?_
  refine ⟨subPerm [4], ?_⟩
  refine call_pu (fun β w' hs => sameSec_c w' x x2 ⟨row_rd (hs.get 8 rfl), row_rd (hs.get 7 rfl), row_rd (hs.get 6 rfl), row_rd (hs.get 5 rfl)⟩ ⟨row_rd (hs.get 3 rfl), row_rd (hs.get 2 rfl), row_rd (hs.get 1 rfl), row_rd (hs.get 0 rfl)⟩ hsame) ?_
  refine ⟨subPerm [4], ?_⟩
  refine BIf.not (BIf.dec (fun _ => ?_) (fun h => absurd rfl h))
  refine ⟨.slice y2.A B'.L.length y2.c, fun β w' hs => bk_cell (rbx_bk (hs.get 0 rfl)) (o := 1) rfl, ?_⟩
  refine call_pu (v := .int .i64 N) (fun β w' hs => by rw [← hN]; exact lenX_c w' b B' y1 (hs.get 9 rfl) (hs.getLt 9 rfl)) ?_
  refine ⟨subPerm [4], ?_⟩
  refine BIf.not (BIf.dec (fun _ => ?_) (fun h => absurd hN.symm h))
  refine call_pu (v := .bool true) (fun β w' hs => by
    have k1 := pu_of (same_c w' A1 A0 sa sa c1 c0 (row_rd (hs.get 10 rfl)) (row_rd (hs.get 11 rfl)))
    rw [decide_eq_true rfl] at k1
    exact k1) ?_
  refine ⟨subPerm [4], ?_⟩
  refine tri_seq g ?_
  refine call_con [10] (fun β w' hs => flip_c w' A1 sa c1 (hs.mem.take (js := [10]) rfl) hsl) ?_
  rintro v Fs ⟨l', hl', rfl⟩
  refine tri_seq g ?_
  refine call_pu (fun β w' hs => makeN_c w' t u p (.slice A0 sa.length c0) it) ?_
  refine tri_seq g ?_
  refine draw_rule g p_ostiarylaw14_CredMakes_14 (by kernel_rfl) [⟨3, ty_cred_Secret, [.v (.slice none 0 0), .v (.int .i64 0), .v (.slice none 0 0), .v (.slice none 0 0), .v (.slice none 0 0)]⟩, ⟨2, ty_ostiaryref14_Secret, x2.cells⟩, ⟨1, ty_cred_Secret, x.cells⟩] [] (Sub.of (List.Sublist.refl _) (List.nil_sublist _)) ?_
  refine call_pu (fun β w' hs => secret_c w' x) ?_
  refine ⟨Sub.of (List.Sublist.refl _) (List.nil_sublist _), ?_⟩
  refine call_pu (fun β w' hs => sameSec_c w' x x2 ⟨row_rd (hs.get 9 rfl), row_rd (hs.get 8 rfl), row_rd (hs.get 7 rfl), row_rd (hs.get 6 rfl)⟩ ⟨row_rd (hs.get 4 rfl), row_rd (hs.get 3 rfl), row_rd (hs.get 2 rfl), row_rd (hs.get 1 rfl)⟩ hsame) ?_
  refine ⟨Sub.of (List.Sublist.refl _) (List.nil_sublist _), ?_⟩
  refine tri_of g ?_
  intro β w' hs
  exact (hs.keepB (List.nil_sublist _)).fin [] ⟨rfl, rfl⟩
end Go.Proofs.YthkjfepbmnabkaaGreatDoor.Sx

/- What a law begins with: tables, and what is only read. -/
namespace Go.Proofs.YthkjfepbmnabkaaGreatDoor.Sx
open Go

def RoOk (w : World) (f : Fact) : Prop := f.own = false ∧ f.p w ∧ ∀ k, f.D k → k < w.heap.size
theorem mem_ro {w : World} {Fs : List Fact} (h : ∀ f ∈ Fs, RoOk w f) : Mem w Fs := by
  refine ⟨fun f hf => (h f hf).2.1, fun f hf k hk => (h f hf).2.2 k hk, ?_⟩
  induction Fs with
  | nil => exact List.Pairwise.nil
  | cons f r ih =>
    refine List.pairwise_cons.2 ⟨fun g hg q => ?_, ih (fun g hg => h g (List.mem_cons_of_mem _ hg))⟩
    rcases q with q | q
    · rw [(h f List.mem_cons_self).1] at q; cases q
    · rw [(h g (List.mem_cons_of_mem _ hg)).1] at q; cases q
theorem rd_ok {w : World} {size : Nat} {A : Option Addr} {k : Nat} {xs : List Value} (h : Rd size A k xs w) : RoOk w (rdF size A k xs) := ⟨rfl, h, rd_lt h⟩
theorem nam_ok {w : World} (f : Forms 7 w) (s5 : (spansF 5 blanksL).p w) (s6 : (spansF 6 nothingL).p w) (s4 : (spansF 4 barredL).p w) : RoOk w namF := by
  refine ⟨rfl, fun g hg => ?_, fun k hk => ?_⟩
  · simp only [List.mem_cons, List.not_mem_nil, or_false] at hg
    rcases hg with rfl | rfl | rfl | rfl
    · exact f
    · exact s5
    · exact s6
    · exact s4
  · obtain ⟨g, hg, hk⟩ := hk
    simp only [List.mem_cons, List.not_mem_nil, or_false] at hg
    rcases hg with rfl | rfl | rfl | rfl
    · exact rd_lt f k hk
    · exact rd_lt s5 k hk
    · exact rd_lt s6 k hk
    · exact rd_lt s4 k hk
theorem ro_nil {w : World} : ∀ f ∈ ([] : List Fact), RoOk w f := fun f h => by cases h
theorem ro_cons {w : World} {f : Fact} {r : List Fact} (h1 : RoOk w f) (h2 : ∀ g ∈ r, RoOk w g) : ∀ g ∈ f :: r, RoOk w g := fun g hg => by
  rcases List.mem_cons.1 hg with rfl | hg
  · exact h1
  · exact h2 g hg
end Go.Proofs.YthkjfepbmnabkaaGreatDoor.Sx

/- What a statement's proof has of its arguments, in this executor's words. -/
namespace Go.Proofs.YthkjfepbmnabkaaGreatDoor.Sx
open Go Go.RowKit

theorem below_of {w w' : World} (h : Chg None_ w w') : Below w.heap.size w w' :=
  ⟨h.os, h.tape, h.output, h.size, fun k hk => h.same k hk (fun q => q)⟩
end Go.Proofs.YthkjfepbmnabkaaGreatDoor.Sx

/- Tables that are laid: what their cells are. -/
namespace Go.Proofs.YthkjfepbmnabkaaGreatDoor.Sx
open Go

theorem rd_of_ints {H : Type} {enc : TypeId × Value → H} {P : Program} {W : World} {base : Nat} {sp : Nat → Bool} {held : Bool} {fuel g n : Nat} {t e : TypeId} {k : IntKind} {cs : Array Value} {zs : List Int} {q : List MemPlace}
    (ht : P.underlying t = some (.array n e)) (he : P.underlying e = some (.int k)) (hc : P.cellsOf e = 1) (hd : DataW.trod enc P W base sp held fuel t cs.toList = some (.agg (zs.map fun z => .lit (.int k z)), q)) (hcell : ∀ j, W.cell? ⟨g, j, none⟩ = cs[j]?) :
    Rd 1 (some ⟨g, 0, none⟩) zs.length (zs.map (Value.int k)) W := by
  obtain ⟨xs, m, _, hx, hlen, hn, hel⟩ := DataW.trod_array ht hd
  simp only [Prod.mk.injEq, DataW.agg.injEq] at hx
  have hzn : zs.length = n := by
    have h9 := congrArg List.length hx.1
    simp only [List.length_map] at h9
    omega
  refine ⟨by simp, fun hp => ⟨_, rfl, fun j u hu => ?_⟩⟩
  rw [List.getElem?_map] at hu
  obtain ⟨z, hz, rfl⟩ := Option.map_eq_some_iff.1 hu
  have hj : j < zs.length := (List.getElem?_eq_some_iff.1 hz).1
  have h1 := hel j (by omega)
  have h2 : (xs.map (·.1))[j]? = some (.lit (.int k z)) := by rw [← hx.1, List.getElem?_map, hz]; rfl
  rw [List.getElem?_map] at h2
  obtain ⟨x, hxj, hx1⟩ := Option.map_eq_some_iff.1 h2
  rw [hxj, hc, Nat.mul_one] at h1
  obtain ⟨y, e1, e2, _⟩ := DataW.trod_int he h1
  have hy : y = z := by
    rw [e2] at hx1
    simpa using hx1
  subst hy
  rw [add_none, Nat.zero_add, hcell j, ← Array.getElem?_toList]
  have h3 := congrArg (fun l => l[0]?) e1
  simpa [List.getElem?_drop] using h3
theorem opens_string {P : Program} {w : World} {m : Nat} {t : TypeId} {s : ByteArray} (ht : P.underlying t = some .string) (h : Opens P w m t (Value.cells (.string s)).toList) : s.size ≤ maxLen := by
  cases m with
  | zero => exact h.elim
  | succ m =>
    unfold Opens at h
    rw [ht] at h
    obtain ⟨s', h1, h2⟩ := h
    simp [Value.cells] at h1
    subst h1
    exact h2
abbrev u32s (l : List UInt32) : List Int := l.map fun x => (x.toNat : Int)
theorem rd_u32 {g : Nat} {W : World} {l : List UInt32} (h : Rd 1 (some ⟨g, 0, none⟩) (u32s l).length ((u32s l).map (Value.int .u32)) W) : Rd 1 (some ⟨g, 0, none⟩) l.length (l.map u32) W := by
  have e : (u32s l).map (Value.int .u32) = l.map u32 := by rw [List.map_map]; rfl
  rw [e, List.length_map] at h
  exact h
end Go.Proofs.YthkjfepbmnabkaaGreatDoor.Sx

/- Tables that are laid, of any plain types: their cells are what they hold, in order. -/
namespace Go.Proofs.YthkjfepbmnabkaaGreatDoor.Sx
open Go

mutual
def lits {H : Type} : DataW H → Option (List Value)
  | .lit (.int k n) => some [.int k n]
  | .lit (.bool b) => some [.bool b]
  | .lit (.string l) => some [.string ⟨l.toArray⟩]
  | .agg ps => litsL ps
  | _ => none
def litsL {H : Type} : List (DataW H) → Option (List Value)
  | [] => some []
  | d :: r => match lits d, litsL r with
    | some a, some b => some (a ++ b)
    | _, _ => none
end
def contig (P : Program) : List Field → Nat → Option Nat
  | [], o => some o
  | f :: r, o => if f.offset = o then contig P r (o + P.cellsOf f.type) else none
def flatB (P : Program) : Nat → TypeId → Bool
  | 0, _ => false
  | n + 1, t => match P.underlying t with
    | some (.int _) | some .bool | some .string => true
    | some (.struct fs) => (match contig P fs.toList 0 with | some e => Nat.beq e (P.cellsOf t) | none => false) && fs.toList.all fun f => flatB P n f.type
    | some (.array m e) => Nat.beq (m * P.cellsOf e) (P.cellsOf t) && flatB P n e
    | _ => false
section
variable {H : Type} {enc : TypeId × Value → H} {P : Program} {w : World} {base : Nat} {sp : Nat → Bool} {held : Bool}
theorem fields_cat (m : Nat) (cs : List Value) : ∀ (fs : List Field) (xs : List (DataW H × List MemPlace)) (o e : Nat), contig P fs o = some e → xs.length = fs.length →
    (∀ (i : Nat) (f : Field), fs[i]? = some f → DataW.trod enc P w base sp held m f.type ((cs.drop f.offset).take (P.cellsOf f.type)) = xs[i]?) →
    (∀ f ∈ fs, ∀ cs' x, DataW.trod enc P w base sp held m f.type cs' = some x → lits x.1 = some cs') → o ≤ e ∧ litsL (xs.map (·.1)) = some ((cs.drop o).take (e - o))
  | [], xs, o, e, hc, hl, _, _ => by
    obtain rfl := Option.some.inj hc
    obtain rfl := List.eq_nil_of_length_eq_zero hl
    exact ⟨Nat.le_refl _, by simp [litsL]⟩
  | f :: r, [], o, e, hc, hl, _, _ => by cases hl
  | f :: r, x :: xs, o, e, hc, hl, h, ih => by
    simp only [contig] at hc
    split at hc
    · rename_i ho
      have h0 := h 0 f rfl
      rw [ho] at h0
      have h1 := ih f List.mem_cons_self _ x h0
      obtain ⟨h2, h3⟩ := fields_cat m cs r xs _ e hc (by simpa using hl) (fun i g hg => by
        have := h (i + 1) g (by simpa using hg)
        simpa using this) (fun g hg => ih g (List.mem_cons_of_mem _ hg))
      refine ⟨by omega, ?_⟩
      simp only [List.map_cons, litsL, h1, h3]
      congr 1
      have e1 : e - o = P.cellsOf f.type + (e - (o + P.cellsOf f.type)) := by omega
      rw [e1, List.take_add, List.drop_drop]
    · cases hc
theorem elems_cat (m k : Nat) (ty : TypeId) (cs : List Value) (hk : P.cellsOf ty = k) : ∀ (n : Nat) (xs : List (DataW H × List MemPlace)) (o : Nat), xs.length = n →
    (∀ i, i < n → DataW.trod enc P w base sp held m ty ((cs.drop (o + i * k)).take k) = xs[i]?) →
    (∀ cs' x, DataW.trod enc P w base sp held m ty cs' = some x → lits x.1 = some cs') → litsL (xs.map (·.1)) = some ((cs.drop o).take (n * k))
  | 0, xs, o, hl, _, _ => by
    obtain rfl := List.eq_nil_of_length_eq_zero hl
    simp [litsL]
  | n + 1, [], o, hl, _, _ => by cases hl
  | n + 1, x :: xs, o, hl, h, ih => by
    have h0 := h 0 (Nat.succ_pos _)
    rw [Nat.zero_mul, Nat.add_zero] at h0
    have h1 := ih _ x h0
    have h3 := elems_cat m k ty cs hk n xs (o + k) (by simpa using hl) (fun i hi => by
      have := h (i + 1) (by omega)
      rw [Nat.succ_mul, Nat.add_comm (i * k) k, ← Nat.add_assoc] at this
      simpa using this) ih
    simp only [List.map_cons, litsL, h1, h3]
    congr 1
    rw [Nat.succ_mul, Nat.add_comm (n * k) k, List.take_add, List.drop_drop]
theorem cells_of : ∀ (k m : Nat) (t : TypeId) (cs : List Value) (x : DataW H × List MemPlace), flatB P k t = true → DataW.trod enc P w base sp held m t cs = some x → lits x.1 = some cs
  | 0, _, _, _, _, h, _ => by cases h
  | k + 1, m, t, cs, x, h, hd => by
    unfold flatB at h
    split at h
    · rename_i ht
      obtain ⟨n, rfl, rfl, _⟩ := DataW.trod_int ht hd
      rfl
    · rename_i ht
      obtain ⟨n, rfl, rfl⟩ := DataW.trod_bool ht hd
      rfl
    · rename_i ht
      obtain ⟨s, rfl, rfl, _⟩ := DataW.trod_string ht hd
      cases s with | mk a => simp [lits, ByteArray.toList_eq]
    · rename_i fs ht
      obtain ⟨xs, n, rfl, rfl, hl, hxl, hel⟩ := DataW.trod_struct ht hd
      simp only [Bool.and_eq_true] at h
      obtain ⟨hcon, hall⟩ := h
      cases hc : contig P fs.toList 0 with
      | none => rw [hc] at hcon; cases hcon
      | some e =>
        rw [hc] at hcon
        have he := Nat.eq_of_beq_eq_true hcon
        subst he
        have := (fields_cat n cs fs.toList xs 0 _ hc (by simpa using hxl) (fun i f hf => hel i f (by simpa using hf)) (fun f hf cs' x' hx => cells_of k n f.type cs' x' (List.all_eq_true.1 hall f hf) hx)).2
        simp only [lits, this, List.drop_zero, Nat.sub_zero]
        rw [← hl, List.take_length]
    · rename_i n e ht
      obtain ⟨xs, m', rfl, rfl, hl, hxl, hel⟩ := DataW.trod_array ht hd
      simp only [Bool.and_eq_true] at h
      have he := Nat.eq_of_beq_eq_true h.1
      have := elems_cat m' (P.cellsOf e) e cs rfl n xs 0 hxl (fun i hi => by rw [Nat.zero_add]; exact hel i hi) (fun cs' x' hx => cells_of k m' e cs' x' h.2 hx)
      simp only [lits, this, List.drop_zero, he]
      rw [← hl, List.take_length]
    · cases h
theorem rd_of_laid {g n size m : Nat} {t : TypeId} {cs : Array Value} {d : DataW H} {q : List MemPlace} {vs : List Value} (hf : flatB P 5 t = true) (hv : lits d = some vs) (hn : vs.length = n * size)
    (hd : DataW.trod enc P w base sp held m t cs.toList = some (d, q)) (hcell : ∀ j, w.cell? ⟨g, j, none⟩ = cs[j]?) : Rd size (some ⟨g, 0, none⟩) n vs w := by
  have h := cells_of 5 m t _ _ hf hd
  rw [hv] at h
  have h' := Option.some.inj h
  refine ⟨hn, fun _ => ⟨_, rfl, fun j u hu => ?_⟩⟩
  rw [add_none, Nat.zero_add, hcell j, ← Array.getElem?_toList, ← h']
  exact hu
end
end Go.Proofs.YthkjfepbmnabkaaGreatDoor.Sx
