/- Texts joined: BxS, Dg1, Dg2, Tl6, Dg3, Tabs, SxArg, Laid, Laid2. -/
import Derived.Test.YthkjfepbmnabkaaGreatDoorMPG4
import Derived.Test.YthkjfepbmnabkaaGreatDoorMPG2
import Derived.Below
import Derived.Test.YthkjfepbmnabkaaGreatDoorMPG3
import Derived.OpenShut
import Derived.ChangeArms
import Derived.LaidMore
set_option linter.unusedVariables false
set_option linter.unusedSimpArgs false
/- Secrets made: one word for both ends; a box at its beginning; facts put in another way. -/
namespace Go.Proofs.YthkjfepbmnabkaaGreatDoor.Sx
open Go
attribute [local irreducible] Calls

theorem tri_sat {cx : Cx} {c : Code} {Q : Exit → KT} {n : Nat} {env : Env} {H : List Bk} {F F' : List Fact} (hS : ∀ β w, Sat cx β n H F w → Sat cx β n H F' w) (h : Tri cx c Q n env H F') : Tri cx c Q n env H F :=
  ⟨fun β a w hi => h.run β a w ⟨hi.ag, hi.size, hi.df, hi.lte, hS β w hi.sat⟩⟩
theorem reify_tri {cx : Cx} {c : Code} {Q : Exit → KT} {n : Nat} {env : Env} {H : List Bk} {F : List Fact} (id : Nat) {ty : TypeId} {cs : List SL} (vs : Nat → List Value) (h1 : tyAt H id = some ty) (h2 : cellsAt H id = some cs) (h3 : ∀ b, allV (cs.map (SL.re id b)) = some (vs b))
    (h : ∀ b, Tri cx c Q n (envRe id b env) (bksRe id b H) (bkF b ty (vs b) :: F)) : Tri cx c Q n env H F :=
  tri_join (ι := Nat) (fun _ => True) n (fun b => envRe id b env) (fun b => bksRe id b H) (fun b => bkF b ty (vs b) :: F) (fun b _ => h b) (EntX.reify id vs h1 h2 h3 (fun b => EntX.of b trivial ⟨fun β a w hi => ⟨β, rfl, rfl, hi⟩⟩))
theorem dropIx_ge {js : List Nat} : ∀ {F : List Fact} {i : Nat}, (∀ j ∈ js, j < i) → dropIx js i F = F
  | [], _, _ => rfl
  | f :: r, i, h => by
    have hm : memb js i = false := by
      cases hb : memb js i with
      | false => rfl
      | true => have := h i (memb_mem hb); omega
    simp only [dropIx, hm]
    rw [dropIx_ge (fun j hj => Nat.lt_succ_of_lt (h j hj))]
theorem cut_size' (s : ByteArray) (k : Nat) : (s.extract 0 (min s.size k)).size ≤ k := by
  rw [ByteArray.size_extract]; omega
def box0 (sym : Bool) : Bx.Box := ⟨sym, false, []⟩
def lay0 : Lay := ⟨none, 0, 0, []⟩
theorem box0_inv (sym : Bool) : BInv (box0 sym) := ⟨fun _ q => (by cases q), List.nodup_nil, fun _ q => (by cases q), fun _ => rfl, Nat.zero_le _⟩
theorem Sat.rbx0 {cx : Cx} {β : Va} {n : Nat} {H : List Bk} {F : List Fact} {w : World} {rb : Nat} {sym : Bool} (hs : Sat cx β n H (bkF rb ty_ostiaryref05_Box [.bool sym, .slice none 0 0, .bool false] :: F) w) : Sat cx β n H (rbxF rb (box0 sym) lay0 :: F) w := by
  have h1 := (hs.nilRow ty_ostiaryref05_Term 6).noMem (partsF []) (fun _ h => (by cases h)) (fun k hk => by obtain ⟨p, hp, _⟩ := hk; cases hp)
  have h2 := h1.sep [2, 1, 0] rfl ⟨rfl, rfl, rfl, trivial⟩
  have e : dropIx [2, 1, 0] 0 (partsF [] :: rowF ty_ostiaryref05_Term 6 (.slice none 0 0) 0 [] :: bkF rb ty_ostiaryref05_Box [.bool sym, .slice none 0 0, .bool false] :: F) = F := by
    show dropIx [2, 1, 0] 3 F = F
    exact dropIx_ge (fun j hj => by simp only [List.mem_cons, List.not_mem_nil, or_false] at hj; omega)
  rw [e] at h2
  exact h2
/-- A fact more, that is nowhere. -/
theorem Fin.addO {w w' : World} {Gs : List Fact} {R : Value → List Fact → Prop} {v : Value} (h : Fin w Gs R v w') (f : Fact) (hp : f.p w') (hD : ∀ k, ¬ f.D k) (ho : f.own = true) : Fin w Gs (fun v Fs => ∃ Fs0, R v Fs0 ∧ Fs = f :: Fs0) v w' := by
  obtain ⟨Fs, hR, hc, hm, hown, hDs⟩ := h
  refine ⟨f :: Fs, ⟨Fs, hR, rfl⟩, hc, ⟨fun g hg => ?_, fun g hg k hk => ?_, List.pairwise_cons.2 ⟨fun g _ _ k hk => absurd hk (hD k), hm.sepf⟩⟩, ⟨ho, hown⟩, fun g hg k hk => ?_⟩
  · rcases List.mem_cons.1 hg with rfl | hg
    · exact hp
    · exact hm.fact g hg
  · rcases List.mem_cons.1 hg with rfl | hg
    · exact absurd hk (hD k)
    · exact hm.flt g hg k hk
  · rcases List.mem_cons.1 hg with rfl | hg
    · exact absurd hk (hD k)
    · exact hDs g hg k hk
abbrev nilB : Fact := browF ty_uint8 none [] 0
theorem Con.addNil {P : Program} {k : FuncId} {args : Array Value} {w : World} {Gs : List Fact} {R : Value → List Fact → Prop} (h : Con P k args w Gs R) : Con P k args w Gs (fun v Fs => ∃ Fs0, R v Fs0 ∧ Fs = nilB :: Fs0) :=
  Calls.mono h fun _ _ ⟨v, he, hf⟩ => ⟨v, he, hf.addO nilB ⟨by simp, .inl ⟨rfl, rfl⟩⟩ (fun k hk => by cases hk) rfl⟩
/-- What is made, or nothing. -/
structure MkR where
  e : Int
  salt : List UInt8
  it : Int
  stored : List UInt8
  server : List UInt8
  ha1 : List UInt8
  B : Bx.Box
noncomputable def mkR (B : Bx.Box) (tenant user pass : ByteArray) (salt : List UInt8) (it : Int) : MkR :=
  if mkErr tenant user pass salt.length it = 0 then
    ⟨0, salt, it, (mk3 B (passA pass).1.data.toList salt it.toNat).1, (mk4 B (passA pass).1.data.toList salt it.toNat).1, (mk5 B (passA pass).1.data.toList salt it.toNat (haT (nameA user).1 tenant (passA pass).1).data.toList).1, (mk5 B (passA pass).1.data.toList salt it.toNat (haT (nameA user).1 tenant (passA pass).1).data.toList).2⟩
  else ⟨mkErr tenant user pass salt.length it, [], 0, [], [], [], B⟩
def SecA.is (x : SecA) (r : MkR) : Prop := x.s0 = r.salt ∧ x.it = r.it ∧ x.s1 = r.stored ∧ x.s2 = r.server ∧ x.s3 = r.ha1
def SecA.fs (x : SecA) : List Fact := [browF ty_uint8 x.A3 x.s3 x.c3, browF ty_uint8 x.A2 x.s2 x.c2, browF ty_uint8 x.A1 x.s1 x.c1, browF ty_uint8 x.A0 x.s0 x.c0]
def makeU (F : Bx.Box → Lay → Fact) (r : MkR) (v : Value) (Fs : List Fact) : Prop :=
  ∃ (x : SecA) (y' : Lay), x.is r ∧ v = .tuple #[x.val, .int .i64 r.e] ∧ y'.ts.map (·.1) = r.B.L ∧ Fs = [browF ty_uint8 x.A3 x.s3 x.c3, browF ty_uint8 x.A2 x.s2 x.c2, browF ty_uint8 x.A1 x.s1 x.c1, browF ty_uint8 x.A0 x.s0 x.c0, F r.B y']
theorem makeU_of {P : Program} {k : FuncId} {args : Array Value} {w : World} {Gs : List Fact} {F : Bx.Box → Lay → Fact} {B : Bx.Box} {y : Lay} {tenant user pass : ByteArray} {salt : List UInt8} {it : Int} (hts : y.ts.map (·.1) = B.L) (h : Con P k args w Gs (makeOut F B y tenant user pass salt it)) : Con P k args w Gs (makeU F (mkR B tenant user pass salt it)) := by
  by_cases h0 : mkErr tenant user pass salt.length it = 0
  · refine h.mono fun v Fs k => ?_
    unfold makeOut at k
    rw [if_pos h0] at k
    obtain ⟨A0, c0, A1, c1, A2, c2, A3, c3, y', rfl, h1, rfl⟩ := k
    unfold makeU mkR
    rw [if_pos h0]
    exact ⟨⟨A0, A1, A2, A3, c0, c1, c2, c3, salt, _, _, _, it⟩, y', ⟨rfl, rfl, rfl, rfl, rfl⟩, rfl, h1, rfl⟩
  · refine (((h.addNil).addNil).addNil).addNil.mono fun v Fs k => ?_
    obtain ⟨_, ⟨_, ⟨_, ⟨_, k, rfl⟩, rfl⟩, rfl⟩, rfl⟩ := k
    unfold makeOut at k
    rw [if_neg h0] at k
    obtain ⟨rfl, rfl⟩ := k
    unfold makeU mkR
    rw [if_neg h0]
    exact ⟨⟨none, none, none, none, 0, 0, 0, 0, [], [], [], [], 0⟩, y, ⟨rfl, rfl, rfl, rfl, rfl⟩, rfl, hts, rfl⟩
theorem SecA.same {x y : SecA} {r : MkR} (hx : x.is r) (hy : y.is r) : x.s0 = y.s0 ∧ x.it = y.it ∧ x.s1 = y.s1 ∧ x.s2 = y.s2 ∧ x.s3 = y.s3 :=
  ⟨hx.1.trans hy.1.symm, hx.2.1.trans hy.2.1.symm, hx.2.2.1.trans hy.2.2.1.symm, hx.2.2.2.1.trans hy.2.2.2.1.symm, hx.2.2.2.2.trans hy.2.2.2.2.symm⟩
end Go.Proofs.YthkjfepbmnabkaaGreatDoor.Sx

/- What answers a challenge, by the reference: digits; texts joined. -/
namespace Go.Proofs.YthkjfepbmnabkaaGreatDoor.Sx
open Go
attribute [local irreducible] Calls

def digS : ByteArray := ⟨#[48, 49, 50, 51, 52, 53, 54, 55, 56, 57, 97, 98, 99, 100, 101, 102]⟩
theorem dig_at {k : Nat} (h : k < 16) : digS.extract k (k + 1) = mkS [dgs.getD k 0] := by
  have key : ∀ k : _root_.Fin 16, (digS.extract k.1 (k.1 + 1)).data.toList = [dgs.getD k.1 0] := by decide +kernel
  have := key ⟨k, h⟩
  simp only at this
  have e : digS.extract k (k + 1) = ⟨(digS.extract k (k + 1)).data.toList.toArray⟩ := by cases digS.extract k (k + 1); simp
  rw [e, this]
  rfl
theorem mkS_app (a b : List UInt8) : mkS a ++ mkS b = mkS (a ++ b) := by
  have h : (mkS a ++ mkS b).data.toList = (mkS (a ++ b)).data.toList := by simp [mkS]
  have e : ∀ s : ByteArray, s = ⟨s.data.toList.toArray⟩ := fun s => by cases s; simp
  rw [e (mkS a ++ mkS b), h, ← e]
theorem hexB_snoc2 (l : List UInt8) (x : UInt8) : hexB (l ++ [x]) = hexB l ++ ([dgs.getD (x.toNat / 16) 0] ++ [dgs.getD (x.toNat % 16) 0]) := by rw [hexB_snoc]; simp
theorem rhex_c (w : World) (A : Option Addr) (l : List UInt8) (c : Nat) (hr : Bs w A l) (hn : l.length ≤ 1000000) : Pu Tryz.prog n_ostiaryref01_Hex #[.slice A l.length c] w (.string (mkS (hexB l))) := by
  have g := good_ostiaryref01_Hex w (Un [])
  have hml := maxLen_eq
  refine con_of_sx (cx := cx_ostiaryref01_Hex w (Un [])) g b_ostiaryref01_Hex rfl rfl (β := Va.z) [.c (.v (.slice A l.length c))] 0 [] [oldF w] rfl rfl (old_sat rfl) ?_
  refine loop_rule 0 (fun k : Nat => [(3, .c (.v (.string (mkS (hexB (l.take k)))))), (6, .c (.v (.slice A l.length c))), (7, .c (.v (.int .i64 l.length))), (8, .c (.v (.int .i64 (k : Int))))]) (fun _ => []) (fun _ => [oldF w])
    (fun k => k ≤ l.length) (fun k => l.length - k) 0 (Nat.zero_le _) (Ent.same ⟨rfl, rfl, rfl, rfl, trivial⟩ rfl) g ?_
  intro k hk
  refine BIf.dec (fun hlt => ?_) (fun hge => ?_)
  · have hlt0 : (k : Int) < l.length := hlt
    have hkl : k < l.length := by omega
    obtain ⟨x, hx, hxm⟩ := at_lt hkl
    obtain ⟨ad, hA, _⟩ := hr.2 (by omega)
    have hsn : l.take (k + 1) = l.take k ++ [x] := by rw [List.take_add_one, hx]; rfl
    obtain ⟨m, hm⟩ : ∃ m, x.toNat = m := ⟨_, rfl⟩
    have hm256 : m < 256 := by rw [← hm]; exact x.toNat_lt
    have hhl : (hexB (l.take k)).length = 2 * k := by rw [hexB_len, List.length_take]; omega
    refine ⟨ad, k, hA, rfl, hkl, .int .u8 (m : Int), fun β w' hs => ?_, ?_⟩
    · have h := Rd.old hr (hs.get 0 rfl)
      rw [hA] at h
      rw [← hm]
      exact Rd.cell1 (u := byte x) h (by rw [List.getElem?_map, hx]; rfl)
    refine draw_rule g p_ostiaryref01_Hex_5 (by kernel_rfl) [] [oldF w] Sub.refl ?_
    have e1 : IntKind.u8.wrap ((m : Int).tdiv 16) = ((m / 16 : Nat) : Int) := by
      show IntKind.u8.wrap ((m : Int).tdiv ((16 : Nat) : Int)) = _
      rw [← Int.ofNat_tdiv, wrap_u8]
      omega
    have e2 : (m : Int).tmod 16 = ((m % 16 : Nat) : Int) := (Int.ofNat_tmod m 16).symm
    refine ⟨by decide, _, e1, by decide, _, e1, ((m / 16 + 1 : Nat) : Int), by rw [wrap_u8]; omega, ?_⟩
    refine ⟨m / 16 + 1, m / 16, rfl, rfl, by show m / 16 + 1 ≤ 16; omega, by omega, ?_⟩
    refine ⟨by decide, _, e2, by decide, _, e2, ((m % 16 + 1 : Nat) : Int), by rw [wrap_u8]; omega, ?_⟩
    refine ⟨m % 16 + 1, m % 16, rfl, rfl, by show m % 16 + 1 ≤ 16; omega, by omega, ?_⟩
    have z1 : (digS.extract (m / 16) (m / 16 + 1)).size ≤ 1 := by rw [ByteArray.size_extract]; omega
    have z2 : (digS.extract (m % 16) (m % 16 + 1)).size ≤ 1 := by rw [ByteArray.size_extract]; omega
    have z3 : (mkS (hexB (l.take k))).size ≤ 2000000 := by rw [mkS_size]; omega
    have hf : mkS (hexB (l.take k)) ++ (digS.extract (m / 16) (m / 16 + 1) ++ digS.extract (m % 16) (m % 16 + 1)) = mkS (hexB (l.take (k + 1))) := by
      rw [dig_at (by omega), dig_at (by omega), mkS_app, mkS_app, hsn, hexB_snoc2, hm]
    refine ⟨by show (digS.extract (m / 16) (m / 16 + 1)).size + (digS.extract (m % 16) (m % 16 + 1)).size ≤ maxLen; omega, by show (mkS (hexB (l.take k))).size + (digS.extract (m / 16) (m / 16 + 1) ++ digS.extract (m % 16) (m % 16 + 1)).size ≤ maxLen; rw [ByteArray.size_append]; omega, ?_⟩
    refine ⟨((k + 1 : Nat) : Int), by rw [wrap_i64 (by omega) (by omega)]; rfl, ?_⟩
    refine ⟨k + 1, by omega, by omega, ?_⟩
    rw [← hf]
    exact Ent.same ⟨rfl, rfl, rfl, rfl, trivial⟩ rfl
  · have hge0 : ¬ (k : Int) < l.length := hge
    obtain rfl : k = l.length := by omega
    rw [List.take_length]
    intro β w' hs
    exact hs.fin [] ⟨rfl, rfl⟩
theorem ba_ext {s t : ByteArray} (h : s.data.toList = t.data.toList) : s = t := by
  have e : ∀ s : ByteArray, s = ⟨s.data.toList.toArray⟩ := fun s => by cases s; simp
  rw [e s, e t, h]
theorem join2 (x y : ByteArray) : joinB [x, y] colonS = x ++ colonS ++ y := by
  apply ba_ext
  simp [joinB, Lib.join, colonS, List.intercalate]
theorem join3 (x y z : ByteArray) : joinB [x, y, z] colonS = x ++ colonS ++ y ++ colonS ++ z := by
  apply ba_ext
  simp [joinB, Lib.join, colonS, List.intercalate]
def authS : ByteArray := ⟨#[58, 97, 117, 116, 104, 58]⟩
theorem join6 (h n k c g : ByteArray) : joinB [h, n, k, c, auth, g] colonS = h ++ colonS ++ n ++ colonS ++ k ++ colonS ++ c ++ authS ++ g := by
  apply ba_ext
  simp [joinB, Lib.join, colonS, authS, auth, List.intercalate]
end Go.Proofs.YthkjfepbmnabkaaGreatDoor.Sx

/- What answers a challenge: the program's and the reference's. -/
namespace Go.Proofs.YthkjfepbmnabkaaGreatDoor.Sx
open Go
attribute [local irreducible] Calls

theorem ha1X_c (w : World) (b : Nat) (B : Bx.Box) (y : Lay) (x1 x2 x3 : ByteArray) (hts : y.ts.map (·.1) = B.L) (hi : BInv B) (hL : B.L.length < 4096) (hn : (haT x1 x2 x3).size ≤ 1000000)
    (hm : Mem w [bxF b B y, oddF 2, firstF 0]) :
    Con Tryz.prog n_proof_HA1 #[ptrB b, .string x1, .string x2, .string x3] w [bxF b B y] (outL (bxF b) (hashB B (haT x1 x2 x3).data.toList)) := by
  have e : haT x1 x2 x3 = joinB [x1, x2, x3] colonS := (join3 x1 x2 x3).symm
  rw [e] at hn ⊢
  have g := good_proof_HA1 w (Un [bxF b B y])
  have hs0 : Sat (cx_proof_HA1 w (Un [bxF b B y])) Va.z 0 [] [bxF b B y, oddF 2, firstF 0] w := hm.sat0 rfl (ownIn (Gs := [bxF b B y]) (fun f hf => by
    simp only [List.mem_cons, List.not_mem_nil, or_false] at hf
    rcases hf with rfl | rfl <;> rfl))
  refine con_of_sx (cx := cx_proof_HA1 w (Un [bxF b B y])) g b_proof_HA1 rfl rfl (β := Va.z) [.c (.v (ptrB b)), .c (.v (.string x1)), .c (.v (.string x2)), .c (.v (.string x3))] 0 [] _ rfl rfl hs0 ?_
  intro b1
  refine call_con [] (fun β w' hs => joined_c w' b1 3 [x1, x2, x3] (row_rd (hs.get 0 rfl)) (hs.getLt 0 rfl b1 rfl) (by show 3 ≤ 1000; decide) (Nat.le_refl 3) (Nat.le_trans hn (by decide))) ?_
  rintro v Fs ⟨A, c, rfl, rfl⟩
  intro b2
  refine call_con [3] (R := outL (bxF b) (hashB B (joinB [x1, x2, x3] colonS).data.toList)) (fun β w' hs => by
    have h2 := ((hs.rowRd 0 rfl).unown 1 rfl).part1 (l := (joinB [x1, x2, x3] colonS).data.toList) [0, 1] rfl
    exact hashL_c w' b B y b2 A (joinB [x1, x2, x3] colonS).data.toList c hts hi hL hn (h2.mem.take (js := [4, 0, 5, 6]) rfl)) ?_
  rintro v Fs ⟨A3, c3, y', rfl, q1, q2, q3, rfl⟩
  intro β w' hs
  exact hs.fin [0, 1] ⟨A3, c3, y', rfl, q1, q2, q3, rfl⟩
def ha2T (method : ByteArray) (a : AnsA) : ByteArray := method ++ colonS ++ a.uri
def respS (ha1 : List UInt8) (a : AnsA) (h2 : List UInt8) : ByteArray := hexS ha1 ++ colonS ++ a.nonce ++ colonS ++ hexS (Bx.be4 a.nc) ++ colonS ++ a.cnonce ++ authS ++ hexS h2
noncomputable def resp1 (B : Bx.Box) (method : ByteArray) (a : AnsA) : List UInt8 × Bx.Box := hashB B (ha2T method a).data.toList
noncomputable def resp2 (B : Bx.Box) (ha1 : List UInt8) (method : ByteArray) (a : AnsA) : List UInt8 × Bx.Box := hashB (resp1 B method a).2 (respS ha1 a (resp1 B method a).1).data.toList
structure AnsA.Sm (a : AnsA) : Prop where
  nonce : a.nonce.size ≤ 1000
  uri : a.uri.size ≤ 1000
  cnonce : a.cnonce.size ≤ 1000
  nc : a.nc < 4294967296
theorem hexS_size (l : List UInt8) : (hexS l).size = 2 * l.length := by
  show (hexB l).toArray.size = _
  rw [List.size_toArray, hexB_len]
theorem be4_len (n : Nat) : (Bx.be4 n).length = 4 := rfl
theorem respS_size {ha1 h2 : List UInt8} {a : AnsA} (ha : a.Sm) (h1 : ha1.length = 32) (h3 : h2.length = 32) : (respS ha1 a h2).size ≤ 100000 := by
  have c1 : colonS.size = 1 := rfl
  have c2 : authS.size = 6 := rfl
  have := ha.nonce
  have := ha.cnonce
  simp only [respS, ByteArray.size_append, hexS_size, be4_len]
  omega
theorem ha2T_size {method : ByteArray} {a : AnsA} (hm : method.size ≤ 1000) (ha : a.Sm) : (ha2T method a).size ≤ 100000 := by
  have c1 : colonS.size = 1 := rfl
  have := ha.uri
  simp only [ha2T, ByteArray.size_append]
  omega
set_option maxHeartbeats 2000000 in
theorem respX_c (w : World) (b : Nat) (B : Bx.Box) (y : Lay) (A : Option Addr) (ha1 : List UInt8) (c : Nat) (method : ByteArray) (a : AnsA) (hts : y.ts.map (·.1) = B.L) (hi : BInv B) (hL : B.L.length < 4000) (hl : ha1.length = 32) (hmt : method.size ≤ 1000) (ha : a.Sm)
    (hm : Mem w [bxF b B y, bsF A ha1, oddF 2, firstF 0]) :
    Con Tryz.prog n_proof_Response #[ptrB b, .slice A ha1.length c, .string method, .agg a.cells.toArray] w [bxF b B y] (outL (bxF b) (resp2 B ha1 method a)) := by
  have g := good_proof_Response w (Un [bxF b B y])
  have hs0 : Sat (cx_proof_Response w (Un [bxF b B y])) Va.z 0 [] [bxF b B y, bsF A ha1, oddF 2, firstF 0] w := hm.sat0 rfl (ownIn (Gs := [bxF b B y]) (fun f hf => by
    simp only [List.mem_cons, List.not_mem_nil, or_false] at hf
    rcases hf with rfl | rfl | rfl <;> rfl))
  have hn1 := ha2T_size hmt ha
  have g1 : GoodT B (resp1 B method a) := hash_good hi (by omega) (by show (ha2T method a).size ≤ _; omega)
  have l1 := g1.1.len
  have k1 := g1.2.1
  have hn2 := respS_size (ha1 := ha1) ha hl k1
  refine con_of_sx (cx := cx_proof_Response w (Un [bxF b B y])) g b_proof_Response rfl rfl (β := Va.z) [.c (.v (ptrB b)), .c (.v (.slice A ha1.length c)), .c (.v (.string method)), .agg a.sls] 0 [] _ rfl rfl hs0 ?_
  have e1 : ha2T method a = joinB [method, a.uri] colonS := (join2 _ _).symm
  intro b1
  refine call_con [] (fun β w' hs => joined_c w' b1 2 [method, a.uri] (row_rd (hs.get 0 rfl)) (hs.getLt 0 rfl b1 rfl) (by show 2 ≤ 1000; decide) (Nat.le_refl 2) (Nat.le_trans (by rw [e1] at hn1; exact hn1) (by decide))) ?_
  rintro v Fs ⟨A1, c1, rfl, rfl⟩
  intro b2
  refine call_con [3] (R := outL (bxF b) (resp1 B method a)) (fun β w' hs => by
    have h2 := ((hs.rowRd 0 rfl).unown 1 rfl).part1 (l := (joinB [method, a.uri] colonS).data.toList) [0, 1] rfl
    have h3 := hashL_c w' b B y b2 A1 (joinB [method, a.uri] colonS).data.toList c1 hts hi (by omega) (by rw [e1] at hn1; show (joinB [method, a.uri] colonS).size ≤ _; omega) (h2.mem.take (js := [4, 0, 6, 7]) rfl)
    rw [← e1] at h3
    exact h3) ?_
  rintro v Fs ⟨A2, c2, y1, rfl, q1, q2, hts1, rfl⟩
  have hS : ∀ {n : Nat} {F : List Fact}, Sub (cx_proof_Response w (Un [bxF b B y])) n [⟨0, ty_digest_Answer, a.sls⟩] F [⟨0, ty_digest_Answer, a.sls⟩] [] := fun {n F} => Sub.of (List.Sublist.refl _) (List.nil_sublist _)
  refine draw_rule g p_proof_Response_2 (by kernel_rfl) [⟨0, ty_digest_Answer, a.sls⟩] [] hS ?_
  have hne1 : ha1 ≠ [] := by intro q; rw [q] at hl; cases hl
  have hne2 : (resp1 B method a).1 ≠ [] := by intro q; rw [q] at k1; cases k1
  refine call_pu (fun β w' hs => hex_c w' A ha1 c (hs.get 5 rfl) hne1 (by omega)) ?_
  refine ⟨hS, ?_⟩
  refine call_pu (fun β w' hs => count_c w' a.nc ha.nc) ?_
  refine ⟨hS, ?_⟩
  refine call_pu (fun β w' hs => hex_c w' A2 (resp1 B method a).1 c2 (row_rd (hs.get 0 rfl)) hne2 (by omega)) ?_
  refine ⟨hS, ?_⟩
  intro b3
  refine ⟨hS, ?_⟩
  have e2 : respS ha1 a (resp1 B method a).1 = joinB [hexS ha1, a.nonce, hexS (Bx.be4 a.nc), a.cnonce, auth, hexS (resp1 B method a).1] colonS := (join6 _ _ _ _ _).symm
  refine call_con [] (fun β w' hs => joined_c w' b3 6 [hexS ha1, a.nonce, hexS (Bx.be4 a.nc), a.cnonce, auth, hexS (resp1 B method a).1] (row_rd (hs.get 0 rfl)) (hs.getLt 0 rfl b3 rfl) (by show 6 ≤ 1000; decide) (Nat.le_refl 6) (Nat.le_trans (by rw [e2] at hn2; exact hn2) (by decide))) ?_
  rintro v Fs ⟨A4, c4, rfl, rfl⟩
  refine ⟨hS, ?_⟩
  intro b4
  refine ⟨hS, ?_⟩
  refine call_con [4] (R := outL (bxF b) (resp2 B ha1 method a)) (fun β w' hs => by
    have h2 := ((hs.rowRd 0 rfl).unown 1 rfl).part1 (l := (joinB [hexS ha1, a.nonce, hexS (Bx.be4 a.nc), a.cnonce, auth, hexS (resp1 B method a).1] colonS).data.toList) [0, 1] rfl
    have h3 := hashL_c w' b (resp1 B method a).2 y1 b4 A4 (joinB [hexS ha1, a.nonce, hexS (Bx.be4 a.nc), a.cnonce, auth, hexS (resp1 B method a).1] colonS).data.toList c4 hts1 g1.1.inv (by omega) (by rw [e2] at hn2; exact Nat.le_trans hn2 (by decide)) (h2.mem.take (js := [5, 0, 10, 11]) rfl)
    rw [← e2] at h3
    exact h3) ?_
  rintro v Fs ⟨A5, c5, y2, rfl, q3, q4, hts2, rfl⟩
  refine ⟨hS, ?_⟩
  intro β w' hs
  exact (hs.keepB (List.nil_sublist _)).fin [0, 1] ⟨A5, c5, y2, rfl, q3, q4, hts2, rfl⟩
set_option maxHeartbeats 2000000 in
theorem rrespX_c (w : World) (b : Nat) (B : Bx.Box) (y : Lay) (A : Option Addr) (ha1 : List UInt8) (c : Nat) (method : ByteArray) (a : AnsA) (hts : y.ts.map (·.1) = B.L) (hi : BInv B) (hL : B.L.length < 4000) (hl : ha1.length = 32) (hmt : method.size ≤ 1000) (ha : a.Sm)
    (hm : Mem w [rbxF b B y, bsF A ha1, oddF 3]) :
    Con Tryz.prog n_ostiaryref19_Response #[ptrB b, .slice A ha1.length c, .string method, .agg a.cells.toArray] w [rbxF b B y] (outL (rbxF b) (resp2 B ha1 method a)) := by
  have g := good_ostiaryref19_Response w (Un [rbxF b B y])
  have hml := maxLen_eq
  have hs0 : Sat (cx_ostiaryref19_Response w (Un [rbxF b B y])) Va.z 0 [] [rbxF b B y, bsF A ha1, oddF 3] w := hm.sat0 rfl (ownIn (Gs := [rbxF b B y]) (fun f hf => by
    simp only [List.mem_cons, List.not_mem_nil, or_false] at hf
    rcases hf with rfl | rfl <;> rfl))
  have hn1 := ha2T_size hmt ha
  have g1 : GoodT B (resp1 B method a) := hash_good hi (by omega) (by show (ha2T method a).size ≤ _; omega)
  have l1 := g1.1.len
  have k1 := g1.2.1
  have hn2 := respS_size (ha1 := ha1) ha hl k1
  have c1 : colonS.size = 1 := rfl
  have c6 : authS.size = 6 := rfl
  have a1 := ha.nonce
  have a2 := ha.uri
  have a3 := ha.cnonce
  have a4 := ha.nc
  have x1 := hexS_size ha1
  have x2 : (hexS (Bx.be4 a.nc)).size = 8 := by rw [hexS_size]; rfl
  have x3 := hexS_size (resp1 B method a).1
  refine con_of_sx (cx := cx_ostiaryref19_Response w (Un [rbxF b B y])) g b_ostiaryref19_Response rfl rfl (β := Va.z) [.c (.v (ptrB b)), .c (.v (.slice A ha1.length c)), .c (.v (.string method)), .agg a.sls] 0 [] _ rfl rfl hs0 ?_
  refine ⟨by show method.size + 1 ≤ maxLen; omega, by show (method ++ colonS).size + a.uri.size ≤ maxLen; rw [ByteArray.size_append]; omega, ?_⟩
  intro bm cm hcm _
  refine call_con [1] (R := outL (rbxF b) (resp1 B method a)) (fun β w' hs => rhashL_c w' b B y (some ⟨bm, 0, none⟩) (ha2T method a).data.toList cm hts hi (by omega) (by show (ha2T method a).size ≤ _; omega) ((hs.unown 0 rfl).mem.take (js := [1, 0, 3]) rfl)) ?_
  rintro v Fs ⟨A2, c2, y1, rfl, q1, q2, hts1, rfl⟩
  have hS : ∀ {n : Nat} {F : List Fact}, Sub (cx_ostiaryref19_Response w (Un [rbxF b B y])) n [⟨0, ty_ostiaryref08_Answer, a.sls⟩] F [⟨0, ty_ostiaryref08_Answer, a.sls⟩] [] := fun {n F} => Sub.of (List.Sublist.refl _) (List.nil_sublist _)
  refine draw_rule g p_ostiaryref19_Response_2 (by kernel_rfl) [⟨0, ty_ostiaryref08_Answer, a.sls⟩] [] hS ?_
  refine ⟨(a.nc : Int), by rw [wrap_u64']; omega, ?_⟩
  refine call_pu (v := .string (hexS ha1)) (fun β w' hs => rhex_c w' A ha1 c (hs.get 3 rfl) (by omega)) ?_
  refine ⟨hS, ?_⟩
  refine ⟨by show (hexS ha1).size + 1 ≤ maxLen; omega, by show (hexS ha1 ++ colonS).size + a.nonce.size ≤ maxLen; rw [ByteArray.size_append]; omega, by show (hexS ha1 ++ colonS ++ a.nonce).size + 1 ≤ maxLen; rw [ByteArray.size_append, ByteArray.size_append]; omega, ?_⟩
  refine call_con [] (fun β w' hs => be_con w' a.nc 4 (by omega) (by decide)) ?_
  rintro v Fs ⟨A3, c3, rfl, _, _, rfl⟩
  refine ⟨hS, ?_⟩
  refine call_pu (v := .string (hexS (Bx.be4 a.nc))) (fun β w' hs => by
    have h := rhex_c w' A3 (be 4 a.nc) c3 (row_rd (hs.get 0 rfl)) (by rw [be_length]; decide)
    rw [be_length, be4_eq] at h
    exact h) ?_
  refine ⟨hS, ?_⟩
  refine ⟨by show (hexS ha1 ++ colonS ++ a.nonce ++ colonS).size + (hexS (Bx.be4 a.nc)).size ≤ maxLen; simp only [ByteArray.size_append]; omega, by show (hexS ha1 ++ colonS ++ a.nonce ++ colonS ++ hexS (Bx.be4 a.nc)).size + 1 ≤ maxLen; simp only [ByteArray.size_append]; omega, by show (hexS ha1 ++ colonS ++ a.nonce ++ colonS ++ hexS (Bx.be4 a.nc) ++ colonS).size + a.cnonce.size ≤ maxLen; simp only [ByteArray.size_append]; omega, by show (hexS ha1 ++ colonS ++ a.nonce ++ colonS ++ hexS (Bx.be4 a.nc) ++ colonS ++ a.cnonce).size + 6 ≤ maxLen; simp only [ByteArray.size_append]; omega, ?_⟩
  refine call_pu (v := .string (hexS (resp1 B method a).1)) (fun β w' hs => rhex_c w' A2 (resp1 B method a).1 c2 (row_rd (hs.get 1 rfl)) (by omega)) ?_
  refine ⟨hS, ?_⟩
  refine ⟨by show (hexS ha1 ++ colonS ++ a.nonce ++ colonS ++ hexS (Bx.be4 a.nc) ++ colonS ++ a.cnonce ++ authS).size + (hexS (resp1 B method a).1).size ≤ maxLen; simp only [ByteArray.size_append]; omega, ?_⟩
  intro b4 c4 hc4 _
  refine ⟨hS, ?_⟩
  refine call_con [3] (R := outL (rbxF b) (resp2 B ha1 method a)) (fun β w' hs => rhashL_c w' b (resp1 B method a).2 y1 (some ⟨b4, 0, none⟩) (respS ha1 a (resp1 B method a).1).data.toList c4 hts1 g1.1.inv (by omega) (by show (respS ha1 a (resp1 B method a).1).size ≤ _; omega) ((hs.unown 0 rfl).mem.take (js := [3, 0, 6]) rfl)) ?_
  rintro v Fs ⟨A5, c5, y2, rfl, q3, q4, hts2, rfl⟩
  refine ⟨hS, ?_⟩
  intro β w' hs
  exact (hs.keepB (List.nil_sublist _)).fin [0, 1] ⟨A5, c5, y2, rfl, q3, q4, hts2, rfl⟩
end Go.Proofs.YthkjfepbmnabkaaGreatDoor.Sx

/- A script, read. -/
namespace Go.Proofs.YthkjfepbmnabkaaGreatDoor.Sx
open Go
attribute [local irreducible] Calls

theorem len_cons {l : List Value} {n : Nat} (h : l.length = n + 1) : ∃ a r, l = a :: r ∧ r.length = n := by
  cases l with
  | nil => cases h
  | cons a r => exact ⟨a, r, rfl, by simpa using h⟩
end Go.Proofs.YthkjfepbmnabkaaGreatDoor.Sx

/- ProofDigests. -/
namespace Go.Proofs.YthkjfepbmnabkaaGreatDoor.Sx
open Go
attribute [local irreducible] Calls

theorem resp_good {B : Bx.Box} (hi : BInv B) (hL : B.L.length < 4000) {ha1 : List UInt8} {method : ByteArray} {a : AnsA} (hl : ha1.length = 32) (hmt : method.size ≤ 1000) (ha : a.Sm) : BInv (resp2 B ha1 method a).2 ∧ (resp2 B ha1 method a).2.L.length ≤ B.L.length + 2 := by
  have hn1 := ha2T_size hmt ha
  have g1 : GoodT B (resp1 B method a) := hash_good hi (by omega) (by show (ha2T method a).size ≤ _; omega)
  have l1 := g1.1.len
  have hn2 := respS_size (ha1 := ha1) ha hl g1.2.1
  have g2 : GoodT (resp1 B method a).2 (resp2 B ha1 method a) := hash_good g1.1.inv (by omega) (by show (respS ha1 a (resp1 B method a).1).size ≤ _; omega)
  have l2 := g2.1.len
  exact ⟨g2.1.inv, by omega⟩
/-- An answer that is an argument. -/
theorem ans_of {w : World} {m : Nat} {cs : List Value} (ho : Opens Tryz.prog w m ty_ostiaryref08_Answer cs) : ∃ a : AnsA, cs = a.cells ∧ a.nonce.size ≤ maxLen ∧ a.uri.size ≤ maxLen ∧ a.cnonce.size ≤ maxLen ∧ a.nc < 4294967296 := by
  have cO : Tryz.prog.cellsOf ty_ostiaryref08_Answer = 8 := by kernel_rfl
  have cU : Tryz.prog.cellsOf ty_uint32 = 1 := by kernel_rfl
  have cT : Tryz.prog.cellsOf ty_string = 1 := by kernel_rfl
  obtain ⟨m3, hl, hf⟩ := ho.structT (ok25) rfl
  have f0 := hf 0 0 1 ty_string rfl rfl
  have f1 := hf 1 1 1 ty_string rfl rfl
  have f2 := hf 2 2 1 ty_string rfl rfl
  have f3 := hf 3 3 1 ty_string rfl rfl
  have f4 := hf 4 4 1 ty_string rfl rfl
  have f5 := hf 5 5 1 ty_string rfl rfl
  have f6 := hf 6 6 1 ty_uint32 rfl rfl
  rw [cO] at hl
  rw [cT] at f0 f1 f2 f3 f4 f5
  rw [cU] at f6
  obtain ⟨x0, r0, rfl, k0⟩ := len_cons hl
  obtain ⟨x1, r1, rfl, k1⟩ := len_cons k0
  obtain ⟨x2, r2, rfl, k2⟩ := len_cons k1
  obtain ⟨x3, r3, rfl, k3⟩ := len_cons k2
  obtain ⟨x4, r4, rfl, k4⟩ := len_cons k3
  obtain ⟨x5, r5, rfl, k5⟩ := len_cons k4
  obtain ⟨x6, r6, rfl, k6⟩ := len_cons k5
  obtain ⟨x7, r7, rfl, k7⟩ := len_cons k6
  obtain rfl := List.eq_nil_of_length_eq_zero k7
  have tS := (ok9).real (d := .string) rfl rfl
  obtain ⟨s0, e0, _⟩ := f0.str tS
  obtain ⟨s1, e1, _⟩ := f1.str tS
  obtain ⟨s2, e2, h2⟩ := f2.str tS
  obtain ⟨s3, e3, h3⟩ := f3.str tS
  obtain ⟨s4, e4, h4⟩ := f4.str tS
  obtain ⟨s5, e5, _⟩ := f5.str tS
  obtain ⟨n, e6, n0, n1⟩ := f6.int ((ok22).real (d := .int .u32) rfl rfl)
  simp at e0 e1 e2 e3 e4 e5 e6
  subst e0 e1 e2 e3 e4 e5 e6
  have hmn : IntKind.u32.min = 0 := rfl
  have hmx : IntKind.u32.max = 4294967295 := rfl
  obtain ⟨k, rfl⟩ : ∃ k : Nat, n = (k : Int) := ⟨n.toNat, by omega⟩
  exact ⟨⟨s0, s1, s2, s3, s4, s5, k, x7⟩, rfl, h2, h3, h4, by show k < _; omega⟩
set_option maxHeartbeats 4000000 in
theorem proofDigests_c (w : World) (sym : Bool) (u0 r0 p0 m0 : ByteArray) (a0 : AnsA) (hu0 : u0.size ≤ maxLen) (hr0 : r0.size ≤ maxLen) (hp0 : p0.size ≤ maxLen) (hm0 : m0.size ≤ maxLen) (ha0 : a0.nonce.size ≤ maxLen ∧ a0.uri.size ≤ maxLen ∧ a0.cnonce.size ≤ maxLen ∧ a0.nc < 4294967296)
    (hm : Mem w [oddF 2, firstF 0, oddF 3, namF]) :
    Con Tryz.prog n_ostiarylaw19_ProofDigests #[.bool sym, .string u0, .string r0, .string p0, .string m0, .agg a0.cells.toArray] w [] fun v Fs => v = .bool true ∧ Fs = [] := by
  have g := good_ostiarylaw19_ProofDigests w (Un [])
  have hml := maxLen_eq
  have hs0 : Sat (cx_ostiarylaw19_ProofDigests w (Un [])) Va.z 0 [] [oddF 2, firstF 0, oddF 3, namF] w := hm.sat0 rfl (ownIn (Gs := []) (fun f hf => by
    simp only [List.mem_cons, List.not_mem_nil, or_false] at hf
    rcases hf with rfl | rfl | rfl | rfl <;> rfl))
  refine con_of_tri (cx := cx_ostiarylaw19_ProofDigests w (Un [])) g b_ostiarylaw19_ProofDigests rfl rfl (β := Va.z) [.c (.v (.bool sym)), .c (.v (.string u0)), .c (.v (.string r0)), .c (.v (.string p0)), .c (.v (.string m0)), .agg a0.sls] 0 [] _ rfl rfl hs0 ?_
  refine tri_seq g ?_
  refine tri_seq g ?_
  refine call_pu (fun β w' hs => awake19_c w' (hs.get 0 rfl) (hs.get 1 rfl)) ?_
  refine tri_seq g ?_
  refine call_pu (fun β w' hs => cutText_c w' u0 40 hu0 (by decide)) ?_
  refine call_pu (fun β w' hs => cutText_c w' r0 40 hr0 (by decide)) ?_
  refine call_pu (fun β w' hs => cutText_c w' p0 40 hp0 (by decide)) ?_
  refine call_pu (fun β w' hs => cutText_c w' m0 20 hm0 (by decide)) ?_
  have z0 := cut_size' u0 40
  have z1 := cut_size' r0 40
  have z2 := cut_size' p0 40
  have z3 := cut_size' m0 20
  generalize u0.extract 0 (min u0.size 40) = u at z0 ⊢
  generalize r0.extract 0 (min r0.size 40) = r at z1 ⊢
  generalize p0.extract 0 (min p0.size 40) = p at z2 ⊢
  generalize m0.extract 0 (min m0.size 20) = mt at z3 ⊢
  refine tri_seq g ?_
  have hS0 : ∀ {n : Nat} {F : List Fact}, Sub (cx_ostiarylaw19_ProofDigests w (Un [])) n [⟨0, ty_ostiaryref08_Answer, a0.sls⟩] F [⟨0, ty_ostiaryref08_Answer, a0.sls⟩] [] := fun {n F} => Sub.of (List.Sublist.refl _) (List.nil_sublist _)
  refine draw_rule g p_ostiarylaw19_ProofDigests_4 (by kernel_rfl) [⟨0, ty_ostiaryref08_Answer, a0.sls⟩] [] hS0 ?_
  refine call_pu (fun β w' hs => cutText_c w' a0.uri 60 ha0.2.1 (by decide)) ?_
  refine ⟨hS0, ?_⟩
  refine call_pu (fun β w' hs => cutText_c w' a0.nonce 60 ha0.1 (by decide)) ?_
  refine ⟨hS0, ?_⟩
  refine call_pu (fun β w' hs => cutText_c w' a0.cnonce 60 ha0.2.2.1 (by decide)) ?_
  refine ⟨hS0, ?_⟩
  have z4 := cut_size' a0.uri 60
  have z5 := cut_size' a0.nonce 60
  have z6 := cut_size' a0.cnonce 60
  obtain ⟨a1, ha1⟩ : ∃ a1 : AnsA, AnsA.mk a0.user a0.realm (a0.nonce.extract 0 (min a0.nonce.size 60)) (a0.uri.extract 0 (min a0.uri.size 60)) (a0.cnonce.extract 0 (min a0.cnonce.size 60)) a0.opaq a0.nc a0.proof = a1 := ⟨_, rfl⟩
  have hsm : a1.Sm := by
    subst ha1
    exact ⟨by show (a0.nonce.extract 0 (min a0.nonce.size 60)).size ≤ 1000; omega, by show (a0.uri.extract 0 (min a0.uri.size 60)).size ≤ 1000; omega, by show (a0.cnonce.extract 0 (min a0.cnonce.size 60)).size ≤ 1000; omega, ha0.2.2.2⟩
  have hsl : [SL.v (.string a0.user), .v (.string a0.realm), .v (.string (a0.nonce.extract 0 (min a0.nonce.size 60))), .v (.string (a0.uri.extract 0 (min a0.uri.size 60))), .v (.string (a0.cnonce.extract 0 (min a0.cnonce.size 60))), .v (.string a0.opaq), .v (.int .u32 a0.nc), .v a0.proof] = a1.sls := by subst ha1; rfl
  refine tri_join (ι := Unit) (fun _ => True) 1 (fun _ => [(0, .c (.v (.bool sym))), (1, .c (.v (.string u))), (2, .c (.v (.string r))), (3, .c (.v (.string p))), (4, .c (.v (.string mt))), (11, .c (.p 0 0))]) (fun _ => [⟨0, ty_ostiaryref08_Answer, [SL.v (.string a0.user), .v (.string a0.realm), .v (.string (a0.nonce.extract 0 (min a0.nonce.size 60))), .v (.string (a0.uri.extract 0 (min a0.uri.size 60))), .v (.string (a0.cnonce.extract 0 (min a0.cnonce.size 60))), .v (.string a0.opaq), .v (.int .u32 a0.nc), .v a0.proof]⟩]) (fun _ => [oddF 2, firstF 0, oddF 3, namF]) ?_ (EntX.of () trivial (Ent.mk' ⟨rfl, rfl, rfl, rfl, rfl, rfl, trivial⟩ rfl (fun β w' hs => hs)))
  rintro ⟨⟩ -
  rw [hsl]
  clear hsl ha1 hS0 z4 z5 z6
  refine tri_seq g ?_
  refine call_con [] (fun β w' hs => newX_c w' sym) ?_
  rintro v Fs ⟨b, y0, rfl, hy0, rfl⟩
  refine reify_tri 1 (fun _ => [.bool sym, .slice none 0 0, .bool false]) rfl rfl (fun _ => rfl) (fun rb => ?_)
  refine tri_sat (fun β w' hs => hs.rbx0) ?_
  have hT := haT_size u r p
  have g1 : GoodT (box0 sym) (hashB (box0 sym) (haT u r p).data.toList) := hash_good (box0_inv sym) (by show 0 < 4096; decide) (by show (haT u r p).size ≤ _; omega)
  refine tri_seq g ?_
  refine call_con [1] (R := outL (bxF b) (hashB (box0 sym) (haT u r p).data.toList)) (fun β w' hs => ha1X_c w' b (box0 sym) y0 u r p (by rw [hy0]; rfl) (box0_inv sym) (by show 0 < 4096; decide) (by omega) (hs.mem.take (js := [1, 2, 3]) rfl)) ?_
  rintro v Fs ⟨A1, c1, y1, rfl, q1, q2, hts1, rfl⟩
  refine tri_seq g ?_
  have hcs : colonS.size = 1 := rfl
  refine ⟨by show u.size + 1 ≤ maxLen; omega, by show (u ++ colonS).size + r.size ≤ maxLen; rw [ByteArray.size_append]; omega, by show (u ++ colonS ++ r).size + 1 ≤ maxLen; rw [ByteArray.size_append, ByteArray.size_append]; omega, by show (u ++ colonS ++ r ++ colonS).size + p.size ≤ maxLen; rw [ByteArray.size_append, ByteArray.size_append, ByteArray.size_append]; omega, ?_⟩
  intro bt ct hct _
  refine call_con [3] (R := outL (rbxF rb) (hashB (box0 sym) (haT u r p).data.toList)) (fun β w' hs => rhashL_c w' rb (box0 sym) lay0 (some ⟨bt, 0, none⟩) (haT u r p).data.toList ct rfl (box0_inv sym) (by show 0 < 4096; decide) (by show (haT u r p).size ≤ _; omega) ((hs.unown 0 rfl).mem.take (js := [3, 0, 6]) rfl)) ?_
  rintro v Fs ⟨A2, c2, y2, rfl, q3, q4, hts2, rfl⟩
  generalize hashB (box0 sym) (haT u r p).data.toList = r1 at *
  obtain ⟨h, B1⟩ := r1
  obtain ⟨g1e, g1l, _⟩ := g1
  have hl1 : B1.L.length ≤ 1 := g1e.len
  have hi1 : BInv B1 := g1e.inv
  simp only at *
  refine call_pu (v := .bool true) (fun β w' hs => by
    have k1 := pu_of (same_c w' A1 A2 h h c1 c2 (row_rd (hs.get 3 rfl)) (row_rd (hs.get 0 rfl)))
    rw [decide_eq_true rfl] at k1
    exact k1) ?_
  refine tri_sat (fun β w' hs => hs.perm [3, 1, 4, 5, 6, 7, 8]) ?_
  refine tri_seq g ?_
  have hS : ∀ {n : Nat} {F : List Fact}, Sub (cx_ostiarylaw19_ProofDigests w (Un [])) n [⟨0, ty_ostiaryref08_Answer, a1.sls⟩] F [⟨0, ty_ostiaryref08_Answer, a1.sls⟩] [] := fun {n F} => Sub.of (List.Sublist.refl _) (List.nil_sublist _)
  refine draw_rule g p_ostiarylaw19_ProofDigests_9 (by kernel_rfl) [⟨0, ty_ostiaryref08_Answer, a1.sls⟩] [] hS ?_
  have hrg := resp_good hi1 (by omega) (ha1 := h) (method := mt) g1l (by omega) hsm
  refine call_con [2] (R := outL (bxF b) (resp2 B1 h mt a1)) (fun β w' hs => respX_c w' b B1 y1 A1 h c1 mt a1 hts1 hi1 (by omega) g1l (by omega) hsm ((hs.ro 0 rfl).mem.take (js := [2, 0, 3, 4]) rfl)) ?_
  rintro v Fs ⟨A3, c3, y3, rfl, q5, q6, hts3, rfl⟩
  refine ⟨hS, ?_⟩
  refine call_con [3] (R := outL (rbxF rb) (resp2 B1 h mt a1)) (fun β w' hs => rrespX_c w' rb B1 y2 A1 h c1 mt a1 hts2 hi1 (by omega) g1l (by omega) hsm ((hs.ro 2 rfl).mem.take (js := [3, 2, 6]) rfl)) ?_
  rintro v Fs ⟨A4, c4, y4, rfl, q7, q8, hts4, rfl⟩
  generalize resp2 B1 h mt a1 = r2 at *
  obtain ⟨h2, B2⟩ := r2
  simp only at *
  obtain ⟨hi2, hl2⟩ := hrg
  refine ⟨hS, ?_⟩
  refine call_pu (v := .bool true) (fun β w' hs => by
    have k1 := pu_of (same_c w' A3 A4 h2 h2 c3 c4 (row_rd (hs.get 2 rfl)) (row_rd (hs.get 0 rfl)))
    rw [decide_eq_true rfl] at k1
    exact k1) ?_
  refine ⟨hS, ?_⟩
  refine tri_seq g ?_
  intro bs
  refine call_con [4] (R := makeU (bxF b) (mkR B2 r u p [1] 1)) (fun β w' hs => makeU_of hts3 (make_c w' b B2 y3 r u p (some ⟨bs, 0, none⟩) [1] 1 1 hts3 hi2 (by omega) (by omega) (by omega) (by omega) (by decide) ((hs.ro 0 rfl).mem.take (js := [4, 0, 6, 7, 9]) rfl))) ?_
  rintro v Fs ⟨x, y5, hx, rfl, hts5, rfl⟩
  refine tri_seq g ?_
  intro bs2
  refine call_con [8] (R := makeU (rbxF rb) (mkR B2 r u p [1] 1)) (fun β w' hs => makeU_of hts4 (rmake_c w' rb B2 y4 r u p (some ⟨bs2, 0, none⟩) [1] 1 1 hts4 hi2 (by omega) (by omega) (by omega) (by omega) (by decide) ((hs.ro 0 rfl).mem.take (js := [8, 0, 13]) rfl))) ?_
  rintro v Fs ⟨x2, y6, hx2, rfl, hts6, rfl⟩
  have hsame := (SecA.same hx hx2).2.2.2.2
  generalize mkR B2 r u p [1] 1 = r3 at *
  obtain ⟨e, _, _, _, _, _, B3⟩ := r3
  simp only at hts5 hts6
  clear hx hx2
  refine tri_of g ?_
  refine BIf.dec (fun _ => ?_) (fun h => absurd rfl h)
  refine BIf.not (BIf.dec (fun _ => ?_) (fun _ => ?_))
  · refine call_pu (v := .bool true) (fun β w' hs => by
      have k1 := pu_of (same_c w' x.A3 x2.A3 x.s3 x2.s3 x.c3 x2.c3 (row_rd (hs.get 6 rfl)) (row_rd (hs.get 0 rfl)))
      rw [decide_eq_true hsame] at k1
      exact k1) ?_
    intro β w' hs
    exact (hs.keepB (List.nil_sublist _)).fin [] ⟨rfl, rfl⟩
  · intro β w' hs
    exact (hs.keepB (List.nil_sublist _)).fin [] ⟨rfl, rfl⟩
end Go.Proofs.YthkjfepbmnabkaaGreatDoor.Sx

/- What a law begins with: tables, and what is only read. -/
namespace Go.Proofs.YthkjfepbmnabkaaGreatDoor.Sx
open Go

def RoOk (w : World) (f : Fact) : Prop := f.own = false ∧ f.p w ∧ ∀ k, f.D k → k < w.heap.size
theorem mem_ro {w : World} {Fs : List Fact} (h : ∀ f ∈ Fs, RoOk w f) : Mem w Fs := by
  refine ⟨fun f hf => (h f hf).2.1, fun f hf k hk => (h f hf).2.2 k hk, ?_⟩
  induction Fs with
  | nil => exact List.Pairwise.nil
  | cons f r ih =>
    refine List.pairwise_cons.2 ⟨fun g hg q => ?_, ih (fun g hg => h g (List.mem_cons_of_mem _ hg))⟩
    rcases q with q | q
    · rw [(h f List.mem_cons_self).1] at q; cases q
    · rw [(h g (List.mem_cons_of_mem _ hg)).1] at q; cases q
theorem rd_ok {w : World} {size : Nat} {A : Option Addr} {k : Nat} {xs : List Value} (h : Rd size A k xs w) : RoOk w (rdF size A k xs) := ⟨rfl, h, rd_lt h⟩
theorem nam_ok {w : World} (f : Forms 7 w) (s5 : (spansF 5 blanksL).p w) (s6 : (spansF 6 nothingL).p w) (s4 : (spansF 4 barredL).p w) : RoOk w namF := by
  refine ⟨rfl, fun g hg => ?_, fun k hk => ?_⟩
  · simp only [List.mem_cons, List.not_mem_nil, or_false] at hg
    rcases hg with rfl | rfl | rfl | rfl
    · exact f
    · exact s5
    · exact s6
    · exact s4
  · obtain ⟨g, hg, hk⟩ := hk
    simp only [List.mem_cons, List.not_mem_nil, or_false] at hg
    rcases hg with rfl | rfl | rfl | rfl
    · exact rd_lt f k hk
    · exact rd_lt s5 k hk
    · exact rd_lt s6 k hk
    · exact rd_lt s4 k hk
theorem ro_nil {w : World} : ∀ f ∈ ([] : List Fact), RoOk w f := fun f h => by cases h
theorem ro_cons {w : World} {f : Fact} {r : List Fact} (h1 : RoOk w f) (h2 : ∀ g ∈ r, RoOk w g) : ∀ g ∈ f :: r, RoOk w g := fun g hg => by
  rcases List.mem_cons.1 hg with rfl | hg
  · exact h1
  · exact h2 g hg
end Go.Proofs.YthkjfepbmnabkaaGreatDoor.Sx

/- What a statement's proof has of its arguments, in this executor's words. -/
namespace Go.Proofs.YthkjfepbmnabkaaGreatDoor.Sx
open Go Go.RowKit

theorem below_of {w w' : World} (h : Chg None_ w w') : Below w.heap.size w w' :=
  ⟨h.os, h.tape, h.output, h.size, fun k hk => h.same k hk (fun q => q)⟩
end Go.Proofs.YthkjfepbmnabkaaGreatDoor.Sx

/- Tables that are laid: what their cells are. -/
namespace Go.Proofs.YthkjfepbmnabkaaGreatDoor.Sx
open Go

theorem rd_of_ints {H : Type} {enc : TypeId × Value → H} {P : Program} {W : World} {base : Nat} {sp : Nat → Bool} {held : Bool} {fuel g n : Nat} {t e : TypeId} {k : IntKind} {cs : Array Value} {zs : List Int} {q : List MemPlace}
    (ht : P.underlying t = some (.array n e)) (he : P.underlying e = some (.int k)) (hc : P.cellsOf e = 1) (hd : DataW.trod enc P W base sp held fuel t cs.toList = some (.agg (zs.map fun z => .lit (.int k z)), q)) (hcell : ∀ j, W.cell? ⟨g, j, none⟩ = cs[j]?) :
    Rd 1 (some ⟨g, 0, none⟩) zs.length (zs.map (Value.int k)) W := by
  obtain ⟨xs, m, _, hx, hlen, hn, hel⟩ := DataW.trod_array ht hd
  simp only [Prod.mk.injEq, DataW.agg.injEq] at hx
  have hzn : zs.length = n := by
    have h9 := congrArg List.length hx.1
    simp only [List.length_map] at h9
    omega
  refine ⟨by simp, fun hp => ⟨_, rfl, fun j u hu => ?_⟩⟩
  rw [List.getElem?_map] at hu
  obtain ⟨z, hz, rfl⟩ := Option.map_eq_some_iff.1 hu
  have hj : j < zs.length := (List.getElem?_eq_some_iff.1 hz).1
  have h1 := hel j (by omega)
  have h2 : (xs.map (·.1))[j]? = some (.lit (.int k z)) := by rw [← hx.1, List.getElem?_map, hz]; rfl
  rw [List.getElem?_map] at h2
  obtain ⟨x, hxj, hx1⟩ := Option.map_eq_some_iff.1 h2
  rw [hxj, hc, Nat.mul_one] at h1
  obtain ⟨y, e1, e2, _⟩ := DataW.trod_int he h1
  have hy : y = z := by
    rw [e2] at hx1
    simpa using hx1
  subst hy
  rw [add_none, Nat.zero_add, hcell j, ← Array.getElem?_toList]
  have h3 := congrArg (fun l => l[0]?) e1
  simpa [List.getElem?_drop] using h3
theorem opens_string {P : Program} {w : World} {m : Nat} {t : TypeId} {s : ByteArray} (ht : P.underlying t = some .string) (h : Opens P w m t (Value.cells (.string s)).toList) : s.size ≤ maxLen := by
  cases m with
  | zero => exact h.elim
  | succ m =>
    unfold Opens at h
    rw [ht] at h
    obtain ⟨s', h1, h2⟩ := h
    simp [Value.cells] at h1
    subst h1
    exact h2
abbrev u32s (l : List UInt32) : List Int := l.map fun x => (x.toNat : Int)
theorem rd_u32 {g : Nat} {W : World} {l : List UInt32} (h : Rd 1 (some ⟨g, 0, none⟩) (u32s l).length ((u32s l).map (Value.int .u32)) W) : Rd 1 (some ⟨g, 0, none⟩) l.length (l.map u32) W := by
  have e : (u32s l).map (Value.int .u32) = l.map u32 := by rw [List.map_map]; rfl
  rw [e, List.length_map] at h
  exact h
end Go.Proofs.YthkjfepbmnabkaaGreatDoor.Sx

/- Tables that are laid, of any plain types: their cells are what they hold, in order. -/
namespace Go.Proofs.YthkjfepbmnabkaaGreatDoor.Sx
open Go

mutual
def lits {H : Type} : DataW H → Option (List Value)
  | .lit (.int k n) => some [.int k n]
  | .lit (.bool b) => some [.bool b]
  | .lit (.string l) => some [.string ⟨l.toArray⟩]
  | .agg ps => litsL ps
  | _ => none
def litsL {H : Type} : List (DataW H) → Option (List Value)
  | [] => some []
  | d :: r => match lits d, litsL r with
    | some a, some b => some (a ++ b)
    | _, _ => none
end
def contig (P : Program) : List Field → Nat → Option Nat
  | [], o => some o
  | f :: r, o => if f.offset = o then contig P r (o + P.cellsOf f.type) else none
def flatB (P : Program) : Nat → TypeId → Bool
  | 0, _ => false
  | n + 1, t => match P.underlying t with
    | some (.int _) | some .bool | some .string => true
    | some (.struct fs) => (match contig P fs.toList 0 with | some e => Nat.beq e (P.cellsOf t) | none => false) && fs.toList.all fun f => flatB P n f.type
    | some (.array m e) => Nat.beq (m * P.cellsOf e) (P.cellsOf t) && flatB P n e
    | _ => false
section
variable {H : Type} {enc : TypeId × Value → H} {P : Program} {w : World} {base : Nat} {sp : Nat → Bool} {held : Bool}
theorem fields_cat (m : Nat) (cs : List Value) : ∀ (fs : List Field) (xs : List (DataW H × List MemPlace)) (o e : Nat), contig P fs o = some e → xs.length = fs.length →
    (∀ (i : Nat) (f : Field), fs[i]? = some f → DataW.trod enc P w base sp held m f.type ((cs.drop f.offset).take (P.cellsOf f.type)) = xs[i]?) →
    (∀ f ∈ fs, ∀ cs' x, DataW.trod enc P w base sp held m f.type cs' = some x → lits x.1 = some cs') → o ≤ e ∧ litsL (xs.map (·.1)) = some ((cs.drop o).take (e - o))
  | [], xs, o, e, hc, hl, _, _ => by
    obtain rfl := Option.some.inj hc
    obtain rfl := List.eq_nil_of_length_eq_zero hl
    exact ⟨Nat.le_refl _, by simp [litsL]⟩
  | f :: r, [], o, e, hc, hl, _, _ => by cases hl
  | f :: r, x :: xs, o, e, hc, hl, h, ih => by
    simp only [contig] at hc
    split at hc
    · rename_i ho
      have h0 := h 0 f rfl
      rw [ho] at h0
      have h1 := ih f List.mem_cons_self _ x h0
      obtain ⟨h2, h3⟩ := fields_cat m cs r xs _ e hc (by simpa using hl) (fun i g hg => by
        have := h (i + 1) g (by simpa using hg)
        simpa using this) (fun g hg => ih g (List.mem_cons_of_mem _ hg))
      refine ⟨by omega, ?_⟩
      simp only [List.map_cons, litsL, h1, h3]
      congr 1
      have e1 : e - o = P.cellsOf f.type + (e - (o + P.cellsOf f.type)) := by omega
      rw [e1, List.take_add, List.drop_drop]
    · cases hc
theorem elems_cat (m k : Nat) (ty : TypeId) (cs : List Value) (hk : P.cellsOf ty = k) : ∀ (n : Nat) (xs : List (DataW H × List MemPlace)) (o : Nat), xs.length = n →
    (∀ i, i < n → DataW.trod enc P w base sp held m ty ((cs.drop (o + i * k)).take k) = xs[i]?) →
    (∀ cs' x, DataW.trod enc P w base sp held m ty cs' = some x → lits x.1 = some cs') → litsL (xs.map (·.1)) = some ((cs.drop o).take (n * k))
  | 0, xs, o, hl, _, _ => by
    obtain rfl := List.eq_nil_of_length_eq_zero hl
    simp [litsL]
  | n + 1, [], o, hl, _, _ => by cases hl
  | n + 1, x :: xs, o, hl, h, ih => by
    have h0 := h 0 (Nat.succ_pos _)
    rw [Nat.zero_mul, Nat.add_zero] at h0
    have h1 := ih _ x h0
    have h3 := elems_cat m k ty cs hk n xs (o + k) (by simpa using hl) (fun i hi => by
      have := h (i + 1) (by omega)
      rw [Nat.succ_mul, Nat.add_comm (i * k) k, ← Nat.add_assoc] at this
      simpa using this) ih
    simp only [List.map_cons, litsL, h1, h3]
    congr 1
    rw [Nat.succ_mul, Nat.add_comm (n * k) k, List.take_add, List.drop_drop]
theorem cells_of : ∀ (k m : Nat) (t : TypeId) (cs : List Value) (x : DataW H × List MemPlace), flatB P k t = true → DataW.trod enc P w base sp held m t cs = some x → lits x.1 = some cs
  | 0, _, _, _, _, h, _ => by cases h
  | k + 1, m, t, cs, x, h, hd => by
    unfold flatB at h
    split at h
    · rename_i ht
      obtain ⟨n, rfl, rfl, _⟩ := DataW.trod_int ht hd
      rfl
    · rename_i ht
      obtain ⟨n, rfl, rfl⟩ := DataW.trod_bool ht hd
      rfl
    · rename_i ht
      obtain ⟨s, rfl, rfl, _⟩ := DataW.trod_string ht hd
      cases s with | mk a => simp [lits, ByteArray.toList_eq]
    · rename_i fs ht
      obtain ⟨xs, n, rfl, rfl, hl, hxl, hel⟩ := DataW.trod_struct ht hd
      simp only [Bool.and_eq_true] at h
      obtain ⟨hcon, hall⟩ := h
      cases hc : contig P fs.toList 0 with
      | none => rw [hc] at hcon; cases hcon
      | some e =>
        rw [hc] at hcon
        have he := Nat.eq_of_beq_eq_true hcon
        subst he
        have := (fields_cat n cs fs.toList xs 0 _ hc (by simpa using hxl) (fun i f hf => hel i f (by simpa using hf)) (fun f hf cs' x' hx => cells_of k n f.type cs' x' (List.all_eq_true.1 hall f hf) hx)).2
        simp only [lits, this, List.drop_zero, Nat.sub_zero]
        rw [← hl, List.take_length]
    · rename_i n e ht
      obtain ⟨xs, m', rfl, rfl, hl, hxl, hel⟩ := DataW.trod_array ht hd
      simp only [Bool.and_eq_true] at h
      have he := Nat.eq_of_beq_eq_true h.1
      have := elems_cat m' (P.cellsOf e) e cs rfl n xs 0 hxl (fun i hi => by rw [Nat.zero_add]; exact hel i hi) (fun cs' x' hx => cells_of k m' e cs' x' h.2 hx)
      simp only [lits, this, List.drop_zero, he]
      rw [← hl, List.take_length]
    · cases h
theorem rd_of_laid {g n size m : Nat} {t : TypeId} {cs : Array Value} {d : DataW H} {q : List MemPlace} {vs : List Value} (hf : flatB P 5 t = true) (hv : lits d = some vs) (hn : vs.length = n * size)
    (hd : DataW.trod enc P w base sp held m t cs.toList = some (d, q)) (hcell : ∀ j, w.cell? ⟨g, j, none⟩ = cs[j]?) : Rd size (some ⟨g, 0, none⟩) n vs w := by
  have h := cells_of 5 m t _ _ hf hd
  rw [hv] at h
  have h' := Option.some.inj h
  refine ⟨hn, fun _ => ⟨_, rfl, fun j u hu => ?_⟩⟩
  rw [add_none, Nat.zero_add, hcell j, ← Array.getElem?_toList, ← h']
  exact hu
end
end Go.Proofs.YthkjfepbmnabkaaGreatDoor.Sx
