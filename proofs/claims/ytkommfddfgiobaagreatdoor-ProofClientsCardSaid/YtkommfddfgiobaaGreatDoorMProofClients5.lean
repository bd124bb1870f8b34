/- Texts joined: Mk2, LenX, BxT, Pck, Kn1, Kn2, Cli, RnP, Rn1, Rn2, Rn3, Rn4, Rn5, Cli2, Ha, Aw1, Aw2, Aw3, Cli3, SxArg, Laid, Laid2. -/
import Derived.Test.YtkommfddfgiobaaGreatDoorMProofClients4
import Derived.Test.YtkommfddfgiobaaGreatDoorMProofClients3
import Derived.Test.YtkommfddfgiobaaGreatDoorMProofClients2
import Derived.Below
import Derived.OpenShut
import Derived.ChangeArms
import Derived.LaidMore
set_option linter.unusedVariables false
set_option linter.unusedSimpArgs false
/- Secrets made. -/
namespace Go.Proofs.YtkommfddfgiobaaGreatDoor.Sx
open Go
attribute [local irreducible] Calls

def clientK : List UInt8 := [67, 108, 105, 101, 110, 116, 32, 75, 101, 121]
def serverK : List UInt8 := [83, 101, 114, 118, 101, 114, 32, 75, 101, 121]
/-- What a box makes of a password. -/
noncomputable def mk1 (B : Bx.Box) (p salt : List UInt8) (it : Nat) : List UInt8 × Bx.Box := strB B p salt it
noncomputable def mk2 (B : Bx.Box) (p salt : List UInt8) (it : Nat) : List UInt8 × Bx.Box := macB (mk1 B p salt it).2 (mk1 B p salt it).1 clientK
noncomputable def mk3 (B : Bx.Box) (p salt : List UInt8) (it : Nat) : List UInt8 × Bx.Box := hashB (mk2 B p salt it).2 (mk2 B p salt it).1
noncomputable def mk4 (B : Bx.Box) (p salt : List UInt8) (it : Nat) : List UInt8 × Bx.Box := macB (mk3 B p salt it).2 (mk1 B p salt it).1 serverK
noncomputable def mk5 (B : Bx.Box) (p salt : List UInt8) (it : Nat) (t : List UInt8) : List UInt8 × Bx.Box := hashB (mk4 B p salt it).2 t
structure MkG (B : Bx.Box) (p salt : List UInt8) (it : Nat) (t : List UInt8) : Prop where
  g1 : GoodT B (mk1 B p salt it)
  g2 : GoodT (mk1 B p salt it).2 (mk2 B p salt it)
  g3 : GoodT (mk2 B p salt it).2 (mk3 B p salt it)
  g4 : GoodT (mk3 B p salt it).2 (mk4 B p salt it)
  g5 : GoodT (mk4 B p salt it).2 (mk5 B p salt it t)
theorem mk_good {B : Bx.Box} (hi : BInv B) (hl : B.L.length < 4000) {p salt t : List UInt8} {it : Nat} (hp : p.length ≤ 1000000) (hs : salt.length ≤ 1000000) (ht : t.length ≤ 1000000) (hit : it ≤ 64) : MkG B p salt it t := by
  have g1 : GoodT B (mk1 B p salt it) := str_good hi (by omega) hp hs hit
  have l1 := g1.1.len
  have k1 := g1.2.1
  have g2 : GoodT (mk1 B p salt it).2 (mk2 B p salt it) := mac_good g1.1.inv (by omega) (by omega) (by decide)
  have l2 := g2.1.len
  have k2 := g2.2.1
  have g3 : GoodT (mk2 B p salt it).2 (mk3 B p salt it) := hash_good g2.1.inv (by omega) (by omega)
  have l3 := g3.1.len
  have g4 : GoodT (mk3 B p salt it).2 (mk4 B p salt it) := mac_good g3.1.inv (by omega) (by omega) (by decide)
  have l4 := g4.1.len
  exact ⟨g1, g2, g3, g4, hash_good g4.1.inv (by omega) ht⟩
theorem MkG.ext {B : Bx.Box} {p salt t : List UInt8} {it : Nat} (h : MkG B p salt it t) : (mk5 B p salt it t).2.L.length ≤ B.L.length + 5 ∧ BInv (mk5 B p salt it t).2 ∧ (mk5 B p salt it t).2.sym = B.sym := by
  have l1 := h.g1.1.len
  have l2 := h.g2.1.len
  have l3 := h.g3.1.len
  have l4 := h.g4.1.len
  have l5 := h.g5.1.len
  exact ⟨by omega, h.g5.1.inv, by rw [h.g5.1.sym, h.g4.1.sym, h.g3.1.sym, h.g2.1.sym, h.g1.1.sym]⟩
end Go.Proofs.YtkommfddfgiobaaGreatDoor.Sx

/- How many terms a box has. -/
namespace Go.Proofs.YtkommfddfgiobaaGreatDoor.Sx
open Go
attribute [local irreducible] Calls

theorem lenX_c (w : World) (b : Nat) (B : Bx.Box) (y : Lay) (hb : (bxF b B y).p w) (hbD : ∀ k, (bxF b B y).D k → k < w.heap.size) : Pu Tryz.prog n_box_Box_Len #[ptrB b] w (.int .i64 (B.L.length : Int)) := by
  have g := good_box_Box_Len w (Un [])
  refine con_of_sx (cx := cx_box_Box_Len w (Un [])) g b_box_Box_Len rfl rfl (β := Va.z) [.c (.v (ptrB b))] 0 [] [oldF w] rfl rfl (old_sat rfl) ?_
  refine ⟨.slice y.A B.L.length y.c, fun β w' hs => box_cell (bx_bk (fact_old hb hbD (hs.get 0 rfl))) (o := 2) rfl, ?_⟩
  intro β w' hs
  exact hs.fin [] ⟨rfl, rfl⟩
end Go.Proofs.YtkommfddfgiobaaGreatDoor.Sx

/- Secrets made: one word for both ends; a box at its beginning; facts put in another way. -/
namespace Go.Proofs.YtkommfddfgiobaaGreatDoor.Sx
open Go
attribute [local irreducible] Calls

theorem tri_sat {cx : Cx} {c : Code} {Q : Exit → KT} {n : Nat} {env : Env} {H : List Bk} {F F' : List Fact} (hS : ∀ β w, Sat cx β n H F w → Sat cx β n H F' w) (h : Tri cx c Q n env H F') : Tri cx c Q n env H F :=
  ⟨fun β a w hi => h.run β a w ⟨hi.ag, hi.size, hi.df, hi.lte, hS β w hi.sat⟩⟩
theorem reify_tri {cx : Cx} {c : Code} {Q : Exit → KT} {n : Nat} {env : Env} {H : List Bk} {F : List Fact} (id : Nat) {ty : TypeId} {cs : List SL} (vs : Nat → List Value) (h1 : tyAt H id = some ty) (h2 : cellsAt H id = some cs) (h3 : ∀ b, allV (cs.map (SL.re id b)) = some (vs b))
    (h : ∀ b, Tri cx c Q n (envRe id b env) (bksRe id b H) (bkF b ty (vs b) :: F)) : Tri cx c Q n env H F :=
  tri_join (ι := Nat) (fun _ => True) n (fun b => envRe id b env) (fun b => bksRe id b H) (fun b => bkF b ty (vs b) :: F) (fun b _ => h b) (EntX.reify id vs h1 h2 h3 (fun b => EntX.of b trivial ⟨fun β a w hi => ⟨β, rfl, rfl, hi⟩⟩))
theorem dropIx_ge {js : List Nat} : ∀ {F : List Fact} {i : Nat}, (∀ j ∈ js, j < i) → dropIx js i F = F
  | [], _, _ => rfl
  | f :: r, i, h => by
    have hm : memb js i = false := by
      cases hb : memb js i with
      | false => rfl
      | true => have := h i (memb_mem hb); omega
    simp only [dropIx, hm]
    rw [dropIx_ge (fun j hj => Nat.lt_succ_of_lt (h j hj))]
theorem cut_size' (s : ByteArray) (k : Nat) : (s.extract 0 (min s.size k)).size ≤ k := by
  rw [ByteArray.size_extract]; omega
def box0 (sym : Bool) : Bx.Box := ⟨sym, false, []⟩
def lay0 : Lay := ⟨none, 0, 0, []⟩
theorem box0_inv (sym : Bool) : BInv (box0 sym) := ⟨fun _ q => (by cases q), List.nodup_nil, fun _ q => (by cases q), fun _ => rfl, Nat.zero_le _⟩
theorem Sat.rbx0 {cx : Cx} {β : Va} {n : Nat} {H : List Bk} {F : List Fact} {w : World} {rb : Nat} {sym : Bool} (hs : Sat cx β n H (bkF rb ty_ostiaryref05_Box [.bool sym, .slice none 0 0, .bool false] :: F) w) : Sat cx β n H (rbxF rb (box0 sym) lay0 :: F) w := by
  have h1 := (hs.nilRow ty_ostiaryref05_Term 6).noMem (partsF []) (fun _ h => (by cases h)) (fun k hk => by obtain ⟨p, hp, _⟩ := hk; cases hp)
  have h2 := h1.sep [2, 1, 0] rfl ⟨rfl, rfl, rfl, trivial⟩
  have e : dropIx [2, 1, 0] 0 (partsF [] :: rowF ty_ostiaryref05_Term 6 (.slice none 0 0) 0 [] :: bkF rb ty_ostiaryref05_Box [.bool sym, .slice none 0 0, .bool false] :: F) = F := by
    show dropIx [2, 1, 0] 3 F = F
    exact dropIx_ge (fun j hj => by simp only [List.mem_cons, List.not_mem_nil, or_false] at hj; omega)
  rw [e] at h2
  exact h2
def SecA.fs (x : SecA) : List Fact := [browF ty_uint8 x.A3 x.s3 x.c3, browF ty_uint8 x.A2 x.s2 x.c2, browF ty_uint8 x.A1 x.s1 x.c1, browF ty_uint8 x.A0 x.s0 x.c0]
end Go.Proofs.YtkommfddfgiobaaGreatDoor.Sx

/- A proof, checked by the program and by the reference. -/
namespace Go.Proofs.YtkommfddfgiobaaGreatDoor.Sx
open Go
attribute [local irreducible] Calls

theorem BInv.okN {B : Bx.Box} (hi : BInv B) : ∀ tag l m, B.opens tag = some (l, m) → OkN B l m := fun _ _ _ h => (opens_nf hi h).2.1.ok hi
theorem turnL_c (w : World) (b : Nat) (B B' : Bx.Box) (y : Lay) (A1 A2 : Option Addr) (s t h : List UInt8) (c1 c2 : Nat) (e : turnB B s t = (some h, B')) (hh : h.length = 32) (hts : y.ts.map (·.1) = B.L) (hi : BInv B)
    (hm : Mem w [bxF b B y, bsF A1 s, bsF A2 t]) (hc1 : s.length ≤ c1) (hc2 : t.length ≤ c2) (hl1 : s.length ≤ 1000000) (hl2 : t.length ≤ 1000000) :
    Con Tryz.prog n_box_Box_Turn #[ptrB b, .slice A1 s.length c1, .slice A2 t.length c2] w [bxF b B y] (strL (bxF b) (h, B')) := by
  refine (turnB_c w b B y A1 A2 s t c1 c2 hts hi.len hi.sz (fun tag l m q => (hi.okN tag l m q).1) hm hc1 hc2 hl1 hl2).mono fun v Fs k => ?_
  rw [turnOut_some e] at k
  obtain ⟨A, c, y', rfl, h1, h2, h3, rfl⟩ := k
  exact ⟨A, c, y', by show _ = Value.tuple #[.slice A h.length c, .int .i64 0]; rw [hh], by show h.length ≤ c; omega, h2, h3, rfl⟩
theorem rturnL_c (w : World) (b : Nat) (B B' : Bx.Box) (y : Lay) (A1 A2 : Option Addr) (s t h : List UInt8) (c1 c2 : Nat) (e : turnB B s t = (some h, B')) (hh : h.length = 32) (hts : y.ts.map (·.1) = B.L) (hi : BInv B)
    (hm : Mem w [rbxF b B y, bsF A1 s, bsF A2 t]) (hc1 : s.length ≤ c1) (hc2 : t.length ≤ c2) (hl1 : s.length ≤ 1000000) (hl2 : t.length ≤ 1000000) :
    Con Tryz.prog n_ostiaryref05_Turn #[ptrB b, .slice A1 s.length c1, .slice A2 t.length c2] w [rbxF b B y] (outL (rbxF b) (h, B')) := by
  refine (rturn_c w b B y A1 A2 s t c1 c2 hts hi.len hi.sz hi.okN hm hc1 hc2 hl1 hl2).mono fun v Fs k => ?_
  rw [rturnOut_some e] at k
  exact rtagOut_L hh k
/-- Is it the proof? -/
noncomputable def chk (B : Bx.Box) (stored msg pf : List UInt8) : Int × Bx.Box :=
  if pf.length = 32 then
    match turnB (macB B stored msg).2 pf (macB B stored msg).1 with
    | (none, _) => (4, (macB B stored msg).2)
    | (some h, B') => (if (hashB B' h).1 = stored then 0 else 13, (hashB B' h).2)
  else (4, B)
end Go.Proofs.YtkommfddfgiobaaGreatDoor.Sx

/- Boxes that grow: what was made once is made again. -/
namespace Go.Proofs.YtkommfddfgiobaaGreatDoor.Sx
open Go

/-- A box that has the terms of another one, and more. -/
structure Pre (B B' : Bx.Box) : Prop where
  sym : B'.sym = B.sym
  full : B'.full = B.full
  terms : ∃ l, B'.L = B.L ++ l
theorem Pre.refl (B : Bx.Box) : Pre B B := ⟨rfl, rfl, [], by simp⟩
theorem Pre.trans {A B C : Bx.Box} (h : Pre A B) (k : Pre B C) : Pre A C := by
  obtain ⟨l, hl⟩ := h.terms
  obtain ⟨m, hm⟩ := k.terms
  exact ⟨k.sym.trans h.sym, k.full.trans h.full, l ++ m, by rw [hm, hl, List.append_assoc]⟩
theorem place_app {t : Bx.Term} : ∀ {L : List Bx.Term} {i : Nat} (l : List Bx.Term), Bx.place t L = some i → Bx.place t (L ++ l) = some i
  | x :: r, i, l, h => by
    simp only [List.cons_append, Bx.place] at h ⊢
    split
    · rename_i q; rw [if_pos q] at h; exact h
    · rename_i q
      rw [if_neg q] at h
      obtain ⟨j, hj, rfl⟩ := Option.map_eq_some_iff.1 h
      rw [place_app l hj]
      rfl
theorem place_new {t : Bx.Term} : ∀ {L : List Bx.Term}, Bx.place t L = none → Bx.place t (L ++ [t]) = some L.length
  | [], _ => by simp [Bx.place]
  | x :: r, h => by
    simp only [List.cons_append, Bx.place] at h ⊢
    split
    · rename_i q; rw [if_pos q] at h; cases h
    · rename_i q
      rw [if_neg q] at h
      have h' : Bx.place t r = none := by simpa using h
      rw [place_new h']
      simp
theorem tag_pre {B : Bx.Box} (hl : B.L.length < 4096) (t : Bx.Term) : Pre B (B.tag t).2 := by
  unfold Bx.Box.tag
  cases Bx.place t B.L with
  | some i => exact Pre.refl B
  | none =>
    simp only
    rw [if_neg (by omega)]
    exact ⟨rfl, rfl, [t], rfl⟩
theorem tag_place {B : Bx.Box} (hl : B.L.length < 4096) (t : Bx.Term) : ∃ i, Bx.place t (B.tag t).2.L = some i ∧ (B.tag t).1 = Bx.handle (i + 1) := by
  unfold Bx.Box.tag
  cases h : Bx.place t B.L with
  | some i => exact ⟨i, h, rfl⟩
  | none =>
    simp only
    rw [if_neg (by omega)]
    exact ⟨B.L.length, place_new h, rfl⟩
theorem tag_again {B B' : Bx.Box} (hl : B.L.length < 4096) (t : Bx.Term) (h : Pre (B.tag t).2 B') : B'.tag t = ((B.tag t).1, B') := by
  obtain ⟨i, h1, h2⟩ := tag_place hl t
  obtain ⟨l, hl2⟩ := h.terms
  have h3 : Bx.place t B'.L = some i := by rw [hl2]; exact place_app l h1
  rw [h2]
  unfold Bx.Box.tag
  rw [h3]
/-- A term's tag, or what a plain box tells. -/
noncomputable def opB (B : Bx.Box) (t : Bx.Term) (raw : List UInt8) : List UInt8 × Bx.Box := if B.sym then B.tag t else (raw, B)
theorem op_pre {B : Bx.Box} (hl : B.L.length < 4096) (t : Bx.Term) (raw : List UInt8) : Pre B (opB B t raw).2 := by
  unfold opB
  split
  · exact tag_pre hl t
  · exact Pre.refl B
theorem op_again {B B' : Bx.Box} (hl : B.L.length < 4096) (t : Bx.Term) (raw : List UInt8) (h : Pre (opB B t raw).2 B') : opB B' t raw = ((opB B t raw).1, B') := by
  cases hs : B.sym with
  | true =>
    have e : opB B t raw = B.tag t := by unfold opB; rw [hs]; rfl
    rw [e] at h ⊢
    have hs' : B'.sym = true := by rw [h.sym, (tag_pre hl t).sym, hs]
    unfold opB
    rw [hs', if_pos rfl]
    exact tag_again hl t h
  | false =>
    have e : opB B t raw = (raw, B) := by unfold opB; rw [hs]; rfl
    rw [e] at h ⊢
    have hs' : B'.sym = false := by rw [h.sym]; exact hs
    unfold opB
    rw [hs']
    rfl
theorem hash_pre {B : Bx.Box} (hl : B.L.length < 4096) (t : List UInt8) : Pre B (hashB B t).2 := op_pre hl _ _
theorem mac_pre {B : Bx.Box} (hl : B.L.length < 4096) (k t : List UInt8) : Pre B (macB B k t).2 := op_pre hl _ _
theorem str_pre {B : Bx.Box} (hl : B.L.length < 4096) (p s : List UInt8) (r : Nat) : Pre B (strB B p s r).2 := op_pre hl _ _
theorem hash_again {B B' : Bx.Box} (hl : B.L.length < 4096) (t : List UInt8) (h : Pre (hashB B t).2 B') : hashB B' t = ((hashB B t).1, B') := op_again hl _ _ h
theorem mac_again {B B' : Bx.Box} (hl : B.L.length < 4096) (k t : List UInt8) (h : Pre (macB B k t).2 B') : macB B' k t = ((macB B k t).1, B') := op_again hl _ _ h
theorem canon_pre {B : Bx.Box} (hl : B.L.length < 4096) (l : List Nat) (m : List UInt8) : Pre B (canon B l m).2 := by
  unfold canon
  split
  · exact Pre.refl B
  · split
    · exact Pre.refl B
    · exact tag_pre hl _
theorem turn_pre {B B' : Bx.Box} (hl : B.L.length < 4096) {s t h : List UInt8} (e : turnB B s t = (some h, B')) : Pre B B' := by
  cases h1 : B.opens s with
  | none => rw [turnB_none1 h1] at e; cases e
  | some p =>
    cases h2 : B.opens t with
    | none => rw [turnB_none2 h2] at e; cases e
    | some q =>
      obtain ⟨l1, m1⟩ := p
      obtain ⟨l2, m2⟩ := q
      rw [turnB_canon h1 h2] at e
      obtain ⟨_, rfl⟩ := Prod.mk.inj e
      exact canon_pre hl _ _
theorem opens_app {h : List UInt8} {r : List Nat × List UInt8} : ∀ (l : List Bx.Term) {B : Bx.Box}, B.opens h = some r → ({ B with L := B.L ++ l } : Bx.Box).opens h = some r
  | [], B, e => by rw [List.append_nil]; exact e
  | t :: l, B, e => by
    have h1 := opens_app l (opens_grow (t := t) e)
    simp only [List.append_assoc, List.cons_append, List.nil_append] at h1
    exact h1
theorem Pre.opens {B B' : Bx.Box} (h : Pre B B') {t : List UInt8} {r : List Nat × List UInt8} (e : B.opens t = some r) : B'.opens t = some r := by
  obtain ⟨l, hl⟩ := h.terms
  have h1 := opens_app l e
  have e2 : B' = { B with L := B.L ++ l } := by
    obtain ⟨s, f, L⟩ := B'
    have a := h.sym
    have b := h.full
    simp only at a b hl
    subst a b hl
    rfl
  rw [e2]
  exact h1
/-- What opens alike is alike. -/
theorem opens_inj {B : Bx.Box} (hi : BInv B) {x y : List UInt8} {l : List Nat} {m : List UInt8} (h1 : B.opens x = some (l, m)) (h2 : B.opens y = some (l, m)) : x = y := by
  have a := opens_canon hi h1
  rw [opens_canon hi h2] at a
  exact (Prod.mk.inj a).1.symm
end Go.Proofs.YtkommfddfgiobaaGreatDoor.Sx

/- A proof, plainly: whoever knows the password proves it, and nobody else does. -/
namespace Go.Proofs.YtkommfddfgiobaaGreatDoor.Sx
open Go

theorem turn_back {B : Bx.Box} (hi : BInv B) {c m h : List UInt8} {l1 l2 : List Nat} {m1 m2 : List UInt8} (hc : B.opens c = some (l1, m1)) (hm : B.opens m = some (l2, m2)) (hh : B.opens h = some (mixL l1 l2, Bx.xorB m1 m2)) : turnB B c m = (some h, B) ∧ turnB B h m = (some c, B) := by
  obtain ⟨_, n1, _⟩ := opens_nf hi hc
  obtain ⟨_, n2, _⟩ := opens_nf hi hm
  have hb : mixL (mixL l1 l2) l2 = l1 := sorted_ext ((n1.mix n2).mix n2).sorted n1.sorted (fun n => by
    rw [mem_mix_iff, mem_mix_iff]
    by_cases a : n ∈ l1 <;> by_cases b : n ∈ l2 <;> simp [a, b])
  constructor
  · rw [turnB_canon hc hm, opens_canon hi hh]
  · rw [turnB_canon hh hm, hb, xor_back _ _ (n1.mask.trans n2.mask.symm), opens_canon hi hc]
/-- p is the proof of msg, for who has s; c is what only he knows who has the password. -/
structure Prf (B : Bx.Box) (s msg c m p : List UInt8) : Prop where
  h : hashB B c = (s, B)
  mc : macB B s msg = (m, B)
  o : ∃ l1 m1 l2 m2, B.opens c = some (l1, m1) ∧ B.opens m = some (l2, m2) ∧ B.opens p = some (mixL l1 l2, Bx.xorB m1 m2)
  pl : p.length = 32
theorem Prf.mono {B B' : Bx.Box} {s msg c m p : List UInt8} (hl : B.L.length < 4096) (h : Prf B s msg c m p) (k : Pre B B') : Prf B' s msg c m p := by
  obtain ⟨h1, h2, ⟨l1, m1, l2, m2, o1, o2, o3⟩, h4⟩ := h
  have e1 := hash_again hl c (B' := B') (by rw [h1]; exact k)
  have e2 := mac_again hl s msg (B' := B') (by rw [h2]; exact k)
  rw [h1] at e1
  rw [h2] at e2
  exact ⟨e1, e2, ⟨l1, m1, l2, m2, k.opens o1, k.opens o2, k.opens o3⟩, h4⟩
theorem Prf.right {B : Bx.Box} {s msg c m p : List UInt8} (hi : BInv B) (h : Prf B s msg c m p) : chk B s msg p = (0, B) := by
  obtain ⟨h1, h2, ⟨l1, m1, l2, m2, o1, o2, o3⟩, h4⟩ := h
  unfold chk
  rw [if_pos h4, h2]
  simp only
  rw [(turn_back hi o1 o2 o3).2]
  simp only
  rw [h1, if_pos rfl]
theorem hashT_inj {a b : List UInt8} (h : hashT a = hashT b) : a = b := by
  unfold hashT at h
  injection h
theorem Prf.only {B : Bx.Box} {s msg c m p q : List UInt8} (hi : BInv B) (hs : B.sym = true) (hl : B.L.length < 4000) (h : Prf B s msg c m p) (hq : (chk B s msg q).1 = 0) : q = p := by
  obtain ⟨h1, h2, ⟨l1, m1, l2, m2, o1, o2, o3⟩, h4⟩ := h
  unfold chk at hq
  split at hq
  · rw [h2] at hq
    simp only at hq
    cases hoq : B.opens q with
    | none => rw [turnB_none1 hoq] at hq; simp at hq
    | some rq =>
      obtain ⟨lq, mq⟩ := rq
      obtain ⟨d, B', e1, e2, e3, e4⟩ := turn_ext hi (by omega) hoq o2
      rw [e1] at hq
      simp only at hq
      have hd : (hashB B' d).1 = s := by
        by_cases hh : (hashB B' d).1 = s
        · exact hh
        · rw [if_neg hh] at hq; cases hq
      have hlB' := e2.len
      have hpre : Pre B B' := turn_pre (by omega) e1
      have hs' : B'.sym = true := by rw [hpre.sym, hs]
      have a1 : hashB B c = B.tag (hashT c) := by unfold hashB; rw [hs]; rfl
      have a2 : hashB B' d = B'.tag (hashT d) := by unfold hashB; rw [hs']; rfl
      obtain ⟨i, p1, p2⟩ := tag_place (B := B) (by omega) (hashT c)
      obtain ⟨j, p3, p4⟩ := tag_place (B := B') (by omega) (hashT d)
      rw [← a1, h1] at p1 p2
      rw [← a2] at p3 p4
      simp only at p1 p2
      rw [hd, p2] at p4
      have hi1 := (List.getElem?_eq_some_iff.1 (Bx.place_some p1)).1
      have hj1 := (List.getElem?_eq_some_iff.1 (Bx.place_some p3)).1
      have hl3 := (hash_good e2.inv (by omega) (t := d) (by omega)).1.len
      have hij := Bx.handle_inj (by omega) (by omega) p4
      obtain rfl : i = j := by omega
      have hpre2 : Pre B (hashB B' d).2 := hpre.trans (hash_pre (by omega) d)
      obtain ⟨l, hl2⟩ := hpre2.terms
      have p5 : Bx.place (hashT c) (hashB B' d).2.L = some i := by rw [hl2]; exact place_app l p1
      have q1 := Bx.place_some p5
      have q2 := Bx.place_some p3
      rw [q1] at q2
      obtain rfl := hashT_inj (Option.some.inj q2)
      have o1' := hpre.opens o1
      rw [e4] at o1'
      obtain ⟨rfl, rfl⟩ := Prod.mk.inj (Option.some.inj o1')
      obtain ⟨_, nq, _⟩ := opens_nf hi hoq
      obtain ⟨_, n2, _⟩ := opens_nf hi o2
      have hb : mixL (mixL lq l2) l2 = lq := sorted_ext ((nq.mix n2).mix n2).sorted nq.sorted (fun n => by
        rw [mem_mix_iff, mem_mix_iff]
        by_cases a : n ∈ lq <;> by_cases b : n ∈ l2 <;> simp [a, b])
      rw [hb, xor_back _ _ (nq.mask.trans n2.mask.symm)] at o3
      exact opens_inj hi hoq o3
  · cases hq
/-! ### what the client tells -/
def clErr (pass : ByteArray) (n : Nat) (it : Int) : Int := if ¬ (passA pass).2 = 0 then (passA pass).2 else if saltedN n it = false then 1 else 0
noncomputable def cl5 (B : Bx.Box) (p salt : List UInt8) (it : Nat) (msg : List UInt8) : List UInt8 × Bx.Box := macB (mk4 B p salt it).2 (mk3 B p salt it).1 msg
noncomputable def cl6 (B : Bx.Box) (p salt : List UInt8) (it : Nat) (msg : List UInt8) : List UInt8 × Bx.Box :=
  match turnB (cl5 B p salt it msg).2 (mk2 B p salt it).1 (cl5 B p salt it msg).1 with
  | (some h, B') => (h, B')
  | (none, B') => ([], B')
noncomputable def cl7 (B : Bx.Box) (p salt : List UInt8) (it : Nat) (msg : List UInt8) : List UInt8 × Bx.Box := macB (cl6 B p salt it msg).2 (mk4 B p salt it).1 msg
structure ClR where
  e : Int
  p : List UInt8
  v : List UInt8
  B : Bx.Box
noncomputable def clR (B : Bx.Box) (pass : ByteArray) (salt : List UInt8) (it : Int) (msg : List UInt8) : ClR :=
  if clErr pass salt.length it = 0 then ⟨0, (cl6 B (passA pass).1.data.toList salt it.toNat msg).1, (cl7 B (passA pass).1.data.toList salt it.toNat msg).1, (cl7 B (passA pass).1.data.toList salt it.toNat msg).2⟩
  else ⟨clErr pass salt.length it, [], [], B⟩
structure ClG (B : Bx.Box) (p salt : List UInt8) (it : Nat) (msg : List UInt8) : Prop where
  g1 : GoodT B (mk1 B p salt it)
  g2 : GoodT (mk1 B p salt it).2 (mk2 B p salt it)
  g3 : GoodT (mk2 B p salt it).2 (mk3 B p salt it)
  g4 : GoodT (mk3 B p salt it).2 (mk4 B p salt it)
  g5 : GoodT (mk4 B p salt it).2 (cl5 B p salt it msg)
  t : turnB (cl5 B p salt it msg).2 (mk2 B p salt it).1 (cl5 B p salt it msg).1 = (some (cl6 B p salt it msg).1, (cl6 B p salt it msg).2)
  g6 : GoodT (cl5 B p salt it msg).2 (cl6 B p salt it msg)
  g7 : GoodT (cl6 B p salt it msg).2 (cl7 B p salt it msg)
  prf : Prf (cl7 B p salt it msg).2 (mk3 B p salt it).1 msg (mk2 B p salt it).1 (cl5 B p salt it msg).1 (cl6 B p salt it msg).1
  pre : Pre B (cl7 B p salt it msg).2
theorem cl_good {B : Bx.Box} (hi : BInv B) (hl : B.L.length < 4000) {p salt msg : List UInt8} {it : Nat} (hp : p.length ≤ 1000000) (hs : salt.length ≤ 1000000) (hm : msg.length ≤ 1000000) (hit : it ≤ 64) : ClG B p salt it msg := by
  obtain ⟨g1, g2, g3, g4, _⟩ := mk_good hi hl hp hs (t := []) (Nat.zero_le _) hit
  have l1 := g1.1.len
  have l2 := g2.1.len
  have l3 := g3.1.len
  have l4 := g4.1.len
  have k2 := g2.2.1
  have k3 := g3.2.1
  have k4 := g4.2.1
  have p1 : Pre B (mk1 B p salt it).2 := str_pre (by omega) _ _ _
  have p2 : Pre (mk1 B p salt it).2 (mk2 B p salt it).2 := mac_pre (by omega) _ _
  have p3 : Pre (mk2 B p salt it).2 (mk3 B p salt it).2 := hash_pre (by omega) _
  have p4 : Pre (mk3 B p salt it).2 (mk4 B p salt it).2 := mac_pre (by omega) _ _
  have g5 : GoodT (mk4 B p salt it).2 (cl5 B p salt it msg) := mac_good g4.1.inv (by omega) (by omega) hm
  have l5 := g5.1.len
  have p5 : Pre (mk4 B p salt it).2 (cl5 B p salt it msg).2 := mac_pre (by omega) _ _
  obtain ⟨⟨c1, d1⟩, hc⟩ := g2.2.2
  obtain ⟨⟨c2, d2⟩, hmm⟩ := g5.2.2
  have hc' := (p3.trans (p4.trans p5)).opens hc
  obtain ⟨h, B', e1, e2, e3, e4⟩ := turn_ext g5.1.inv (by omega) hc' hmm
  have e6 : cl6 B p salt it msg = (h, B') := by unfold cl6; rw [e1]
  have t : turnB (cl5 B p salt it msg).2 (mk2 B p salt it).1 (cl5 B p salt it msg).1 = (some (cl6 B p salt it msg).1, (cl6 B p salt it msg).2) := by rw [e6]; exact e1
  have g6 : GoodT (cl5 B p salt it msg).2 (cl6 B p salt it msg) := by rw [e6]; exact ⟨e2, e3, _, e4⟩
  have l6 := g6.1.len
  have p6 : Pre (cl5 B p salt it msg).2 (cl6 B p salt it msg).2 := turn_pre (by omega) t
  have g7 : GoodT (cl6 B p salt it msg).2 (cl7 B p salt it msg) := mac_good g6.1.inv (by omega) (by omega) hm
  have p7 : Pre (cl6 B p salt it msg).2 (cl7 B p salt it msg).2 := mac_pre (by omega) _ _
  have h1 := hash_again (B := (mk2 B p salt it).2) (by omega) (mk2 B p salt it).1 (B' := (cl7 B p salt it msg).2) (p4.trans (p5.trans (p6.trans p7)))
  have h2 := mac_again (B := (mk4 B p salt it).2) (by omega) (mk3 B p salt it).1 msg (B' := (cl7 B p salt it msg).2) (p6.trans p7)
  have q6 : Pre (cl5 B p salt it msg).2 (cl7 B p salt it msg).2 := p6.trans p7
  exact ⟨g1, g2, g3, g4, g5, t, g6, g7, ⟨h1, h2, ⟨c1, d1, c2, d2, q6.opens hc', q6.opens hmm, p7.opens (by rw [e6]; exact e4)⟩, g6.2.1⟩, p1.trans (p2.trans (p3.trans (p4.trans (p5.trans (p6.trans p7)))))⟩
theorem ClG.ext {B : Bx.Box} {p salt msg : List UInt8} {it : Nat} (h : ClG B p salt it msg) : (cl7 B p salt it msg).2.L.length ≤ B.L.length + 7 ∧ BInv (cl7 B p salt it msg).2 := by
  have l1 := h.g1.1.len
  have l2 := h.g2.1.len
  have l3 := h.g3.1.len
  have l4 := h.g4.1.len
  have l5 := h.g5.1.len
  have l6 := h.g6.1.len
  have l7 := h.g7.1.len
  exact ⟨by omega, h.g7.1.inv⟩
end Go.Proofs.YtkommfddfgiobaaGreatDoor.Sx

/- What a client tells. -/
namespace Go.Proofs.YtkommfddfgiobaaGreatDoor.Sx
open Go
attribute [local irreducible] Calls

/-- So many rounds may not be. -/
theorem strE_c (w : World) (b : Nat) (B : Bx.Box) (y : Lay) (K S : Option Addr) (p s : List UInt8) (cK cS : Nat) (r : Int) (hr : ¬ (1 ≤ r ∧ r ≤ 64)) (hts : y.ts.map (·.1) = B.L) (hL : B.L.length ≤ 4096) (hk : p.length ≤ 1000000) (hn : s.length ≤ 100000) (hm : Mem w [bxF b B y, bsF K p, bsF S s, oddF 3, firstF 0]) :
    Con Tryz.prog n_box_Box_Stretch #[ptrB b, .slice K p.length cK, .slice S s.length cS, .int .i64 r] w [bxF b B y] (fun v Fs => v = .tuple #[.slice none 0 0, .int .i64 1] ∧ Fs = [bxF b B y]) := by
  refine (strP_c w b B y K S p s cK cS r hts hL hk hn hm).mono fun v Fs h => ?_
  unfold strOut at h
  rw [if_neg hr] at h
  exact h
theorem salted_no {n : Nat} {it : Int} (h : ¬ saltedN n it = true) (h1 : 1 ≤ n) (h2 : n ≤ 32) : ¬ (1 ≤ it ∧ it ≤ 64) := by
  intro q
  apply h
  rw [saltedN_iff]
  exact decide_eq_true ⟨h1, h2, q.1, q.2⟩
def noKeys : Value := .agg #[.slice none 0 0, .slice none 0 0, .slice none 0 0]
/-- Three keys, in memory. -/
def keysOut (b : Nat) (B : Bx.Box) (y : Lay) (pass : ByteArray) (salt : List UInt8) (it : Int) (v : Value) (Fs : List Fact) : Prop :=
  if clErr pass salt.length it = 0 then
    ∃ A1 c1 A2 c2 A3 c3 y', v = .tuple #[.agg #[.slice A1 (mk2 B (passA pass).1.data.toList salt it.toNat).1.length c1, .slice A2 (mk3 B (passA pass).1.data.toList salt it.toNat).1.length c2, .slice A3 (mk4 B (passA pass).1.data.toList salt it.toNat).1.length c3], .int .i64 0] ∧
      (mk2 B (passA pass).1.data.toList salt it.toNat).1.length ≤ c1 ∧ y'.ts.map (·.1) = (mk4 B (passA pass).1.data.toList salt it.toNat).2.L ∧
      Fs = [browF ty_uint8 A3 (mk4 B (passA pass).1.data.toList salt it.toNat).1 c3, browF ty_uint8 A2 (mk3 B (passA pass).1.data.toList salt it.toNat).1 c2, browF ty_uint8 A1 (mk2 B (passA pass).1.data.toList salt it.toNat).1 c1, bxF b (mk4 B (passA pass).1.data.toList salt it.toNat).2 y']
  else v = .tuple #[noKeys, .int .i64 (clErr pass salt.length it)] ∧ Fs = [bxF b B y]
set_option maxHeartbeats 2000000 in
theorem made_c (w : World) (b : Nat) (B : Bx.Box) (y : Lay) (pass : ByteArray) (S : Option Addr) (salt : List UInt8) (cS : Nat) (it : Int) (hts : y.ts.map (·.1) = B.L) (hi : BInv B) (hL : B.L.length < 4000) (hp : pass.size ≤ 100000) (hsl : salt.length ≤ 100000)
    (hm : Mem w [bxF b B y, bsF S salt, oddF 3, firstF 0, namF]) :
    Con Tryz.prog n_proof_made #[ptrB b, .string pass, .slice S salt.length cS, .int .i64 it] w [bxF b B y] (keysOut b B y pass salt it) := by
  have g := good_proof_made w (Un [bxF b B y])
  have hml := maxLen_eq
  have hs0 : Sat (cx_proof_made w (Un [bxF b B y])) Va.z 0 [] [bxF b B y, bsF S salt, oddF 3, firstF 0, namF] w := hm.sat0 rfl (ownIn (Gs := [bxF b B y]) (fun f hf => by
    simp only [List.mem_cons, List.not_mem_nil, or_false] at hf
    rcases hf with rfl | rfl | rfl | rfl <;> rfl))
  refine con_of_sx (cx := cx_proof_made w (Un [bxF b B y])) g b_proof_made rfl rfl (β := Va.z) [.c (.v (ptrB b)), .c (.v (.string pass)), .c (.v (.slice S salt.length cS)), .c (.v (.int .i64 it))] 0 [] _ rfl rfl hs0 ?_
  have bad : ∀ {e : Int}, clErr pass salt.length it = e → ¬ e = 0 → keysOut b B y pass salt it (.tuple #[noKeys, .int .i64 e]) [bxF b B y] := by
    intro e h h0
    unfold keysOut
    rw [h, if_neg h0]
    exact ⟨rfl, rfl⟩
  obtain ⟨pn, pe, hpn⟩ : ∃ pn pe, passA pass = (pn, pe) := ⟨_, _, rfl⟩
  have hpl := passA_len pass
  rw [hpn] at hpl
  simp only at hpl
  refine call_pu (v := .tuple #[.string pn, .int .i64 pe]) (fun β w' hs => by
    have h := pass_c w' pass hp (namF_T (hs.get 4 rfl))
    rw [hpn] at h
    exact h) ?_
  refine BIf.not (BIf.dec (fun h2 => ?_) (fun h2 => ?_))
  rotate_left
  · exact fun β w' hs => (hs.keepB (List.nil_sublist _)).fin [0] (bad (by unfold clErr; rw [hpn, if_pos h2]) h2)
  obtain rfl : pe = 0 := h2
  have badS : saltedN salt.length it = false → keysOut b B y pass salt it (.tuple #[noKeys, .int .i64 1]) [bxF b B y] := fun h => bad (by unfold clErr; rw [hpn, if_neg (by simp), if_pos h]) (by decide)
  refine BIf.dec (fun h3 => ?_) (fun h3 => ?_)
  · have h30 : (salt.length : Int) < 1 := h3
    exact fun β w' hs => (hs.keepB (List.nil_sublist _)).fin [0] (badS (by rw [saltedN_iff]; exact decide_eq_false (by omega)))
  have h30 : ¬ (salt.length : Int) < 1 := h3
  refine BIf.dec (fun h4 => ?_) (fun h4 => ?_)
  · have h40 : (32 : Int) < (salt.length : Int) := h4
    exact fun β w' hs => (hs.keepB (List.nil_sublist _)).fin [0] (badS (by rw [saltedN_iff]; exact decide_eq_false (by omega)))
  have h40 : ¬ (32 : Int) < (salt.length : Int) := h4
  have hpl2 : pn.data.toList.length ≤ 64 := hpl
  intro bp cp hcp _
  cases hb2 : saltedN salt.length it with
  | false =>
    refine call_con [1] (fun β w' hs => strE_c w' b B y (some ⟨bp, 0, none⟩) S pn.data.toList salt cp cS it (salted_no (by rw [hb2]; decide) (by omega) (by omega)) hts (by omega) (by omega) (by omega) ((hs.unown 0 rfl).mem.take (js := [1, 0, 2, 3, 4]) rfl)) ?_
    rintro v Fs ⟨rfl, rfl⟩
    exact fun β w' hs => (hs.keepB (List.nil_sublist _)).fin [0] (badS hb2)
  | true =>
  obtain ⟨hit1, hit2, hs32⟩ := salted_ok hb2
  have hout : keysOut b B y pass salt it = fun v Fs => ∃ A1 c1 A2 c2 A3 c3 y', v = .tuple #[.agg #[.slice A1 (mk2 B pn.data.toList salt it.toNat).1.length c1, .slice A2 (mk3 B pn.data.toList salt it.toNat).1.length c2, .slice A3 (mk4 B pn.data.toList salt it.toNat).1.length c3], .int .i64 0] ∧
      (mk2 B pn.data.toList salt it.toNat).1.length ≤ c1 ∧ y'.ts.map (·.1) = (mk4 B pn.data.toList salt it.toNat).2.L ∧
      Fs = [browF ty_uint8 A3 (mk4 B pn.data.toList salt it.toNat).1 c3, browF ty_uint8 A2 (mk3 B pn.data.toList salt it.toNat).1 c2, browF ty_uint8 A1 (mk2 B pn.data.toList salt it.toNat).1 c1, bxF b (mk4 B pn.data.toList salt it.toNat).2 y'] := by
    funext v Fs
    unfold keysOut
    rw [if_pos (by unfold clErr; rw [hpn, if_neg (by simp), if_neg (by rw [hb2]; decide)]), hpn]
  rw [hout]
  clear hout bad badS
  have hG := mk_good hi hL (p := pn.data.toList) (salt := salt) (it := it.toNat) (t := []) (by omega) (by omega) (Nat.zero_le _) (by omega)
  refine call_con [1] (R := strL (bxF b) (mk1 B pn.data.toList salt it.toNat)) (fun β w' hs => strL_c w' b B y (some ⟨bp, 0, none⟩) S pn.data.toList salt cp cS it ⟨hit1, hit2⟩ hts hi (by omega) (by omega) (by omega) ((hs.unown 0 rfl).mem.take (js := [1, 0, 2, 3, 4]) rfl)) ?_
  rintro v Fs ⟨A1, c1, y1, rfl, q1, q2, hts1, rfl⟩
  have l1 := hG.g1.1.len
  have k1 := hG.g1.2.1
  intro bc
  refine ⟨0, _, rfl, ?_⟩
  intro br
  refine call_con [3] (R := outL (bxF b) (mk2 B pn.data.toList salt it.toNat)) (fun β w' hs => by
    have h2 := ((hs.rowRd 0 rfl).ro 2 rfl).part1 (l := clientK) [0, 1] rfl
    exact macL_c w' b _ y1 A1 _ c1 br _ clientK 10 hts1 hG.g1.1.inv (by omega) (by omega) (by decide) (h2.mem.take (js := [4, 0, 3, 7, 8]) rfl)) ?_
  rintro v Fs ⟨A2, c2, y2, rfl, q3, q4, hts2, rfl⟩
  have l2 := hG.g2.1.len
  have k2 := hG.g2.2.1
  intro br2
  refine call_con [2] (R := outL (bxF b) (mk3 B pn.data.toList salt it.toNat)) (fun β w' hs => by
    have h2 := ((hs.rowRd 0 rfl).ro 1 rfl).part1 (l := (mk2 B pn.data.toList salt it.toNat).1) [0, 1] rfl
    exact hashL_c w' b _ y2 br2 A2 _ c2 hts2 hG.g2.1.inv (by omega) (by omega) (h2.mem.take (js := [3, 0, 9, 10]) rfl)) ?_
  rintro v Fs ⟨A3, c3, y3, rfl, q7, q8, hts3, rfl⟩
  have l3 := hG.g3.1.len
  have k3 := hG.g3.2.1
  intro bs
  refine ⟨0, _, rfl, ?_⟩
  intro br3
  refine call_con [3] (R := outL (bxF b) (mk4 B pn.data.toList salt it.toNat)) (fun β w' hs => by
    have h2 := ((hs.rowRd 0 rfl).ro 8 rfl).part1 (l := serverK) [0, 1] rfl
    exact macL_c w' b _ y3 A1 _ c1 br3 _ serverK 10 hts3 hG.g3.1.inv (by omega) (by omega) (by decide) (h2.mem.take (js := [4, 0, 9, 12, 13]) rfl)) ?_
  rintro v Fs ⟨A4, c4, y4, rfl, q9, q10, hts4, rfl⟩
  intro β w' hs
  exact (hs.keepB (List.nil_sublist _)).fin [0, 4, 6, 1] ⟨A2, c2, A3, c3, A4, c4, y4, rfl, q3, hts4, rfl⟩ rfl rfl rfl ⟨rfl, rfl, rfl, rfl, trivial⟩
/-- What a client tells, in memory. -/
def clOut (F : Bx.Box → Lay → Fact) (r : ClR) (v : Value) (Fs : List Fact) : Prop :=
  ∃ A c A' c' y', v = .tuple #[.slice A r.p.length c, .slice A' r.v.length c', .int .i64 r.e] ∧ r.p.length ≤ c ∧ r.v.length ≤ c' ∧ y'.ts.map (·.1) = r.B.L ∧ Fs = [browF ty_uint8 A' r.v c', browF ty_uint8 A r.p c, F r.B y']
theorem clOut_no {F : Bx.Box → Lay → Fact} {B : Bx.Box} {y : Lay} {pass : ByteArray} {salt msg : List UInt8} {it e : Int} (hts : y.ts.map (·.1) = B.L) (h : clErr pass salt.length it = e) (h0 : ¬ e = 0) : clOut F (clR B pass salt it msg) (.tuple #[.slice none 0 0, .slice none 0 0, .int .i64 e]) [browF ty_uint8 none [] 0, browF ty_uint8 none [] 0, F B y] := by
  have e1 : clR B pass salt it msg = ⟨e, [], [], B⟩ := by unfold clR; rw [h, if_neg h0]
  rw [e1]
  exact ⟨none, 0, none, 0, y, rfl, Nat.le_refl _, Nat.le_refl _, hts, rfl⟩
set_option maxHeartbeats 2000000 in
theorem client_c (w : World) (b : Nat) (B : Bx.Box) (y : Lay) (pass : ByteArray) (S : Option Addr) (salt : List UInt8) (cS : Nat) (it : Int) (msg : ByteArray) (hts : y.ts.map (·.1) = B.L) (hi : BInv B) (hL : B.L.length < 4000) (hp : pass.size ≤ 100000) (hsl : salt.length ≤ 100000) (hmsg : msg.size ≤ 1000000)
    (hm : Mem w [bxF b B y, bsF S salt, oddF 3, firstF 0, namF]) :
    Con Tryz.prog n_proof_Client #[ptrB b, .string pass, .slice S salt.length cS, .int .i64 it, .string msg] w [bxF b B y] (clOut (bxF b) (clR B pass salt it msg.data.toList)) := by
  have g := good_proof_Client w (Un [bxF b B y])
  have hs0 : Sat (cx_proof_Client w (Un [bxF b B y])) Va.z 0 [] [bxF b B y, bsF S salt, oddF 3, firstF 0, namF] w := hm.sat0 rfl (ownIn (Gs := [bxF b B y]) (fun f hf => by
    simp only [List.mem_cons, List.not_mem_nil, or_false] at hf
    rcases hf with rfl | rfl | rfl | rfl <;> rfl))
  refine con_of_sx (cx := cx_proof_Client w (Un [bxF b B y])) g b_proof_Client rfl rfl (β := Va.z) [.c (.v (ptrB b)), .c (.v (.string pass)), .c (.v (.slice S salt.length cS)), .c (.v (.int .i64 it)), .c (.v (.string msg))] 0 [] _ rfl rfl hs0 ?_
  refine call_con [0] (R := keysOut b B y pass salt it) (fun β w' hs => made_c w' b B y pass S salt cS it hts hi hL hp hsl (hs.mem.take (js := [0, 1, 2, 3, 4]) rfl)) ?_
  by_cases h0 : clErr pass salt.length it = 0
  · rintro v Fs h
    unfold keysOut at h
    rw [if_pos h0] at h
    have hsalt : saltedN salt.length it = true := by
      cases hb : saltedN salt.length it with
      | true => rfl
      | false =>
        unfold clErr at h0
        rw [hb] at h0
        simp only [if_true] at h0
        split at h0
        · rename_i h1; exact absurd h0 h1
        · cases h0
    obtain ⟨hit1, hit2, _⟩ := salted_ok hsalt
    have hpl := passA_len pass
    have hG := cl_good hi hL (p := (passA pass).1.data.toList) (salt := salt) (it := it.toNat) (msg := msg.data.toList) (by show (passA pass).1.size ≤ _; omega) (by omega) hmsg (by omega)
    have hout : clR B pass salt it msg.data.toList = ⟨0, (cl6 B (passA pass).1.data.toList salt it.toNat msg.data.toList).1, (cl7 B (passA pass).1.data.toList salt it.toNat msg.data.toList).1, (cl7 B (passA pass).1.data.toList salt it.toNat msg.data.toList).2⟩ := by unfold clR; rw [if_pos h0]
    rw [hout]
    generalize (passA pass).1.data.toList = pn at *
    obtain ⟨A1, c1, A2, c2, A3, c3, y4, rfl, q1, hts4, rfl⟩ := h
    have l1 := hG.g1.1.len
    have l2 := hG.g2.1.len
    have l3 := hG.g3.1.len
    have l4 := hG.g4.1.len
    have l5 := hG.g5.1.len
    have l6 := hG.g6.1.len
    have k2 := hG.g2.2.1
    have k3 := hG.g3.2.1
    have k4 := hG.g4.2.1
    have k5 := hG.g5.2.1
    have hS : ∀ {n : Nat} {F : List Fact}, Sub (cx_proof_Client w (Un [bxF b B y])) n [⟨0, ty_proof_keys, [.v (.slice A1 (mk2 B pn salt it.toNat).1.length c1), .v (.slice A2 (mk3 B pn salt it.toNat).1.length c2), .v (.slice A3 (mk4 B pn salt it.toNat).1.length c3)]⟩] F [⟨0, ty_proof_keys, [.v (.slice A1 (mk2 B pn salt it.toNat).1.length c1), .v (.slice A2 (mk3 B pn salt it.toNat).1.length c2), .v (.slice A3 (mk4 B pn salt it.toNat).1.length c3)]⟩] [] := fun {n F} => Sub.of (List.Sublist.refl _) (List.nil_sublist _)
    refine draw_rule g p_proof_Client_4 (by kernel_rfl) [⟨0, ty_proof_keys, [.v (.slice A1 (mk2 B pn salt it.toNat).1.length c1), .v (.slice A2 (mk3 B pn salt it.toNat).1.length c2), .v (.slice A3 (mk4 B pn salt it.toNat).1.length c3)]⟩] [] hS ?_
    intro bm cm hcm _
    refine ⟨hS, ?_⟩
    intro br
    refine ⟨hS, ?_⟩
    refine call_con [5] (R := outL (bxF b) (cl5 B pn salt it.toNat msg.data.toList)) (fun β w' hs => by
      have h2 := (((hs.rowRd 0 rfl).unown 1 rfl).ro 3 rfl).part1 (l := msg.data.toList) [0, 1] rfl
      exact macL_c w' b _ y4 A2 _ c2 br (some ⟨bm, 0, none⟩) msg.data.toList cm hts4 hG.g4.1.inv (by omega) (by omega) hmsg (h2.mem.take (js := [6, 0, 4, 8, 9]) rfl)) ?_
    rintro v Fs ⟨A5, c5, y5, rfl, q5, q6, hts5, rfl⟩
    refine ⟨hS, ?_⟩
    refine call_con [1] (R := strL (bxF b) (cl6 B pn salt it.toNat msg.data.toList)) (fun β w' hs => turnL_c w' b _ _ y5 A1 A5 _ _ _ c1 c5 hG.t hG.g6.2.1 hts5 hG.g5.1.inv (((hs.ro 0 rfl).ro 6 rfl).mem.take (js := [1, 6, 0]) rfl) q1 q5 (by omega) (by omega)) ?_
    rintro v Fs ⟨A6, c6, y6, rfl, q7, q8, hts6, rfl⟩
    refine ⟨hS, ?_⟩
    intro bm2 cm2 hcm2 _
    intro br2
    refine call_con [3] (R := outL (bxF b) (cl7 B pn salt it.toNat msg.data.toList)) (fun β w' hs => by
      have h2 := (((hs.rowRd 0 rfl).unown 1 rfl).ro 7 rfl).part1 (l := msg.data.toList) [0, 1] rfl
      exact macL_c w' b _ y6 A3 _ c3 br2 (some ⟨bm2, 0, none⟩) msg.data.toList cm2 hts6 hG.g6.1.inv (by omega) (by omega) hmsg (h2.mem.take (js := [4, 0, 8, 12, 13]) rfl)) ?_
    rintro v Fs ⟨A7, c7, y7, rfl, q9, q10, hts7, rfl⟩
    intro β w' hs
    exact (hs.keepB (List.nil_sublist _)).fin [0, 4, 1] ⟨A6, c6, A7, c7, y7, rfl, q7, q9, hts7, rfl⟩ rfl rfl rfl ⟨rfl, rfl, rfl, trivial⟩
  · rintro v Fs h
    unfold keysOut at h
    rw [if_neg h0] at h
    obtain ⟨rfl, rfl⟩ := h
    obtain ⟨e, he⟩ : ∃ e, clErr pass salt.length it = e := ⟨_, rfl⟩
    rw [he]
    rw [he] at h0
    refine BIf.not (BIf.dec (fun h2 => absurd h2 h0) (fun _ => ?_))
    intro β w' hs
    exact (((hs.keepB (List.nil_sublist _)).nilRow ty_uint8 1).nilRow ty_uint8 1).fin [0, 1, 2] (clOut_no hts he h0) rfl rfl rfl ⟨rfl, rfl, rfl, trivial⟩
/-- A nil box tells nothing. -/
theorem clientN_c (w : World) (pass msg : ByteArray) (S : Value) (it : Int) : Pu Tryz.prog n_proof_Client #[.pointer none, .string pass, S, .int .i64 it, .string msg] w (.tuple #[.slice none 0 0, .slice none 0 0, .int .i64 6]) := by
  have hm : ∀ w, Pu Tryz.prog n_proof_made #[.pointer none, .string pass, S, .int .i64 it] w (.tuple #[noKeys, .int .i64 6]) := by
    intro w
    refine con_of_sx (cx := cx_proof_made w (Un [])) (good_proof_made w (Un [])) b_proof_made rfl rfl (β := Va.z) [.c (.v (.pointer none)), .c (.v (.string pass)), .c (.v S), .c (.v (.int .i64 it))] 0 [] [] rfl rfl (Sat.start rfl) ?_
    intro β w' hs
    exact (hs.keepB (List.nil_sublist _)).fin [] ⟨rfl, rfl⟩
  refine con_of_sx (cx := cx_proof_Client w (Un [])) (good_proof_Client w (Un [])) b_proof_Client rfl rfl (β := Va.z) [.c (.v (.pointer none)), .c (.v (.string pass)), .c (.v S), .c (.v (.int .i64 it)), .c (.v (.string msg))] 0 [] [] rfl rfl (Sat.start rfl) ?_
  refine call_pu (fun β w' hs => hm w') ?_
  intro β w' hs
  exact (hs.keepB (List.nil_sublist _)).fin [] ⟨rfl, rfl⟩
end Go.Proofs.YtkommfddfgiobaaGreatDoor.Sx

/- The reference's names, plainly: which signs become blanks, go, may not be there; a sign's bytes. -/
namespace Go.Proofs.YtkommfddfgiobaaGreatDoor.Sx
open Go

def rblank (r : Int) : Bool := decide (r = 160 ∨ r = 5760 ∨ (8192 ≤ r ∧ r ≤ 8202) ∨ r = 8239 ∨ r = 8287 ∨ r = 12288)
def rgoes (r : Int) : Bool := decide (r = 173 ∨ (8203 ≤ r ∧ r ≤ 8205) ∨ r = 8288 ∨ (65024 ≤ r ∧ r ≤ 65039) ∨ r = 65279)
def rbars (r : Int) : Bool := decide (r ≤ 31 ∨ (127 ≤ r ∧ r ≤ 159) ∨ (8232 ≤ r ∧ r ≤ 8238) ∨ (8294 ≤ r ∧ r ≤ 8297) ∨ (57344 ≤ r ∧ r ≤ 63743) ∨ 983040 ≤ r ∨ (65529 ≤ r ∧ r ≤ 65533) ∨ (64976 ≤ r ∧ r ≤ 65007) ∨ 65534 ≤ r % 65536)
theorem rblank_eq (r : Int) : rblank r = inSp r blanksL := by
  unfold rblank inSp blanksL
  simp only [List.any_cons, List.any_nil, Bool.or_false]
  rw [Bool.eq_iff_iff]
  simp only [decide_eq_true_eq, Bool.or_eq_true, Bool.and_eq_true]
  omega
theorem rgoes_eq (r : Int) : rgoes r = inSp r nothingL := by
  unfold rgoes inSp nothingL
  simp only [List.any_cons, List.any_nil, Bool.or_false]
  rw [Bool.eq_iff_iff]
  simp only [decide_eq_true_eq, Bool.or_eq_true, Bool.and_eq_true]
  omega
theorem and_fffe {x : Nat} (hx : x < 2147483648) : bits .and .i32 (x : Int) 65534 = 65534 ↔ 65534 ≤ x % 65536 := by
  have e : bits .and .i32 (x : Int) 65534 = ((x &&& 65534 : Nat) : Int) := by
    show IntKind.i32.wrap ((((BitVec.ofInt 32 (x : Int)) &&& (BitVec.ofInt 32 65534)).toNat : Nat) : Int) = _
    have h1 : (BitVec.ofInt 32 (x : Int)).toNat = x := by rw [BitVec.toNat_ofInt]; omega
    have h2 : (BitVec.ofInt 32 65534).toNat = 65534 := by decide
    rw [BitVec.toNat_and, h1, h2]
    have := Nat.and_le_left (n := x) (m := 65534)
    exact wrap_i32 (by omega) (by omega)
  rw [e]
  have h : x &&& 65534 = (x % 65536) / 2 * 2 := by
    apply Nat.eq_of_testBit_eq
    intro i
    have h3 : (x % 65536) / 2 * 2 = ((x % 2 ^ 16) >>> 1) <<< 1 := by rw [Nat.shiftRight_eq_div_pow, Nat.shiftLeft_eq]
    have h4 : (65534 : Nat) = (2 ^ 15 - 1) <<< 1 := by decide
    rw [h3, h4, Nat.testBit_and, Nat.testBit_shiftLeft, Nat.testBit_shiftLeft, Nat.testBit_shiftRight, Nat.testBit_mod_two_pow, Nat.testBit_two_pow_sub_one]
    by_cases hi : 1 ≤ i
    · have e2 : 1 + (i - 1) = i := by omega
      have e3 : decide (i - 1 < 15) = decide (i < 16) := decide_eq_decide.2 (by omega)
      rw [decide_eq_true hi, e2, e3, Bool.true_and, Bool.true_and, Bool.and_comm]
    · rw [decide_eq_false hi]; simp
  rw [h]
  omega
theorem rbars_eq {x : Nat} (hx : x ≤ 1114111) : rbars (x : Int) = badZ (x : Int) := by
  unfold rbars badZ inSp barredL
  simp only [List.any_cons, List.any_nil, Bool.or_false]
  rw [Bool.eq_iff_iff]
  simp only [decide_eq_true_eq, Bool.or_eq_true, Bool.and_eq_true]
  rw [and_fffe (by omega)]
  omega
/-- A sign's bytes. -/
def rbytesL (r : Nat) : List UInt8 :=
  if r < 128 then [UInt8.ofNat r]
  else if r < 2048 then [UInt8.ofNat (192 + r / 64), UInt8.ofNat (128 + r % 64)]
  else if r < 65536 then [UInt8.ofNat (224 + r / 4096), UInt8.ofNat (128 + r / 64 % 64), UInt8.ofNat (128 + r % 64)]
  else [UInt8.ofNat (240 + r / 262144), UInt8.ofNat (128 + r / 4096 % 64), UInt8.ofNat (128 + r / 64 % 64), UInt8.ofNat (128 + r % 64)]
theorem low6 (y : Nat) : 128 ||| (UInt8.ofNat y &&& 63) = UInt8.ofNat (128 + y % 64) := by
  have key : ∀ n : _root_.Fin 256, 128 ||| (UInt8.ofNat n.1 &&& 63) = UInt8.ofNat (128 + n.1 % 64) := by decide +kernel
  have h := key ⟨y % 256, Nat.mod_lt _ (by decide)⟩
  have e1 : UInt8.ofNat (y % 256) = UInt8.ofNat y := by apply UInt8.toNat_inj.1; simp
  simp only [e1] at h
  rw [h]
  congr 2
  omega
theorem hi2 {y : Nat} (h : y < 32) : 192 ||| UInt8.ofNat y = UInt8.ofNat (192 + y) := by
  have key : ∀ n : _root_.Fin 32, 192 ||| UInt8.ofNat n.1 = UInt8.ofNat (192 + n.1) := by decide +kernel
  exact key ⟨y, h⟩
theorem hi3 {y : Nat} (h : y < 16) : 224 ||| UInt8.ofNat y = UInt8.ofNat (224 + y) := by
  have key : ∀ n : _root_.Fin 16, 224 ||| UInt8.ofNat n.1 = UInt8.ofNat (224 + n.1) := by decide +kernel
  exact key ⟨y, h⟩
theorem hi4 {y : Nat} (h : y < 8) : 240 ||| UInt8.ofNat y = UInt8.ofNat (240 + y) := by
  have key : ∀ n : _root_.Fin 8, 240 ||| UInt8.ofNat n.1 = UInt8.ofNat (240 + n.1) := by decide +kernel
  exact key ⟨y, h⟩
theorem encL_eq {r : Nat} (hr : r ≤ 1114111) : encL r = rbytesL r := by
  unfold rbytesL
  have hf : formOf r = if r < 128 then form0 else if r < 2048 then ⟨2, 0xe0, 0xc0, 0x80⟩ else if r < 65536 then ⟨3, 0xf0, 0xe0, 0x800⟩ else ⟨4, 0xf8, 0xf0, 0x10000⟩ := by
    simp only [formOf, Nam.fms, List.foldl_cons, List.foldl_nil, pickF, Nat.zero_le, if_true]
    by_cases h1 : r < 128
    · rw [if_pos h1, if_neg (by omega), if_neg (by omega), if_neg (by omega)]; rfl
    · by_cases h2 : r < 2048
      · rw [if_neg h1, if_pos h2, if_neg (by omega), if_neg (by omega), if_pos (by omega)]
      · by_cases h3 : r < 65536
        · rw [if_neg h1, if_neg h2, if_pos h3, if_neg (by omega), if_pos (by omega)]
        · rw [if_neg h1, if_neg h2, if_neg h3, if_pos (by omega)]
  unfold encL
  rw [hf]
  by_cases h1 : r < 128
  · rw [if_pos h1, if_pos h1]
    show [0 ||| UInt8.ofNat (r / 1)] = _
    rw [Nat.div_one, UInt8.zero_or]
  · by_cases h2 : r < 2048
    · rw [if_neg h1, if_pos h2, if_neg h1, if_pos h2]
      show [192 ||| UInt8.ofNat (r / 64), 128 ||| (UInt8.ofNat (r / 1) &&& 63)] = _
      rw [low6, hi2 (by omega), Nat.div_one]
    · by_cases h3 : r < 65536
      · rw [if_neg h1, if_neg h2, if_pos h3, if_neg h1, if_neg h2, if_pos h3]
        show [224 ||| UInt8.ofNat (r / 4096), 128 ||| (UInt8.ofNat (r / 64) &&& 63), 128 ||| (UInt8.ofNat (r / 1) &&& 63)] = _
        rw [low6, low6, hi3 (by omega), Nat.div_one]
      · rw [if_neg h1, if_neg h2, if_neg h3, if_neg h1, if_neg h2, if_neg h3]
        show [240 ||| UInt8.ofNat (r / 262144), 128 ||| (UInt8.ofNat (r / 4096) &&& 63), 128 ||| (UInt8.ofNat (r / 64) &&& 63), 128 ||| (UInt8.ofNat (r / 1) &&& 63)] = _
        rw [low6, low6, low6, hi4 (by omega), Nat.div_one]
/-- What is written of the signs of a text; none: one may not be there. -/
def prepR : List Int → Option (List UInt8)
  | [] => some []
  | z :: l => if rblank z = true then (prepR l).map ([32] ++ ·) else if rgoes z = true then prepR l else if rbars z = true then none else (prepR l).map (rbytesL z.toNat ++ ·)
theorem prepR_eq : ∀ (l : List Int), (∀ z ∈ l, ∃ x : Nat, z = (x : Int) ∧ x ≤ 1114111) → prepR l = if (l.flatMap prep1).any badZ = true then none else some ((l.flatMap prep1).flatMap encZ)
  | [], _ => rfl
  | z :: l, h => by
    obtain ⟨x, rfl, hx⟩ := h z List.mem_cons_self
    have ih := prepR_eq l (fun y hy => h y (List.mem_cons_of_mem _ hy))
    have e32 : encZ 32 = [32] := by decide
    have b32 : badZ 32 = false := by decide
    simp only [prepR, List.flatMap_cons, prep1]
    rw [rblank_eq, rgoes_eq, ih]
    by_cases h1 : inSp (x : Int) blanksL = true
    · rw [if_pos h1, if_pos h1]
      by_cases hb : (l.flatMap prep1).any badZ = true
      · rw [if_pos hb, if_pos (by rw [List.any_append, hb]; simp)]; rfl
      · rw [if_neg hb, if_neg (by rw [List.any_append]; simp only [List.any_cons, b32, List.any_nil, Bool.or_false, Bool.false_or]; exact hb)]
        simp only [Option.map_some, List.flatMap_append, List.flatMap_cons, List.flatMap_nil, e32, List.append_nil]
    · rw [if_neg h1, if_neg h1]
      by_cases h2 : inSp (x : Int) nothingL = true
      · rw [if_pos h2, if_pos h2]; rfl
      · rw [if_neg h2, if_neg h2, rbars_eq hx]
        by_cases h3 : badZ (x : Int) = true
        · rw [if_pos h3, if_pos (by rw [List.any_append, List.any_cons, h3]; rfl)]
        · rw [if_neg h3]
          have h3' : badZ (x : Int) = false := by simpa using h3
          by_cases hb : (l.flatMap prep1).any badZ = true
          · rw [if_pos hb, if_pos (by rw [List.any_append, hb]; simp)]; rfl
          · rw [if_neg hb, if_neg (by rw [List.any_append, List.any_cons, h3']; simpa using hb)]
            simp only [Option.map_some, List.flatMap_append, List.flatMap_cons, List.flatMap_nil, List.append_nil]
            rw [encZ, encL_eq (by omega)]
theorem signs_val {l : List UInt8} (hv : validB l = true) : ∀ x ∈ runesAt l 0, ∃ r : Nat, x.2 = (r : Int) ∧ Nam.sign r = true ∧ r ≤ 1114111 := by
  intro x hx
  have h := runesAt_vals l _ 0 (Nat.le_refl _)
  rw [List.drop_zero] at h
  have hm : x.2 ∈ (Nam.runes l).map runeI := by rw [← h]; exact List.mem_map.2 ⟨x, hx, rfl⟩
  obtain ⟨o, ho, he⟩ := List.mem_map.1 hm
  cases o with
  | none => have := List.all_eq_true.1 hv none ho; cases this
  | some r =>
    have hs := runes_sign l.length l (Nat.le_refl _) ho
    exact ⟨r, he.symm, hs, sign_le hs⟩
theorem rprep_eq (l : List UInt8) : prepF l = if validB l = true then (match prepR ((runesAt l 0).map (·.2)) with | none => (([], 5) : List UInt8 × Int) | some p => (p, 0)) else ([], 4) := by
  unfold prepF
  by_cases hv : validB l = true
  · rw [if_pos hv, if_pos hv]
    have h := prepR_eq ((runesAt l 0).map (·.2)) (fun z hz => by
      obtain ⟨x, hx, rfl⟩ := List.mem_map.1 hz
      obtain ⟨r, h1, _, h3⟩ := signs_val hv x hx
      exact ⟨r, h1, h3⟩)
    have e1 : prepAt (runesAt l 0) = ((runesAt l 0).map (·.2)).flatMap prep1 := by rw [prepAt, List.flatMap_map]
    rw [h, e1]
    split <;> rfl
  · rw [if_neg hv, if_neg hv]
end Go.Proofs.YtkommfddfgiobaaGreatDoor.Sx

/- The reference's signs: the first of a text. -/
namespace Go.Proofs.YtkommfddfgiobaaGreatDoor.Sx
open Go
attribute [local irreducible] Calls

/-- A first byte that others follow. -/
def lead (b : UInt8) : Option (Nat × Nat) :=
  if 194 ≤ b.toNat ∧ b.toNat ≤ 223 then some (2, b.toNat - 192)
  else if 224 ≤ b.toNat ∧ b.toNat ≤ 239 then some (3, b.toNat - 224)
  else if 240 ≤ b.toNat ∧ b.toNat ≤ 244 then some (4, b.toNat - 240)
  else none
theorem tailR_bound : ∀ {l : List UInt8} {r q : Nat}, Nam.tailR l r = some q → r * 64 ^ l.length ≤ q ∧ q < (r + 1) * 64 ^ l.length
  | [], r, q, h => by
    obtain rfl := Option.some.inj h
    simp
  | b :: t, r, q, h => by
    simp only [Nam.tailR] at h
    split at h
    · obtain ⟨h1, h2⟩ := tailR_bound h
      have hb : b.toNat % 64 < 64 := Nat.mod_lt _ (by decide)
      rw [List.length_cons, Nat.pow_succ]
      constructor
      · have : r * (64 ^ t.length * 64) = (r * 64) * 64 ^ t.length := by rw [Nat.mul_comm (64 ^ t.length), Nat.mul_assoc]
        rw [this]
        exact Nat.le_trans (Nat.mul_le_mul_right _ (by omega)) h1
      · have : (r + 1) * (64 ^ t.length * 64) = ((r + 1) * 64) * 64 ^ t.length := by rw [Nat.mul_comm (64 ^ t.length), Nat.mul_assoc]
        rw [this]
        exact Nat.lt_of_lt_of_le h2 (Nat.mul_le_mul_right _ (by omega))
    · cases h
theorem lead_bits (b : UInt8) : (b.toNat < 128 → b &&& 0x80 = 0 ∧ (b &&& ~~~0x80).toNat = b.toNat) ∧ (192 ≤ b.toNat ∧ b.toNat ≤ 223 → b &&& 0xe0 = 0xc0 ∧ (b &&& ~~~0xe0).toNat = b.toNat - 192) ∧ (224 ≤ b.toNat ∧ b.toNat ≤ 239 → b &&& 0xf0 = 0xe0 ∧ (b &&& ~~~0xf0).toNat = b.toNat - 224) ∧ (240 ≤ b.toNat ∧ b.toNat ≤ 247 → b &&& 0xf8 = 0xf0 ∧ (b &&& ~~~0xf8).toNat = b.toNat - 240) ∧ ((128 ≤ b.toNat ∧ b.toNat ≤ 191) ∨ 248 ≤ b.toNat → ¬ b &&& 0x80 = 0 ∧ ¬ b &&& 0xe0 = 0xc0 ∧ ¬ b &&& 0xf0 = 0xe0 ∧ ¬ b &&& 0xf8 = 0xf0) := by
  refine Nam.u8_all (p := fun b => (b.toNat < 128 → b &&& 0x80 = 0 ∧ (b &&& ~~~0x80).toNat = b.toNat) ∧ (192 ≤ b.toNat ∧ b.toNat ≤ 223 → b &&& 0xe0 = 0xc0 ∧ (b &&& ~~~0xe0).toNat = b.toNat - 192) ∧ (224 ≤ b.toNat ∧ b.toNat ≤ 239 → b &&& 0xf0 = 0xe0 ∧ (b &&& ~~~0xf0).toNat = b.toNat - 224) ∧ (240 ≤ b.toNat ∧ b.toNat ≤ 247 → b &&& 0xf8 = 0xf0 ∧ (b &&& ~~~0xf8).toNat = b.toNat - 240) ∧ ((128 ≤ b.toNat ∧ b.toNat ≤ 191) ∨ 248 ≤ b.toNat → ¬ b &&& 0x80 = 0 ∧ ¬ b &&& 0xe0 = 0xc0 ∧ ¬ b &&& 0xf0 = 0xe0 ∧ ¬ b &&& 0xf8 = 0xf0)) ?_ b
  decide +kernel
theorem decL_form {b : UInt8} {t : List UInt8} {f : Nam.Fm} {r0 : Nat} (hf : f ∈ Nam.fms) (hb : b &&& f.mask = f.lead) (hr : (b &&& ~~~f.mask).toNat = r0) :
    Nam.decL (b :: t) = if (b :: t).length < f.size then (none, 1) else match Nam.tailR (t.take (f.size - 1)) r0 with
      | some r => if f.least ≤ r ∧ Nam.sign r = true then (some r, f.size) else (none, 1)
      | none => (none, 1) := by
  unfold Nam.decL
  rw [Nam.find_form hf hb]
  by_cases hl : f.size ≤ (b :: t).length
  · rw [if_pos hl, if_neg (by omega)]
    simp only [Nam.tryF, hr]
    cases Nam.tailR (t.take (f.size - 1)) r0 with
    | none => rfl
    | some r =>
      simp only
      by_cases h : f.least ≤ r ∧ Nam.sign r = true
      · rw [if_pos h, if_pos h]
      · rw [if_neg h, if_neg h]
  · rw [if_neg hl, if_pos (by omega)]
theorem decL_low {b : UInt8} {t : List UInt8} (h : b.toNat < 128) : Nam.decL (b :: t) = (some b.toNat, 1) := by
  obtain ⟨h1, h2⟩ := (lead_bits b).1 h
  rw [decL_form (f := ⟨1, 0x80, 0, 0⟩) (by simp [Nam.fms]) h1 h2, if_neg (by simp)]
  show (if 0 ≤ b.toNat ∧ Nam.sign b.toNat = true then (some b.toNat, 1) else (none, 1)) = _
  rw [if_pos ⟨Nat.zero_le _, by simp only [Nam.sign, Bool.and_eq_true, Bool.or_eq_true, decide_eq_true_eq]; omega⟩]
def badR (n r : Nat) : Prop := (n = 3 ∧ r < 2048) ∨ (n = 4 ∧ r < 65536) ∨ (55296 ≤ r ∧ r ≤ 57343) ∨ 1114111 < r
theorem sign_iff {r : Nat} : Nam.sign r = true ↔ r ≤ 1114111 ∧ (r < 55296 ∨ 57343 < r) := by
  simp only [Nam.sign, Bool.and_eq_true, Bool.or_eq_true, decide_eq_true_eq]
open Classical in
theorem decL_lead {b : UInt8} {t : List UInt8} {n r0 : Nat} (h : lead b = some (n, r0)) : 2 ≤ n ∧ n ≤ 4 ∧ r0 < 32 ∧
    Nam.decL (b :: t) = if (b :: t).length < n then (none, 1) else match Nam.tailR (t.take (n - 1)) r0 with
      | some r => if badR n r then (none, 1) else (some r, n)
      | none => (none, 1) := by
  obtain ⟨_, k2, k3, k4, _⟩ := lead_bits b
  have hlt := b.toNat_lt
  have fin_ : ∀ {f : Nam.Fm}, f ∈ Nam.fms → f.size = n → b &&& f.mask = f.lead → (b &&& ~~~f.mask).toNat = r0 → (∀ r, Nam.tailR (t.take (n - 1)) r0 = some r → n ≤ (b :: t).length → ((f.least ≤ r ∧ Nam.sign r = true) ↔ ¬ badR n r)) →
      Nam.decL (b :: t) = if (b :: t).length < n then (none, 1) else match Nam.tailR (t.take (n - 1)) r0 with
        | some r => if badR n r then (none, 1) else (some r, n)
        | none => (none, 1) := by
    intro f hf hn h1 h2 hq
    subst hn
    rw [decL_form hf h1 h2]
    by_cases hl : (b :: t).length < f.size
    · rw [if_pos hl, if_pos hl]
    · rw [if_neg hl, if_neg hl]
      cases hr : Nam.tailR (t.take (f.size - 1)) r0 with
      | none => rfl
      | some r =>
        simp only
        have := hq r hr (by omega)
        by_cases hb : badR f.size r
        · rw [if_pos hb, if_neg (fun q => this.1 q hb)]
        · rw [if_neg hb, if_pos (this.2 hb)]
  unfold lead at h
  split at h
  · rename_i hh
    obtain ⟨rfl, rfl⟩ := Prod.mk.inj (Option.some.inj h)
    obtain ⟨h1, h2⟩ := k2 (by omega)
    refine ⟨by decide, by decide, by omega, fin_ (f := ⟨2, 0xe0, 0xc0, 0x80⟩) (by simp [Nam.fms]) rfl h1 h2 (fun r hr hl => ?_)⟩
    have hb := tailR_bound hr
    have hl1 : (t.take 1).length = 1 := by rw [List.length_take]; simp only [List.length_cons] at hl; omega
    rw [hl1] at hb
    rw [sign_iff]
    show (128 ≤ r ∧ _) ↔ _
    unfold badR
    omega
  · split at h
    · rename_i hh
      obtain ⟨rfl, rfl⟩ := Prod.mk.inj (Option.some.inj h)
      obtain ⟨h1, h2⟩ := k3 (by omega)
      refine ⟨by decide, by decide, by omega, fin_ (f := ⟨3, 0xf0, 0xe0, 0x800⟩) (by simp [Nam.fms]) rfl h1 h2 (fun r hr hl => ?_)⟩
      rw [sign_iff]
      show (2048 ≤ r ∧ _) ↔ _
      unfold badR
      omega
    · split at h
      · rename_i hh
        obtain ⟨rfl, rfl⟩ := Prod.mk.inj (Option.some.inj h)
        obtain ⟨h1, h2⟩ := k4 (by omega)
        refine ⟨by decide, by decide, by omega, fin_ (f := ⟨4, 0xf8, 0xf0, 0x10000⟩) (by simp [Nam.fms]) rfl h1 h2 (fun r hr hl => ?_)⟩
        rw [sign_iff]
        show (65536 ≤ r ∧ _) ↔ _
        unfold badR
        omega
      · cases h
theorem decL_bad {b : UInt8} {t : List UInt8} (h0 : ¬ b.toNat < 128) (h : lead b = none) : Nam.decL (b :: t) = (none, 1) := by
  obtain ⟨_, k2, k3, k4, k5⟩ := lead_bits b
  have hlt := b.toNat_lt
  unfold lead at h
  split at h
  · cases h
  · split at h
    · cases h
    · split at h
      · cases h
      · rename_i a1 a2 a3
        by_cases c1 : b.toNat = 192 ∨ b.toNat = 193
        · obtain ⟨h1, h2⟩ := k2 (by omega)
          rw [decL_form (f := ⟨2, 0xe0, 0xc0, 0x80⟩) (by simp [Nam.fms]) h1 h2]
          by_cases hl : (b :: t).length < 2
          · rw [if_pos hl]
          · rw [if_neg hl]
            show (match Nam.tailR (t.take 1) (b.toNat - 192) with | some r => if 128 ≤ r ∧ Nam.sign r = true then (some r, 2) else (none, 1) | none => (none, 1)) = _
            cases hr : Nam.tailR (t.take 1) (b.toNat - 192) with
            | none => rfl
            | some r =>
              have hb := tailR_bound hr
              have hl1 : (t.take 1).length = 1 := by rw [List.length_take]; simp only [List.length_cons] at hl; omega
              rw [hl1] at hb
              simp only
              rw [if_neg (by omega)]
        · by_cases c2 : 245 ≤ b.toNat ∧ b.toNat ≤ 247
          · obtain ⟨h1, h2⟩ := k4 (by omega)
            rw [decL_form (f := ⟨4, 0xf8, 0xf0, 0x10000⟩) (by simp [Nam.fms]) h1 h2]
            by_cases hl : (b :: t).length < 4
            · rw [if_pos hl]
            · rw [if_neg hl]
              show (match Nam.tailR (t.take 3) (b.toNat - 240) with | some r => if 65536 ≤ r ∧ Nam.sign r = true then (some r, 4) else (none, 1) | none => (none, 1)) = _
              cases hr : Nam.tailR (t.take 3) (b.toNat - 240) with
              | none => rfl
              | some r =>
                have hb := tailR_bound hr
                have hl1 : (t.take 3).length = 3 := by rw [List.length_take]; simp only [List.length_cons] at hl; omega
                rw [hl1] at hb
                simp only
                rw [if_neg (by rw [sign_iff]; omega)]
          · obtain ⟨p1, p2, p3, p4⟩ := k5 (by omega)
            unfold Nam.decL
            rw [Nam.find_none (fun f hf => by
              simp only [Nam.fms, List.mem_cons, List.not_mem_nil, or_false] at hf
              rcases hf with rfl | rfl | rfl | rfl
              · exact p1
              · exact p2
              · exact p3
              · exact p4)]
end Go.Proofs.YtkommfddfgiobaaGreatDoor.Sx

/- The reference's names: what becomes a blank, what goes, what may not be there; a sign's bytes. -/
namespace Go.Proofs.YtkommfddfgiobaaGreatDoor.Sx
open Go
attribute [local irreducible] Calls

theorem rblank_c (w : World) (z : Int) : Pu Tryz.prog n_ostiaryref04_blank #[.int .i64 z] w (.bool (rblank z)) := by
  refine con_of_sx (cx := cx_ostiaryref04_blank w (Un [])) (good_ostiaryref04_blank w (Un [])) b_ostiaryref04_blank rfl rfl (β := Va.z) [.c (.v (.int .i64 z))] 0 [] [] rfl rfl (Sat.start rfl) ?_
  repeat' refine BIf.dec (fun h => ?_) (fun h => ?_)
  all_goals
    intro β w' hs
    refine hs.fin [] ⟨?_, rfl⟩
    show Value.bool _ = Value.bool _
    congr 1
    unfold rblank
    rw [Bool.eq_iff_iff]
    simp only [decide_eq_true_eq, Bool.false_eq_true, true_iff, false_iff]
    omega
theorem rgoes_c (w : World) (z : Int) : Pu Tryz.prog n_ostiaryref04_goes #[.int .i64 z] w (.bool (rgoes z)) := by
  refine con_of_sx (cx := cx_ostiaryref04_goes w (Un [])) (good_ostiaryref04_goes w (Un [])) b_ostiaryref04_goes rfl rfl (β := Va.z) [.c (.v (.int .i64 z))] 0 [] [] rfl rfl (Sat.start rfl) ?_
  repeat' refine BIf.dec (fun h => ?_) (fun h => ?_)
  all_goals
    intro β w' hs
    refine hs.fin [] ⟨?_, rfl⟩
    show Value.bool _ = Value.bool _
    congr 1
    unfold rgoes
    rw [Bool.eq_iff_iff]
    simp only [decide_eq_true_eq, Bool.false_eq_true, true_iff, false_iff]
    omega
theorem rtail_c (w : World) (z : Int) : Pu Tryz.prog n_ostiaryref04_tail #[.int .u8 z] w (.bool (decide (128 ≤ z ∧ z ≤ 191))) := by
  refine con_of_sx (cx := cx_ostiaryref04_tail w (Un [])) (good_ostiaryref04_tail w (Un [])) b_ostiaryref04_tail rfl rfl (β := Va.z) [.c (.v (.int .u8 z))] 0 [] [] rfl rfl (Sat.start rfl) ?_
  repeat' refine BIf.dec (fun h => ?_) (fun h => ?_)
  all_goals
    intro β w' hs
    refine hs.fin [] ⟨?_, rfl⟩
    show Value.bool _ = Value.bool _
    congr 1
    rw [Bool.eq_iff_iff]
    simp only [decide_eq_true_eq, Bool.false_eq_true, true_iff, false_iff]
    omega
set_option maxHeartbeats 2000000 in
theorem rbars_c (w : World) (z : Int) (h0 : 0 ≤ z) : Pu Tryz.prog n_ostiaryref04_bars #[.int .i64 z] w (.bool (rbars z)) := by
  refine con_of_sx (cx := cx_ostiaryref04_bars w (Un [])) (good_ostiaryref04_bars w (Un [])) b_ostiaryref04_bars rfl rfl (β := Va.z) [.c (.v (.int .i64 z))] 0 [] [] rfl rfl (Sat.start rfl) ?_
  obtain ⟨m, hm⟩ : ∃ m, z.tmod 65536 = m := ⟨_, rfl⟩
  have hm2 : z % 65536 = m := by rw [← hm, Int.tmod_eq_emod_of_nonneg h0]
  repeat' refine BIf.dec (fun h => ?_) (fun h => ?_)
  all_goals
    try refine ⟨by decide, m, hm, ?_⟩
    intro β w' hs
    refine hs.fin [] ⟨?_, rfl⟩
    show Value.bool _ = Value.bool _
    congr 1
    unfold rbars
    rw [Bool.eq_iff_iff]
    simp only [decide_eq_true_eq, Bool.false_eq_true, true_iff, false_iff]
    omega
end Go.Proofs.YtkommfddfgiobaaGreatDoor.Sx

/- The reference's names: the sign in front. -/
namespace Go.Proofs.YtkommfddfgiobaaGreatDoor.Sx
open Go
attribute [local irreducible] Calls

set_option maxHeartbeats 2000000 in
theorem rfirst_c (w : World) (s : ByteArray) (b0 : UInt8) (t : List UInt8) (hs0 : s.data.toList = b0 :: t) (hsz : s.size ≤ maxLen) :
    Pu Tryz.prog n_ostiaryref04_first #[.string s] w (.tuple #[.int .i64 (runeI (Nam.decL (b0 :: t)).1), .int .i64 ((Nam.decL (b0 :: t)).2 : Int)]) := by
  have g := good_ostiaryref04_first w (Un [])
  have hlen : s.size = (b0 :: t).length := by rw [← hs0]; rfl
  have hml := maxLen_eq
  refine con_of_tri (cx := cx_ostiaryref04_first w (Un [])) g b_ostiaryref04_first rfl rfl (β := Va.z) [.c (.v (.string s))] 0 [] [] rfl rfl (Sat.start rfl) ?_
  have fin : ∀ (a b : Int), runeI (Nam.decL (b0 :: t)).1 = a → ((Nam.decL (b0 :: t)).2 : Int) = b → ∀ {n : Nat} {H : List Bk} {F : List Fact} (β : Va) (w' : World), Sat (cx_ostiaryref04_first w (Un [])) β n H F w' → Fin w [] (fun u Fs => u = .tuple #[.int .i64 (runeI (Nam.decL (b0 :: t)).1), .int .i64 ((Nam.decL (b0 :: t)).2 : Int)] ∧ Fs = []) (.tuple #[.int .i64 a, .int .i64 b]) w' := by
    intro a b h1 h2 n H F β w' hs
    rw [h1, h2]
    exact (hs.keepB (List.nil_sublist _)).fin [] ⟨rfl, rfl⟩
  obtain ⟨c, hc⟩ : ∃ c, b0.toNat = c := ⟨_, rfl⟩
  have hc256 : c < 256 := by rw [← hc]; exact b0.toNat_lt
  refine tri_seq g ?_
  refine tri_seq g ?_
  refine ⟨0, b0, rfl, by rw [hs0]; rfl, ?_⟩
  refine ⟨(c : Int), by rw [hc]; exact wrap_i64 (by omega) (by omega), ?_⟩
  refine tri_seq g ?_
  refine tri_seqJ (ι := Nat × Nat × Int × Int) g (fun i => lead b0 = some (i.1, i.2.1) ∧ (i.1 : Int) = i.2.2.1 ∧ (i.2.1 : Int) = i.2.2.2) 0 (fun i => [(0, .c (.v (.string s))), (5, .c (.v (.int .i64 i.2.2.1))), (6, .c (.v (.int .i64 i.2.2.2)))]) (fun _ => []) (fun _ => []) ?_ ?_
  · rintro ⟨n, r0, y, z0⟩ ⟨hld, hy, hz0⟩
    simp only at hld hy hz0
    obtain ⟨hn2, hn4, hr0, hdec⟩ := decL_lead (t := t) hld
    simp only
    refine tri_of g ?_
    refine BIf.dec (fun hsh => ?_) (fun hsh => ?_)
    · have hsh0 : (s.size : Int) < y := hsh
      rw [if_pos (by omega)] at hdec
      exact fun β w' hs => fin (-1) 1 (by rw [hdec]; rfl) (by rw [hdec]; rfl) β w' hs
    · have hsh0 : ¬ (s.size : Int) < y := hsh
      rw [if_neg (by omega)] at hdec
      have hfl : n ≤ (b0 :: t).length := by omega
      have hr256 : r0 < 256 := by omega
      refine loop_rule (ι := Nat × Nat × Int) 0 (fun q => [(0, .c (.v (.string s))), (5, .c (.v (.int .i64 y))), (6, .c (.v (.int .i64 q.2.2))), (7, .c (.v (.int .i64 (q.1 : Int))))]) (fun _ => []) (fun _ => [])
        (fun q => 1 ≤ q.1 ∧ q.1 ≤ n ∧ Nam.tailR (t.take (q.1 - 1)) r0 = some q.2.1 ∧ q.2.1 < 256 * 64 ^ (q.1 - 1) ∧ (q.2.1 : Int) = q.2.2) (fun q => n - q.1) (1, r0, z0) ⟨Nat.le_refl _, by omega, rfl, by simpa using hr256, hz0⟩ (Ent.same ⟨rfl, rfl, rfl, rfl, trivial⟩ rfl) g ?_
      rintro ⟨k, r, z⟩ ⟨hk1, hk2, htl, hrb, hz⟩
      simp only at hk1 hk2 htl hrb hz
      simp only
      refine BIf.dec (fun hks => ?_) (fun hks => ?_)
      · have hks1 : (k : Int) < y := hks
        have hkt : k - 1 < t.length := by simp only [List.length_cons] at hfl; omega
        obtain ⟨x, hx, hxm⟩ := at_lt hkt
        have hcs : s.data.toList[k]? = some x := by
          rw [hs0]
          obtain ⟨k', rfl⟩ : ∃ k', k = k' + 1 := ⟨k - 1, by omega⟩
          simpa using hx
        have hsn : t.take k = t.take (k - 1) ++ [x] := by
          have := List.take_add_one (l := t) (i := k - 1)
          rw [hx, Nat.sub_add_cancel hk1] at this
          exact this
        have hrb2 : r < 33554432 := by
          have : 64 ^ (k - 1) ≤ 64 ^ 2 := Nat.pow_le_pow_right (by decide) (by omega)
          omega
        obtain ⟨m, hm⟩ : ∃ m, x.toNat = m := ⟨_, rfl⟩
        have hm256 : m < 256 := by rw [← hm]; exact x.toNat_lt
        refine ⟨k, x, rfl, hcs, ?_⟩
        obtain ⟨bt, hbt⟩ : ∃ bt, decide (128 ≤ (m : Int) ∧ (m : Int) ≤ 191) = bt := ⟨_, rfl⟩
        refine call_pu (v := .bool bt) (fun β w' hs => by rw [← hbt, ← hm]; exact rtail_c w' (x.toNat : Int)) ?_
        cases bt with
        | true =>
          have hct := of_decide_eq_true hbt
          have hcc : x.toNat / 64 = 2 := by rw [hm]; omega
          refine ⟨((r * 64 : Nat) : Int), by rw [← hz, wrap_i64 (by omega) (by omega)]; omega, ?_⟩
          refine ⟨k, x, rfl, hcs, ?_⟩
          refine ⟨((m % 64 : Nat) : Int), by rw [hm, wrap_u8]; omega, ?_⟩
          refine ⟨((m % 64 : Nat) : Int), wrap_i64 (by omega) (by omega), ?_⟩
          refine ⟨((r * 64 + m % 64 : Nat) : Int), by rw [wrap_i64 (by omega) (by omega)]; omega, ?_⟩
          refine ⟨((k + 1 : Nat) : Int), by rw [wrap_i64 (by omega) (by omega)]; rfl, ?_⟩
          refine ⟨(k + 1, r * 64 + m % 64, ((r * 64 + m % 64 : Nat) : Int)), ⟨by show 1 ≤ k + 1; omega, by show k + 1 ≤ n; omega, ?_, ?_, rfl⟩, by show n - (k + 1) < n - k; omega, Ent.same ⟨rfl, rfl, rfl, rfl, trivial⟩ rfl⟩
          · show Nam.tailR (t.take (k + 1 - 1)) r0 = some (r * 64 + m % 64)
            rw [Nat.add_sub_cancel, hsn, tailR_snoc, htl]
            simp only
            rw [if_pos hcc, hm]
          · show r * 64 + m % 64 < 256 * 64 ^ (k + 1 - 1)
            obtain ⟨k', rfl⟩ : ∃ k', k = k' + 1 := ⟨k - 1, by omega⟩
            simp only [Nat.add_sub_cancel] at hrb ⊢
            rw [Nat.pow_succ]
            omega
        | false =>
          have hct := of_decide_eq_false hbt
          have hcc : ¬ x.toNat / 64 = 2 := fun q => hct (by rw [hm] at q; omega)
          have hnone : Nam.tailR (t.take (n - 1)) r0 = none := by
            refine Nam.tailR_none ⟨x, ?_, hcc⟩
            have h2 : x ∈ t.take k := by rw [hsn]; simp
            exact List.take_subset_take_left t (by omega) h2
          rw [hnone] at hdec
          exact fun β w' hs => fin (-1) 1 (by rw [hdec]; rfl) (by rw [hdec]; rfl) β w' hs
      · have hks1 : ¬ (k : Int) < y := hks
        obtain rfl : k = n := by omega
        rw [htl] at hdec
        simp only at hdec
        by_cases hb : badR k r
        · rw [if_pos hb] at hdec
          unfold badR at hb
          repeat' refine BIf.dec (fun h => ?_) (fun h => ?_)
          all_goals first
            | exact fun β w' hs => fin (-1) 1 (by rw [hdec]; rfl) (by rw [hdec]; rfl) β w' hs
            | (exfalso; omega)
        · rw [if_neg hb] at hdec
          unfold badR at hb
          repeat' refine BIf.dec (fun h => ?_) (fun h => ?_)
          all_goals first
            | exact fun β w' hs => fin z y (by rw [hdec]; exact hz) (by rw [hdec]; exact hy) β w' hs
            | (exfalso; omega)
  · generalize hz : (c : Int) = z
    repeat' refine BIf.dec (fun h => ?_) (fun h => ?_)
    all_goals first
      | (exfalso; omega)
      | exact fun β w' hs => fin z 1 (by rw [decL_low (by omega), ← hz, ← hc]; rfl) (by rw [decL_low (by omega)]; rfl) β w' hs
      | exact fun β w' hs => fin (-1) 1 (by rw [decL_bad (by omega) (by unfold lead; rw [hc, if_neg (by omega), if_neg (by omega), if_neg (by omega)])]; rfl) (by rw [decL_bad (by omega) (by unfold lead; rw [hc, if_neg (by omega), if_neg (by omega), if_neg (by omega)])]; rfl) β w' hs
      | (refine ⟨((c - 192 : Nat) : Int), by rw [wrap_i64 (by omega) (by omega)]; omega, ?_⟩
         exact EntX.of (2, c - 192, 2, ((c - 192 : Nat) : Int)) ⟨by show lead b0 = some (2, c - 192); unfold lead; rw [hc, if_pos (by omega)], rfl, rfl⟩ (Ent.mk' ⟨rfl, rfl, rfl, trivial⟩ rfl (fun β w' hs => hs)))
      | (refine ⟨((c - 224 : Nat) : Int), by rw [wrap_i64 (by omega) (by omega)]; omega, ?_⟩
         exact EntX.of (3, c - 224, 3, ((c - 224 : Nat) : Int)) ⟨by show lead b0 = some (3, c - 224); unfold lead; rw [hc, if_neg (by omega), if_pos (by omega)], rfl, rfl⟩ (Ent.mk' ⟨rfl, rfl, rfl, trivial⟩ rfl (fun β w' hs => hs)))
      | (refine ⟨((c - 240 : Nat) : Int), by rw [wrap_i64 (by omega) (by omega)]; omega, ?_⟩
         exact EntX.of (4, c - 240, 4, ((c - 240 : Nat) : Int)) ⟨by show lead b0 = some (4, c - 240); unfold lead; rw [hc, if_neg (by omega), if_neg (by omega), if_pos (by omega)], rfl, rfl⟩ (Ent.mk' ⟨rfl, rfl, rfl, trivial⟩ rfl (fun β w' hs => hs)))
end Go.Proofs.YtkommfddfgiobaaGreatDoor.Sx

/- The reference's names: a text's signs; a sign's bytes. -/
namespace Go.Proofs.YtkommfddfgiobaaGreatDoor.Sx
open Go
attribute [local irreducible] Calls

def signV (x : Rn) : List Value := [.int .i64 (x.1 : Int), .int .i64 x.2]
def signsV (l : List Rn) : List Value := l.flatMap signV
abbrev sgnF (A : Option Addr) (l : List Rn) (c : Nat) : Fact := rowF ty_ostiaryref04_Sign 2 (.slice A l.length c) l.length (signsV l)
theorem signsV_snoc (l : List Rn) (x : Rn) : signsV (l ++ [x]) = signsV l ++ signV x := by simp [signsV]
theorem signV_one (x : Rn) : ∀ u ∈ signV x, u.oneCell' = true := by
  intro u hu
  simp only [signV, List.mem_cons, List.not_mem_nil, or_false] at hu
  rcases hu with rfl | rfl <;> rfl
theorem rsigns_c (w : World) (s : ByteArray) (hl : s.size ≤ 1000000) :
    Con Tryz.prog n_ostiaryref04_Signs #[.string s] w [] fun v Fs => ∃ A c, v = .slice A (runesAt s.data.toList 0).length c ∧ (runesAt s.data.toList 0).length ≤ c ∧ (0 < (runesAt s.data.toList 0).length → ∃ ad, A = some ad) ∧ Fs = [sgnF A (runesAt s.data.toList 0) c] := by
  have g := good_ostiaryref04_Signs w (Un [])
  have hlen : s.data.toList.length = s.size := rfl
  have hml := maxLen_eq
  refine con_of_sx (cx := cx_ostiaryref04_Signs w (Un [])) g b_ostiaryref04_Signs rfl rfl (β := Va.z) [.c (.v (.string s))] 0 [] [sgnF none [] 0] rfl rfl ((Sat.start rfl).nilRow _ _) ?_
  refine loop_rule (ι := List Rn × Nat × Option Addr × Nat) 0 (fun i => [(0, .c (.v (.string s))), (3, .c (.v (.slice i.2.2.1 i.1.length i.2.2.2))), (4, .c (.v (.int .i64 (i.2.1 : Int))))]) (fun _ => []) (fun i => [sgnF i.2.2.1 i.1 i.2.2.2])
    (fun i => runesAt s.data.toList 0 = i.1 ++ runesAt s.data.toList i.2.1 ∧ i.2.1 ≤ s.size ∧ i.1.length ≤ i.2.1 ∧ i.1.length ≤ i.2.2.2) (fun i => s.size - i.2.1) ([], 0, none, 0) ⟨rfl, Nat.zero_le _, Nat.zero_le _, Nat.zero_le _⟩ (Ent.same ⟨rfl, rfl, rfl, trivial⟩ rfl) g ?_
  rintro ⟨pre, i, A1, c1⟩ ⟨hsc, hi, hgi, hgc⟩
  simp only at hsc hi hgi hgc
  simp only
  refine BIf.dec (fun hlt => ?_) (fun hge => ?_)
  · have hlt0 : (i : Int) < s.size := hlt
    have hil : i < s.data.toList.length := by omega
    refine ⟨s.size, i, rfl, rfl, Nat.le_refl _, hi, ?_⟩
    have hd := Nam.decL_size (drop_ne hil)
    rw [List.length_drop] at hd
    rw [runesAt_cons hil] at hsc
    obtain ⟨b0, t, hbt⟩ : ∃ b0 t, s.data.toList.drop i = b0 :: t := by
      cases h : s.data.toList.drop i with
      | nil => exact absurd h (drop_ne hil)
      | cons b t => exact ⟨b, t, rfl⟩
    obtain ⟨o, n, hon⟩ : ∃ o n, Nam.decL (s.data.toList.drop i) = (o, n) := ⟨_, _, rfl⟩
    rw [hon] at hd hsc
    simp only at hd hsc
    obtain ⟨z, hz⟩ : ∃ z, runeI o = z := ⟨_, rfl⟩
    rw [hz] at hsc
    refine call_pu (v := .tuple #[.int .i64 z, .int .i64 (n : Int)]) (fun β w' hs => by
      have h := rfirst_c w' (s.extract i s.size) b0 t (by rw [extract_drop, hbt]) (by rw [ByteArray.size_extract]; omega)
      rw [← hbt, hon, hz] at h
      exact h) ?_
    intro b1
    refine ⟨1, pre.length, pre.length + 1, signsV pre, signV (i, z), signsV (pre ++ [(i, z)]), rfl, fun β w hs => row_rd (hs.get 0 rfl), signV_one _, rfl, (signsV_snoc _ _).symm, by rw [maxLen_eq]; omega, by show (pre.length + 1) * 16 ≤ _; omega, ?_⟩
    intro A' c' q1 q2 _
    refine ⟨((i + n : Nat) : Int), by rw [wrap_i64 (by omega) (by omega)]; rfl, ?_⟩
    have hle : (pre ++ [(i, z)] : List Rn).length = pre.length + 1 := by simp
    refine ⟨(pre ++ [(i, z)], i + n, A', c'), ⟨by show runesAt s.data.toList 0 = pre ++ [(i, z)] ++ runesAt s.data.toList (i + n); rw [hsc]; simp, by show i + n ≤ s.size; omega, by show (pre ++ [(i, z)] : List Rn).length ≤ i + n; omega, by show (pre ++ [(i, z)] : List Rn).length ≤ c'; omega⟩, by show s.size - (i + n) < s.size - i; omega, ?_⟩
    simp only [sgnF, hle]
    exact Ent.mk' ⟨rfl, rfl, rfl, trivial⟩ rfl (fun β w' hs => hs.weaken (List.Sublist.refl _) (List.sublist_cons_self _ _))
  · have hge0 : ¬ (i : Int) < s.size := hge
    rw [runesAt_end (l := s.data.toList) (i := i) (by omega), List.append_nil] at hsc
    intro β w' hs
    rw [hsc]
    refine hs.fin [0] ⟨A1, c1, rfl, hgc, fun h => ?_, rfl⟩
    obtain ⟨ad, h1, _⟩ := (row_rd (hs.get 0 rfl)).2 (by omega)
    exact ⟨ad, h1⟩
theorem quoN {r : Nat} (k : Nat) (h : r < 9223372036854775808) : IntKind.i64.wrap ((r : Int).tdiv (k : Int)) = ((r / k : Nat) : Int) := by
  rw [← Int.ofNat_tdiv]
  have := Nat.div_le_self r k
  generalize r / k = q at this ⊢
  exact wrap_i64 (by omega) (by omega)
theorem quoZ {r : Nat} {z : Int} (hz : (r : Int) = z) (k : Nat) (h : r < 9223372036854775808) : IntKind.i64.wrap (z.tdiv (k : Int)) = ((r / k : Nat) : Int) := by rw [← hz]; exact quoN k h
theorem remZ {r : Nat} {z : Int} (hz : (r : Int) = z) (k : Nat) : z.tmod (k : Int) = ((r % k : Nat) : Int) := by rw [← hz]; exact (Int.ofNat_tmod r k).symm
theorem u8Z {r : Nat} {z : Int} (hz : (r : Int) = z) : IntKind.u8.wrap z = ((UInt8.ofNat r).toNat : Int) := by rw [← hz]; exact wrap_u8b r
theorem remN (r k : Nat) : (r : Int).tmod (k : Int) = ((r % k : Nat) : Int) := (Int.ofNat_tmod r k).symm
theorem addN {k x : Nat} (h : k + x < 9223372036854775808) : IntKind.i64.wrap ((k : Int) + (x : Int)) = ((k + x : Nat) : Int) := by
  rw [wrap_i64 (by omega) (by omega)]; rfl
theorem rbytes_c (w : World) (r : Nat) (z : Int) (hz : (r : Int) = z) (hsg : Nam.sign r = true) :
    Con Tryz.prog n_ostiaryref04_Bytes #[.int .i64 z] w [] fun v Fs => ∃ A c, v = .slice A (rbytesL r).length c ∧ (rbytesL r).length ≤ c ∧ c ≤ maxLen ∧ Fs = [browF ty_uint8 A (rbytesL r) c] := by
  have hs2 := sign_iff.1 hsg
  have hml := maxLen_eq
  obtain ⟨l, hl⟩ : ∃ l, rbytesL r = l := ⟨_, rfl⟩
  rw [hl]
  refine con_of_sx (cx := cx_ostiaryref04_Bytes w (Un [])) (good_ostiaryref04_Bytes w (Un [])) b_ostiaryref04_Bytes rfl rfl (β := Va.z) [.c (.v (.int .i64 z))] 0 [] [] rfl rfl (Sat.start rfl) ?_
  repeat' refine BIf.dec (fun h => ?_) (fun h => ?_)
  all_goals first
    | (exfalso; omega)
    | (have e : l = [UInt8.ofNat r] := by rw [← hl]; unfold rbytesL; rw [if_pos (by omega)]
       subst e
       refine ⟨_, u8Z hz, ?_⟩
       intro b β w' hs
       exact hs.fin [0] ⟨_, 1, rfl, Nat.le_refl 1, by rw [maxLen_eq]; decide, rfl⟩)
    | (have e : l = [UInt8.ofNat (192 + r / 64), UInt8.ofNat (128 + r % 64)] := by rw [← hl]; unfold rbytesL; rw [if_neg (by omega), if_pos (by omega)]
       subst e
       refine ⟨by decide, _, quoZ hz 64 (by omega), _, addN (k := 192) (by omega), _, wrap_u8b _, by decide, _, remZ hz 64, _, addN (k := 128) (by omega), _, wrap_u8b _, ?_⟩
       intro b β w' hs
       exact hs.fin [0] ⟨_, 2, rfl, Nat.le_refl 2, by rw [maxLen_eq]; decide, rfl⟩)
    | (have e : l = [UInt8.ofNat (224 + r / 4096), UInt8.ofNat (128 + r / 64 % 64), UInt8.ofNat (128 + r % 64)] := by rw [← hl]; unfold rbytesL; rw [if_neg (by omega), if_neg (by omega), if_pos (by omega)]
       subst e
       refine ⟨by decide, _, quoZ hz 4096 (by omega), _, addN (k := 224) (by omega), _, wrap_u8b _, by decide, _, quoZ hz 64 (by omega), by decide, _, remN (r / 64) 64, _, addN (k := 128) (by omega), _, wrap_u8b _, by decide, _, remZ hz 64, _, addN (k := 128) (by omega), _, wrap_u8b _, ?_⟩
       intro b β w' hs
       exact hs.fin [0] ⟨_, 3, rfl, Nat.le_refl 3, by rw [maxLen_eq]; decide, rfl⟩)
    | (have e : l = [UInt8.ofNat (240 + r / 262144), UInt8.ofNat (128 + r / 4096 % 64), UInt8.ofNat (128 + r / 64 % 64), UInt8.ofNat (128 + r % 64)] := by rw [← hl]; unfold rbytesL; rw [if_neg (by omega), if_neg (by omega), if_neg (by omega)]
       subst e
       refine ⟨by decide, _, quoZ hz 262144 (by omega), _, addN (k := 240) (by omega), _, wrap_u8b _, by decide, _, quoZ hz 4096 (by omega), by decide, _, remN (r / 4096) 64, _, addN (k := 128) (by omega), _, wrap_u8b _, by decide, _, quoZ hz 64 (by omega), by decide, _, remN (r / 64) 64, _, addN (k := 128) (by omega), _, wrap_u8b _, by decide, _, remZ hz 64, _, addN (k := 128) (by omega), _, wrap_u8b _, ?_⟩
       intro b β w' hs
       exact hs.fin [0] ⟨_, 4, rfl, Nat.le_refl 4, by rw [maxLen_eq]; decide, rfl⟩)
end Go.Proofs.YtkommfddfgiobaaGreatDoor.Sx

/- The reference's names: prepared; sized; plain ones. -/
namespace Go.Proofs.YtkommfddfgiobaaGreatDoor.Sx
open Go
attribute [local irreducible] Calls

theorem runesAt_neg {l : List UInt8} {x : Rn} (hx : x ∈ runesAt l 0) : x.2 = -1 ∨ 0 ≤ x.2 := by
  have h := runesAt_vals l _ 0 (Nat.le_refl _)
  rw [List.drop_zero] at h
  have hm : x.2 ∈ (Nam.runes l).map runeI := by rw [← h]; exact List.mem_map.2 ⟨x, hx, rfl⟩
  obtain ⟨o, _, he⟩ := List.mem_map.1 hm
  cases o with
  | none => exact .inl he.symm
  | some r => right; rw [← he]; exact Int.natCast_nonneg r
theorem signRd {w : World} {ad : Addr} {L : List Rn} (h : Rd 2 (some ad) L.length (signsV L) w) {k : Nat} {x : Rn} (hx : L[k]? = some x) : ∀ j u, (signV x)[j]? = some u → w.cell? ((ad.add (k * 2)).add j) = some u := by
  obtain ⟨hil, hie⟩ := List.getElem?_eq_some_iff.1 hx
  have h2 := Rd.elem (f := signV) (fun _ => rfl) h rfl hil
  rw [hie] at h2
  exact h2
structure PrR where
  k : Nat
  out : List UInt8
  A : Option Addr
  c : Nat
theorem rbytesL_len (r : Nat) : (rbytesL r).length ≤ 4 := by
  unfold rbytesL
  split
  · exact (by decide : 1 ≤ 4)
  · split
    · exact (by decide : 2 ≤ 4)
    · split
      · exact (by decide : 3 ≤ 4)
      · exact Nat.le_refl 4
set_option maxHeartbeats 1000000 in
theorem rprepare_c (w : World) (s : ByteArray) (hl : s.size ≤ 100000) :
    Pu Tryz.prog n_ostiaryref04_Prepare #[.string s] w (.tuple #[.string (mkS (prepF s.data.toList).1), .int .i64 (prepF s.data.toList).2]) := by
  have g := good_ostiaryref04_Prepare w (Un [])
  have hml := maxLen_eq
  have hlen : s.data.toList.length = s.size := rfl
  have hLl := runesAt_len s.data.toList _ 0 (Nat.le_refl _)
  obtain ⟨p, e, hpe⟩ : ∃ p e, prepF s.data.toList = (p, e) := ⟨_, _, rfl⟩
  rw [hpe]
  have hpr := rprep_eq s.data.toList
  rw [hpe] at hpr
  have fin : ∀ (q : List UInt8) (d : Int), (p, e) = (q, d) → ∀ {n : Nat} {H : List Bk} {F : List Fact} (β : Va) (w' : World), Sat (cx_ostiaryref04_Prepare w (Un [])) β n H F w' → Fin w [] (fun u Fs => u = .tuple #[.string (mkS (p, e).1), .int .i64 (p, e).2] ∧ Fs = []) (.tuple #[.string (mkS q), .int .i64 d]) w' := by
    intro q d h n H F β w' hs
    rw [h]
    exact (hs.keepB (List.nil_sublist _)).fin [] ⟨rfl, rfl⟩
  refine con_of_sx (cx := cx_ostiaryref04_Prepare w (Un [])) g b_ostiaryref04_Prepare rfl rfl (β := Va.z) [.c (.v (.string s))] 0 [] [] rfl rfl (Sat.start rfl) ?_
  refine call_con [] (fun β w' hs => rsigns_c w' s (by omega)) ?_
  rintro v Fs ⟨A, c, rfl, hc, hA, rfl⟩
  have hneg := fun (x : Rn) (hx : x ∈ runesAt s.data.toList 0) => runesAt_neg hx
  have hvi := valid_iff s.data.toList
  have hsv := fun hv => signs_val (l := s.data.toList) hv
  generalize runesAt s.data.toList 0 = L at *
  generalize validB s.data.toList = bv at *
  have hL2 : L.length ≤ 100000 := by omega
  refine loop_rule 0 (fun k : Nat => [(4, .c (.v (.slice A L.length c))), (12, .c (.v (.slice A L.length c))), (13, .c (.v (.int .i64 L.length))), (14, .c (.v (.int .i64 (k : Int))))]) (fun _ => []) (fun _ => [sgnF A L c])
    (fun k => k ≤ L.length ∧ ∀ x ∈ L.take k, x.2 ≠ -1) (fun k => L.length - k) 0 ⟨Nat.zero_le _, fun x h => by cases h⟩ (Ent.same ⟨rfl, rfl, rfl, rfl, trivial⟩ rfl) g ?_
  rintro k ⟨hk, hall⟩
  refine BIf.dec (fun hlt => ?_) (fun hge => ?_)
  · have hlt0 : (k : Int) < L.length := hlt
    have hkl : k < L.length := by omega
    obtain ⟨x, hx, hxm⟩ := at_lt hkl
    obtain ⟨ad, rfl⟩ := hA (by omega)
    have hsn : L.take (k + 1) = L.take k ++ [x] := by rw [List.take_add_one, hx]; rfl
    refine ⟨ad, k, rfl, rfl, hkl, signV x, rfl, fun β w' hs => signRd (row_rd (hs.get 0 rfl)) hx, ?_⟩
    refine BIf.dec (fun h0 => ?_) (fun h0 => ?_)
    · have h00 : x.2 < 0 := h0
      have hx1 : x.2 = -1 := by rcases hneg x hxm with h | h; exact h; omega
      have hbv : ¬ bv = true := fun q => hvi.1 q x hxm hx1
      rw [if_neg hbv] at hpr
      exact fun β w' hs => fin [] 4 hpr β w' hs
    · have h00 : ¬ x.2 < 0 := h0
      refine ⟨((k + 1 : Nat) : Int), by rw [wrap_i64 (by omega) (by omega)]; rfl, ?_⟩
      refine ⟨k + 1, ⟨by omega, fun y hy => ?_⟩, by omega, Ent.mk' ⟨rfl, rfl, rfl, rfl, trivial⟩ rfl (fun β w hs => (hs.keepB (List.nil_sublist _)).lower)⟩
      rw [hsn] at hy
      rcases List.mem_append.1 hy with q | q
      · exact hall y q
      · obtain rfl := List.mem_singleton.1 q
        omega
  · have hge0 : ¬ (k : Int) < L.length := hge
    obtain rfl : k = L.length := by omega
    rw [List.take_length] at hall
    have hbv : bv = true := hvi.2 hall
    rw [if_pos hbv] at hpr
    have hsv := hsv hbv
    refine loop_rule (ι := PrR) 0 (fun i => [(7, .c (.v (.slice i.A i.out.length i.c))), (22, .c (.v (.slice A L.length c))), (23, .c (.v (.int .i64 L.length))), (24, .c (.v (.int .i64 (i.k : Int))))]) (fun _ => []) (fun i => [browF ty_uint8 i.A i.out i.c, sgnF A L c])
      (fun i => i.k ≤ L.length ∧ prepR (L.map (·.2)) = (prepR ((L.drop i.k).map (·.2))).map (i.out ++ ·) ∧ i.out.length ≤ i.c ∧ i.out.length ≤ 4 * i.k) (fun i => L.length - i.k) ⟨0, [], none, 0⟩ ⟨Nat.zero_le _, by rw [List.drop_zero]; cases prepR (L.map (·.2)) <;> rfl, Nat.zero_le _, Nat.zero_le _⟩ (Ent.mk' ⟨rfl, rfl, rfl, rfl, trivial⟩ rfl (fun β w hs => hs.nilRow _ _)) g ?_
    rintro ⟨k, out, A1, c1⟩ ⟨hk, hinv, hoc, hol⟩
    simp only at hk hinv hoc hol
    simp only
    refine BIf.dec (fun hlt => ?_) (fun hge => ?_)
    · have hlt0 : (k : Int) < L.length := hlt
      have hkl : k < L.length := by omega
      obtain ⟨x, hx, hxm⟩ := at_lt hkl
      obtain ⟨ad, rfl⟩ := hA (by omega)
      have hdr : L.drop k = x :: L.drop (k + 1) := by
        obtain ⟨h1, h2⟩ := List.getElem?_eq_some_iff.1 hx
        rw [List.drop_eq_getElem_cons h1, h2]
      rw [hdr, List.map_cons, prepR] at hinv
      obtain ⟨r, hxr, hsg, hr⟩ := hsv x hxm
      obtain ⟨z, hz⟩ : ∃ z, x.2 = z := ⟨_, rfl⟩
      rw [hz] at hinv hxr
      obtain ⟨x1, x2⟩ := x
      simp only at hz
      subst hz
      refine ⟨ad, k, rfl, rfl, hkl, signV (x1, x2), rfl, fun β w' hs => signRd (row_rd (hs.get 1 rfl)) hx, ?_⟩
      obtain ⟨b1, hb1⟩ : ∃ b1, rblank x2 = b1 := ⟨_, rfl⟩
      refine call_pu (v := .bool b1) (fun β w' hs => by rw [← hb1]; exact rblank_c w' x2) ?_
      cases b1 with
      | true =>
        rw [if_pos hb1] at hinv
        intro b2
        refine ⟨1, out.length, out.length + 1, out.map byte, [32].map byte, (out ++ [32]).map byte, rfl, fun β w hs => row_rd (hs.get 0 rfl), bytes_one _, rfl, List.map_append.symm, by rw [maxLen_eq]; omega, by show (out.length + 1) * 1 ≤ _; omega, ?_⟩
        intro A' c' q1 q2 _
        refine ⟨((k + 1 : Nat) : Int), by rw [wrap_i64 (by omega) (by omega)]; rfl, ?_⟩
        have hle : (out ++ [32] : List UInt8).length = out.length + 1 := by simp
        refine ⟨⟨k + 1, out ++ [32], A', c'⟩, ⟨by show k + 1 ≤ _; omega, ?_, by show (out ++ [32] : List UInt8).length ≤ c'; omega, by show (out ++ [32] : List UInt8).length ≤ 4 * (k + 1); omega⟩, by show L.length - (k + 1) < L.length - k; omega, ?_⟩
        · rw [hinv]
          show _ = (prepR ((L.drop (k + 1)).map (·.2))).map (out ++ [32] ++ ·)
          cases prepR ((L.drop (k + 1)).map (·.2)) with
          | none => rfl
          | some q => simp
        · simp only [browF, hle]
          exact Ent.mk' ⟨rfl, rfl, rfl, rfl, trivial⟩ rfl (fun β w hs => ((hs.perm [1, 2]).keepB (List.nil_sublist _)).lower)
      | false =>
        rw [if_neg (by rw [hb1]; decide)] at hinv
        obtain ⟨b2, hb2⟩ : ∃ b2, rgoes x2 = b2 := ⟨_, rfl⟩
        refine call_pu (v := .bool b2) (fun β w' hs => by rw [← hb2]; exact rgoes_c w' x2) ?_
        cases b2 with
        | true =>
          rw [if_pos hb2] at hinv
          refine ⟨((k + 1 : Nat) : Int), by rw [wrap_i64 (by omega) (by omega)]; rfl, ?_⟩
          exact ⟨⟨k + 1, out, A1, c1⟩, ⟨by show k + 1 ≤ _; omega, hinv, hoc, by show out.length ≤ 4 * (k + 1); omega⟩, by show L.length - (k + 1) < L.length - k; omega, Ent.mk' ⟨rfl, rfl, rfl, rfl, trivial⟩ rfl (fun β w hs => (hs.keepB (List.nil_sublist _)).lower)⟩
        | false =>
          rw [if_neg (by rw [hb2]; decide)] at hinv
          obtain ⟨b3, hb3⟩ : ∃ b3, rbars x2 = b3 := ⟨_, rfl⟩
          refine call_pu (v := .bool b3) (fun β w' hs => by rw [← hb3]; exact rbars_c w' x2 (by omega)) ?_
          cases b3 with
          | true =>
            rw [if_pos hb3] at hinv
            have hno : prepR (L.map (·.2)) = none := hinv
            rw [hno] at hpr
            exact fun β w' hs => fin [] 5 hpr β w' hs
          | false =>
            rw [if_neg (by rw [hb3]; decide)] at hinv
            refine call_con [] (fun β w' hs => rbytes_c w' r x2 hxr.symm hsg) ?_
            rintro v Fs ⟨A2, c2, rfl, hc2, hm2, rfl⟩
            have hrl := rbytesL_len r
            rw [hxr, Int.toNat_natCast] at hinv
            generalize rbytesL r = bs at *
            refine ⟨1, out.length, out.length + bs.length, out.map byte, bs.map byte, (out ++ bs).map byte, rfl, fun β w hs => row_rd (hs.get 0 rfl), bytes_one _, rfl, List.map_append.symm, by rw [maxLen_eq]; omega, by show (out.length + bs.length) * 1 ≤ _; omega, ?_⟩
            intro A' c' q1 q2 _
            refine ⟨((k + 1 : Nat) : Int), by rw [wrap_i64 (by omega) (by omega)]; rfl, ?_⟩
            have hle : (out ++ bs).length = out.length + bs.length := List.length_append
            refine ⟨⟨k + 1, out ++ bs, A', c'⟩, ⟨by show k + 1 ≤ _; omega, ?_, by show (out ++ bs).length ≤ c'; omega, by show (out ++ bs).length ≤ 4 * (k + 1); omega⟩, by show L.length - (k + 1) < L.length - k; omega, ?_⟩
            · rw [hinv]
              show _ = (prepR ((L.drop (k + 1)).map (·.2))).map (out ++ bs ++ ·)
              cases prepR ((L.drop (k + 1)).map (·.2)) with
              | none => rfl
              | some q => simp
            · simp only [browF, hle]
              exact Ent.mk' ⟨rfl, rfl, rfl, rfl, trivial⟩ rfl (fun β w hs => ((hs.perm [1, 2]).keepB (List.nil_sublist _)).lower)
    · have hge0 : ¬ (k : Int) < L.length := hge
      obtain rfl : k = L.length := by omega
      rw [List.drop_length] at hinv
      have hso : prepR (L.map (·.2)) = some out := by rw [hinv]; simp [prepR]
      rw [hso] at hpr
      refine ⟨out, fun β w hs => row_rd (hs.get 0 rfl), ?_⟩
      exact fun β w' hs => fin out 0 hpr β w' hs
theorem rsized_c (w : World) (s : ByteArray) (most : Nat) (hl : s.size ≤ 100000) :
    Pu Tryz.prog n_ostiaryref04_Sized #[.string s, .int .i64 (most : Int)] w (.tuple #[.string (mkS (sizF s.data.toList most).1), .int .i64 (sizF s.data.toList most).2]) := by
  have g := good_ostiaryref04_Sized w (Un [])
  refine con_of_sx (cx := cx_ostiaryref04_Sized w (Un [])) g b_ostiaryref04_Sized rfl rfl (β := Va.z) [.c (.v (.string s)), .c (.v (.int .i64 (most : Int)))] 0 [] [oldF w] rfl rfl (old_sat rfl) ?_
  obtain ⟨p, e, hpe⟩ : ∃ p e, prepF s.data.toList = (p, e) := ⟨_, _, rfl⟩
  have hz : sizF s.data.toList most = if e = 0 then if p = [] then ([], 2) else if most < p.length then ([], 3) else (p, 0) else ([], e) := by unfold sizF; rw [hpe]
  refine call_pu (v := .tuple #[.string (mkS p), .int .i64 e]) (fun β w' hs => by
    have h := rprepare_c w' s hl
    rw [hpe] at h
    exact h) ?_
  have fin : ∀ (q : List UInt8) (d : Int), sizF s.data.toList most = (q, d) → ∀ {n : Nat} {H : List Bk} {F : List Fact} (β : Va) (w' : World), Sat (cx_ostiaryref04_Sized w (Un [])) β n H F w' → Fin w [] (fun u Fs => u = .tuple #[.string (mkS (sizF s.data.toList most).1), .int .i64 (sizF s.data.toList most).2] ∧ Fs = []) (.tuple #[.string (mkS q), .int .i64 d]) w' := by
    intro q d h n H F β w' hs
    rw [h]
    exact (hs.keepB (List.nil_sublist _)).fin [] ⟨rfl, rfl⟩
  have hsz : (mkS p).size = p.length := by simp [mkS, ByteArray.size]
  refine BIf.not (BIf.dec (fun he => ?_) (fun he => ?_))
  · have he0 : e = 0 := he
    rw [if_pos he0] at hz
    refine BIf.dec (fun hp => ?_) (fun hp => ?_)
    · have hp0 : ((mkS p).size : Int) = 0 := hp
      rw [hsz] at hp0
      have hp1 : p = [] := List.length_eq_zero_iff.1 (by omega)
      rw [if_pos hp1] at hz
      exact fun β w' hs => fin [] 2 hz β w' hs
    · have hp0 : ¬ ((mkS p).size : Int) = 0 := hp
      rw [hsz] at hp0
      rw [if_neg (fun q => hp0 (by rw [q]; rfl))] at hz
      refine BIf.dec (fun hm => ?_) (fun hm => ?_)
      · have hm0 : (most : Int) < ((mkS p).size : Int) := hm
        rw [hsz] at hm0
        rw [if_pos (by omega)] at hz
        exact fun β w' hs => fin [] 3 hz β w' hs
      · have hm0 : ¬ (most : Int) < ((mkS p).size : Int) := hm
        rw [hsz] at hm0
        rw [if_neg (by omega)] at hz
        exact fun β w' hs => fin p 0 hz β w' hs
  · have he0 : ¬ e = 0 := he
    rw [if_neg he0] at hz
    exact fun β w' hs => fin [] e hz β w' hs
end Go.Proofs.YtkommfddfgiobaaGreatDoor.Sx

/- What a client tells, by the reference. -/
namespace Go.Proofs.YtkommfddfgiobaaGreatDoor.Sx
open Go
attribute [local irreducible] Calls

set_option maxHeartbeats 2000000 in
theorem rclient_c (w : World) (b : Nat) (B : Bx.Box) (y : Lay) (pass : ByteArray) (S : Option Addr) (salt : List UInt8) (cS : Nat) (it : Int) (msg : ByteArray) (hts : y.ts.map (·.1) = B.L) (hi : BInv B) (hL : B.L.length < 4000) (hp : pass.size ≤ 100000) (hsl : salt.length ≤ 100000) (hmsg : msg.size ≤ 1000000)
    (hm : Mem w [rbxF b B y, bsF S salt, oddF 4]) :
    Con Tryz.prog n_ostiaryref19_Client #[ptrB b, .string pass, .slice S salt.length cS, .int .i64 it, .string msg] w [rbxF b B y] (clOut (rbxF b) (clR B pass salt it msg.data.toList)) := by
  have g := good_ostiaryref19_Client w (Un [rbxF b B y])
  have hml := maxLen_eq
  have hs0 : Sat (cx_ostiaryref19_Client w (Un [rbxF b B y])) Va.z 0 [] [rbxF b B y, bsF S salt, oddF 4] w := hm.sat0 rfl (ownIn (Gs := [rbxF b B y]) (fun f hf => by
    simp only [List.mem_cons, List.not_mem_nil, or_false] at hf
    rcases hf with rfl | rfl <;> rfl))
  refine con_of_sx (cx := cx_ostiaryref19_Client w (Un [rbxF b B y])) g b_ostiaryref19_Client rfl rfl (β := Va.z) [.c (.v (ptrB b)), .c (.v (.string pass)), .c (.v (.slice S salt.length cS)), .c (.v (.int .i64 it)), .c (.v (.string msg))] 0 [] _ rfl rfl hs0 ?_
  have bad : ∀ {e : Int}, clErr pass salt.length it = e → ¬ e = 0 → ∀ {n : Nat} {H : List Bk} (β : Va) (w' : World), Sat (cx_ostiaryref19_Client w (Un [rbxF b B y])) β n H [rbxF b B y, bsF S salt, oddF 4] w' → Fin w [rbxF b B y] (clOut (rbxF b) (clR B pass salt it msg.data.toList)) (.tuple #[.slice none 0 0, .slice none 0 0, .int .i64 e]) w' := by
    intro e h h0 n H β w' hs
    exact (((hs.keepB (List.nil_sublist _)).nilRow ty_uint8 1).nilRow ty_uint8 1).fin [0, 1, 2] (clOut_no hts h h0) rfl rfl rfl ⟨rfl, rfl, rfl, trivial⟩
  obtain ⟨pn, pe, hpn⟩ : ∃ pn pe, passA pass = (pn, pe) := ⟨_, _, rfl⟩
  have hpl := passA_len pass
  rw [hpn] at hpl
  simp only at hpl
  refine call_pu (v := .tuple #[.string pn, .int .i64 pe]) (fun β w' hs => by
    have h := rsized_c w' pass 64 hp
    have e : (mkS (sizF pass.data.toList 64).1, (sizF pass.data.toList 64).2) = (pn, pe) := hpn
    obtain ⟨e1, e2⟩ := Prod.mk.inj e
    rw [e1, e2] at h
    exact h) ?_
  refine BIf.not (BIf.dec (fun h2 => ?_) (fun h2 => ?_))
  rotate_left
  · exact fun β w' hs => bad (by unfold clErr; rw [hpn, if_pos h2]) h2 β w' hs
  obtain rfl : pe = 0 := h2
  have badS : saltedN salt.length it = false → clErr pass salt.length it = 1 := fun h => by unfold clErr; rw [hpn, if_neg (by simp), if_pos h]
  refine BIf.dec (fun h3 => ?_) (fun h3 => ?_)
  · have h30 : (salt.length : Int) < 1 := h3
    exact fun β w' hs => bad (badS (by rw [saltedN_iff]; exact decide_eq_false (by omega))) (by decide) β w' hs
  have h30 : ¬ (salt.length : Int) < 1 := h3
  refine BIf.dec (fun h4 => ?_) (fun h4 => ?_)
  · have h40 : (32 : Int) < (salt.length : Int) := h4
    exact fun β w' hs => bad (badS (by rw [saltedN_iff]; exact decide_eq_false (by omega))) (by decide) β w' hs
  have h40 : ¬ (32 : Int) < (salt.length : Int) := h4
  refine BIf.dec (fun h5 => ?_) (fun h5 => ?_)
  · have h50 : it < 1 := h5
    exact fun β w' hs => bad (badS (by rw [saltedN_iff]; exact decide_eq_false (by omega))) (by decide) β w' hs
  have h50 : ¬ it < 1 := h5
  refine BIf.dec (fun h6 => ?_) (fun h6 => ?_)
  · have h60 : (64 : Int) < it := h6
    exact fun β w' hs => bad (badS (by rw [saltedN_iff]; exact decide_eq_false (by omega))) (by decide) β w' hs
  have h60 : ¬ (64 : Int) < it := h6
  have hb2 : saltedN salt.length it = true := by rw [saltedN_iff]; exact decide_eq_true (by omega)
  have h0 : clErr pass salt.length it = 0 := by unfold clErr; rw [hpn, if_neg (by simp), if_neg (by rw [hb2]; decide)]
  clear bad badS
  have hpl2 : pn.data.toList.length ≤ 64 := hpl
  have hG := cl_good hi hL (p := pn.data.toList) (salt := salt) (it := it.toNat) (msg := msg.data.toList) (by omega) (by omega) hmsg (by omega)
  have hout : clR B pass salt it msg.data.toList = ⟨0, (cl6 B pn.data.toList salt it.toNat msg.data.toList).1, (cl7 B pn.data.toList salt it.toNat msg.data.toList).1, (cl7 B pn.data.toList salt it.toNat msg.data.toList).2⟩ := by unfold clR; rw [if_pos h0, hpn]
  rw [hout]
  have l1 := hG.g1.1.len
  have l2 := hG.g2.1.len
  have l3 := hG.g3.1.len
  have l4 := hG.g4.1.len
  have l5 := hG.g5.1.len
  have l6 := hG.g6.1.len
  have k1 := hG.g1.2.1
  have k2 := hG.g2.2.1
  have k3 := hG.g3.2.1
  have k4 := hG.g4.2.1
  have k5 := hG.g5.2.1
  intro bp cp hcp _
  refine call_con [1] (R := outL (rbxF b) (mk1 B pn.data.toList salt it.toNat)) (fun β w' hs => rstrL_c w' b B y (some ⟨bp, 0, none⟩) S pn.data.toList salt cp cS it ⟨by omega, by omega⟩ hts hi (by omega) (by omega) (by omega) ((hs.unown 0 rfl).mem.take (js := [1, 0, 2, 3]) rfl)) ?_
  rintro v Fs ⟨A1, c1, y1, rfl, q1, q2, hts1, rfl⟩
  intro bc
  refine ⟨0, _, rfl, ?_⟩
  refine call_con [2] (R := outL (rbxF b) (mk2 B pn.data.toList salt it.toNat)) (fun β w' hs => rmacL_c w' b _ y1 A1 (some ⟨bc, 0, none⟩) _ clientK c1 10 hts1 hG.g1.1.inv (by omega) (by omega) (by decide) ((hs.ro 1 rfl).mem.take (js := [2, 1, 0, 5]) rfl)) ?_
  rintro v Fs ⟨A2, c2, y2, rfl, q3, q4, hts2, rfl⟩
  refine call_con [1] (R := outL (rbxF b) (mk3 B pn.data.toList salt it.toNat)) (fun β w' hs => rhashL_c w' b _ y2 A2 _ c2 hts2 hG.g2.1.inv (by omega) (by omega) ((hs.ro 0 rfl).mem.take (js := [1, 0, 6]) rfl)) ?_
  rintro v Fs ⟨A3, c3, y3, rfl, q7, q8, hts3, rfl⟩
  intro bs
  refine ⟨0, _, rfl, ?_⟩
  refine call_con [2] (R := outL (rbxF b) (mk4 B pn.data.toList salt it.toNat)) (fun β w' hs => rmacL_c w' b _ y3 A1 (some ⟨bs, 0, none⟩) _ serverK c1 10 hts3 hG.g3.1.inv (by omega) (by omega) (by decide) ((hs.ro 5 rfl).mem.take (js := [2, 5, 0, 8]) rfl)) ?_
  rintro v Fs ⟨A4, c4, y4, rfl, q9, q10, hts4, rfl⟩
  intro bm cm hcm _
  refine call_con [2] (R := outL (rbxF b) (cl5 B pn.data.toList salt it.toNat msg.data.toList)) (fun β w' hs => rmacL_c w' b _ y4 A3 (some ⟨bm, 0, none⟩) _ msg.data.toList c3 cm hts4 hG.g4.1.inv (by omega) (by omega) hmsg (((hs.unown 0 rfl).ro 4 rfl).mem.take (js := [2, 4, 0, 10]) rfl)) ?_
  rintro v Fs ⟨A5, c5, y5, rfl, q11, q12, hts5, rfl⟩
  refine call_con [1] (R := outL (rbxF b) (cl6 B pn.data.toList salt it.toNat msg.data.toList)) (fun β w' hs => rturnL_c w' b _ _ y5 A2 A5 _ _ _ c2 c5 hG.t hG.g6.2.1 hts5 hG.g5.1.inv (((hs.ro 0 rfl).ro 6 rfl).mem.take (js := [1, 6, 0]) rfl) q3 q11 (by omega) (by omega)) ?_
  rintro v Fs ⟨A6, c6, y6, rfl, q13, q14, hts6, rfl⟩
  intro bm2 cm2 hcm2 _
  refine call_con [2] (R := outL (rbxF b) (cl7 B pn.data.toList salt it.toNat msg.data.toList)) (fun β w' hs => rmacL_c w' b _ y6 A4 (some ⟨bm2, 0, none⟩) _ msg.data.toList c4 cm2 hts6 hG.g6.1.inv (by omega) (by omega) hmsg (((hs.unown 0 rfl).ro 5 rfl).mem.take (js := [2, 5, 0, 13]) rfl)) ?_
  rintro v Fs ⟨A7, c7, y7, rfl, q15, q16, hts7, rfl⟩
  intro β w' hs
  exact (hs.keepB (List.nil_sublist _)).fin [0, 3, 1] ⟨A6, c6, A7, c7, y7, rfl, q13, q15, hts7, rfl⟩ rfl rfl rfl ⟨rfl, rfl, rfl, trivial⟩
theorem few19 (it : Int) : ∃ r : Int, ∀ w, Pu Tryz.prog n_ostiarylaw19_few #[.int .i64 it] w (.int .i64 r) := by
  refine ⟨if 4 < it then IntKind.i64.wrap (it.tmod 4 + max 0 (IntKind.i64.wrap ((IntKind.i64.wrap (it.tdiv 4)).tmod 2 * 64))) else it, fun w => ?_⟩
  refine con_of_sx (cx := cx_ostiarylaw19_few w (Un [])) (good_ostiarylaw19_few w (Un [])) b_ostiarylaw19_few rfl rfl (β := Va.z) [.c (.v (.int .i64 it))] 0 [] [] rfl rfl (Sat.start rfl) ?_
  refine BIf.dec (fun h => ?_) (fun h => ?_)
  · have h1 : 4 < it := h
    rw [if_pos h1]
    obtain ⟨x1, e1⟩ : ∃ x1, it.tmod 4 = x1 := ⟨_, rfl⟩
    refine ⟨by decide, x1, e1, ?_⟩
    obtain ⟨x2, e2⟩ : ∃ x2, IntKind.i64.wrap (it.tdiv 4) = x2 := ⟨_, rfl⟩
    refine ⟨by decide, x2, e2, ?_⟩
    obtain ⟨x3, e3⟩ : ∃ x3, x2.tmod 2 = x3 := ⟨_, rfl⟩
    refine ⟨by decide, x3, e3, ?_⟩
    obtain ⟨x4, e4⟩ : ∃ x4, IntKind.i64.wrap (x3 * 64) = x4 := ⟨_, rfl⟩
    refine ⟨x4, e4, ?_⟩
    obtain ⟨x5, e5⟩ : ∃ x5, max 0 x4 = x5 := ⟨_, rfl⟩
    refine ⟨x5, e5, ?_⟩
    obtain ⟨r', e6⟩ : ∃ r', IntKind.i64.wrap (x1 + x5) = r' := ⟨_, rfl⟩
    refine ⟨r', e6, ?_⟩
    rw [e1, e2, e3, e4, e5, e6]
    exact fun β w' hs => hs.fin [] ⟨rfl, rfl⟩
  · have h1 : ¬ 4 < it := h
    rw [if_neg h1]
    exact fun β w' hs => hs.fin [] ⟨rfl, rfl⟩
end Go.Proofs.YtkommfddfgiobaaGreatDoor.Sx

/- Texts joined by colons, as bytes. -/
namespace Go.Proofs.YtkommfddfgiobaaGreatDoor.Sx
open Go Sha
attribute [local irreducible] Calls

theorem joined_c (w : World) (b c : Nat) (xs : List ByteArray) (hP : Rd 1 (some ⟨b, 0, none⟩) xs.length (xs.map Value.string) w) (hb : b < w.heap.size) (hN : xs.length ≤ 1000) (hcap : xs.length ≤ c) (hlen : (joinB xs ⟨#[58]⟩).size ≤ 140737488355328) :
    Con Tryz.prog n_proof_joined #[.slice (some ⟨b, 0, none⟩) xs.length c] w [] fun v Fs => ∃ A c', v = .slice A (joinB xs ⟨#[58]⟩).size c' ∧ Fs = [rdoF 1 A (joinB xs ⟨#[58]⟩).size ((bl_ (joinB xs ⟨#[58]⟩)).map byte)] := by
  have hl : (Lib.join (xs.map (·.data.toList)) [58]).length ≤ 140737488355328 := hlen
  refine con_of_sx (cx := cx_proof_joined w (Un [])) (good_proof_joined w (Un [])) b_proof_joined rfl rfl (β := Va.z) [.c (.v (.slice (some ⟨b, 0, none⟩) xs.length c))] 0 [] [oldF w] rfl rfl (old_sat rfl) ?_
  refine call_pu (fun β w' hs => join_c w' b c xs ⟨#[58]⟩ (hP.old (hs.get 0 rfl)) (Nat.lt_of_lt_of_le hb hs.chg.size) hN hcap hl) ?_
  intro b2 c2 h1 h2
  intro β w' hs
  exact hs.fin [0] ⟨_, c2, rfl, rfl⟩
end Go.Proofs.YtkommfddfgiobaaGreatDoor.Sx

/- What answers a challenge, by a plain box. -/
namespace Go.Proofs.YtkommfddfgiobaaGreatDoor.Sx
open Go Sha
attribute [local irreducible] Calls

theorem bk_old {W w : World} {b ty : Nat} {cs : List Value} (h : (bkF b ty cs).p W) (ho : (oldF W).p w) : (bkF b ty cs).p w :=
  (ho b (Array.getElem?_eq_some_iff.1 (show W.heap[b]? = some _ from h)).1).trans h
theorem count_c (w : World) (n : Nat) (hn : n < 4294967296) : Pu Tryz.prog n_digest_Count #[.int .u32 n] w (.string ⟨(hexB (Bx.be4 n)).toArray⟩) := by
  have g := good_digest_Count w (Un [])
  refine con_of_sx (cx := cx_digest_Count w (Un [])) g b_digest_Count rfl rfl (β := Va.z) [.c (.v (.int .u32 n))] 0 [] [] rfl rfl (Sat.start rfl) ?_
  refine ⟨by decide, _, shr_nat n 24, _, wrap_u8b _, by decide, _, shr_nat n 16, _, wrap_u8b _, by decide, _, shr_nat n 8, _, wrap_u8b _, _, wrap_u8b _, ?_⟩
  intro b
  refine call_pu (fun β w' hs => hex_c w' (some ⟨b, 0, none⟩) (Bx.be4 n) 4 (row_rd (hs.get 0 rfl)) (by intro q; cases q) (by show 4 ≤ 1000000; decide)) ?_
  intro β w' hs
  exact hs.fin [] ⟨rfl, rfl⟩

def colon : ByteArray := ⟨#[58]⟩
/-- A plain box's hash of texts, with colons between. -/
theorem ha1_c (w : World) (b : Nat) (full : Bool) (L m : Value) (x y z : ByteArray) (hb : (boxF b false full L m).p w) (hs1 : (joinB [x, y, z] colon).size ≤ 100000) (h1 : (oddF 3).p w) (h0 : (firstF 0).p w) :
    Con Tryz.prog n_proof_HA1 #[.pointer (some ⟨b, 0, none⟩), .string x, .string y, .string z] w [] fun v Fs => ∃ A c, v = .slice A 32 c ∧ 32 ≤ c ∧ c ≤ maxLen ∧ Fs = [browF ty_uint8 A (Sha.sum (bl_ (joinB [x, y, z] colon))) c] := by
  have g := good_proof_HA1 w (Un [])
  refine con_of_sx (cx := cx_proof_HA1 w (Un [])) g b_proof_HA1 rfl rfl (β := Va.z) [.c (.v (.pointer (some ⟨b, 0, none⟩))), .c (.v (.string x)), .c (.v (.string y)), .c (.v (.string z))] 0 [] [oldF w] rfl rfl (old_sat rfl) ?_
  intro b1
  refine call_con [] (fun β w' hs => joined_c w' b1 3 [x, y, z] (row_rd (hs.get 0 rfl)) (hs.getLt 0 rfl b1 rfl) (by show 3 ≤ 1000; decide) (Nat.le_refl 3) (Nat.le_trans hs1 (by decide))) ?_
  rintro v Fs ⟨A, c, rfl, rfl⟩
  intro b2
  refine call_con [] (fun β w' hs => hash1_c w' b full L m (some ⟨b2, 0, none⟩) A 1 c (bl_ (joinB [x, y, z] colon)) (bk_old hb (hs.get 3 rfl)) (row_rd (hs.get 0 rfl)) (hs.get 1 rfl) (Nat.le_trans hs1 (by decide)) (Rd.old h1 (hs.get 3 rfl)) (Rd.old h0 (hs.get 3 rfl))) ?_
  rintro v Fs ⟨A3, c3, rfl, q1, q2, rfl⟩
  intro β w' hs
  exact hs.fin [0] ⟨A3, c3, rfl, q1, q2, rfl⟩
end Go.Proofs.YtkommfddfgiobaaGreatDoor.Sx

/- What answers a challenge, by a plain box: the whole. -/
namespace Go.Proofs.YtkommfddfgiobaaGreatDoor.Sx
open Go Sha
attribute [local irreducible] Calls

/-- An answer's eight parts. -/
structure AnsA where
  user : ByteArray
  realm : ByteArray
  nonce : ByteArray
  uri : ByteArray
  cnonce : ByteArray
  opaq : ByteArray
  nc : Nat
  proof : Value
def AnsA.cells (a : AnsA) : List Value := [.string a.user, .string a.realm, .string a.nonce, .string a.uri, .string a.cnonce, .string a.opaq, .int .u32 a.nc, a.proof]
def AnsA.sls (a : AnsA) : List SL := [.v (.string a.user), .v (.string a.realm), .v (.string a.nonce), .v (.string a.uri), .v (.string a.cnonce), .v (.string a.opaq), .v (.int .u32 a.nc), .v a.proof]
def hexS (l : List UInt8) : ByteArray := ⟨(hexB l).toArray⟩
def auth : ByteArray := ⟨#[97, 117, 116, 104]⟩
def ha2S (method : ByteArray) (a : AnsA) : List UInt8 := Sha.sum (bl_ (joinB [method, a.uri] colon))
def respL (ha1 : List UInt8) (method : ByteArray) (a : AnsA) : List ByteArray := [hexS ha1, a.nonce, hexS (Bx.be4 a.nc), a.cnonce, auth, hexS (ha2S method a)]
def respT (ha1 : List UInt8) (method : ByteArray) (a : AnsA) : ByteArray := joinB (respL ha1 method a) colon
theorem response_c (w : World) (b : Nat) (full : Bool) (L m : Value) (A : Option Addr) (ha1 : List UInt8) (c : Nat) (method : ByteArray) (a : AnsA) (hb : (boxF b false full L m).p w) (hr : Bs w A ha1) (hl : ha1.length = 32) (hn : a.nc < 4294967296)
    (hs1 : (joinB [method, a.uri] colon).size ≤ 100000) (hs2 : (respT ha1 method a).size ≤ 100000) (h1 : (oddF 3).p w) (h0 : (firstF 0).p w) :
    Con Tryz.prog n_proof_Response #[.pointer (some ⟨b, 0, none⟩), .slice A ha1.length c, .string method, .agg a.cells.toArray] w [] fun v Fs => ∃ A c, v = .slice A 32 c ∧ 32 ≤ c ∧ c ≤ maxLen ∧ Fs = [browF ty_uint8 A (Sha.sum (bl_ (respT ha1 method a))) c] := by
  have g := good_proof_Response w (Un [])
  refine con_of_sx (cx := cx_proof_Response w (Un [])) g b_proof_Response rfl rfl (β := Va.z) [.c (.v (.pointer (some ⟨b, 0, none⟩))), .c (.v (.slice A ha1.length c)), .c (.v (.string method)), .agg a.sls] 0 [] [oldF w] rfl rfl (old_sat rfl) ?_
  intro b1
  refine call_con [] (fun β w' hs => joined_c w' b1 2 [method, a.uri] (row_rd (hs.get 0 rfl)) (hs.getLt 0 rfl b1 rfl) (by show 2 ≤ 1000; decide) (Nat.le_refl 2) (Nat.le_trans hs1 (by decide))) ?_
  rintro v Fs ⟨A1, c1, rfl, rfl⟩
  intro b2
  refine call_con [] (fun β w' hs => hash1_c w' b full L m (some ⟨b2, 0, none⟩) A1 1 c1 (bl_ (joinB [method, a.uri] colon)) (bk_old hb (hs.get 3 rfl)) (row_rd (hs.get 0 rfl)) (hs.get 1 rfl) (Nat.le_trans hs1 (by decide)) (Rd.old h1 (hs.get 3 rfl)) (Rd.old h0 (hs.get 3 rfl))) ?_
  rintro v Fs ⟨A3, c3, rfl, q1, q2, rfl⟩
  have hS : ∀ {n : Nat} {F : List Fact}, Sub (cx_proof_Response w (Un [])) n [⟨0, ty_digest_Answer, a.sls⟩] F [⟨0, ty_digest_Answer, a.sls⟩] [] := fun {n F} => Sub.of (List.Sublist.refl _) (List.nil_sublist _)
  refine draw_rule g p_proof_Response_2 (by kernel_rfl) [⟨0, ty_digest_Answer, a.sls⟩] [] hS ?_
  have hne1 : ha1 ≠ [] := by intro q; rw [q] at hl; cases hl
  refine call_pu (fun β w' hs => hex_c w' A ha1 c (hr.old (hs.get 4 rfl)) hne1 (by omega)) ?_
  refine ⟨hS, ?_⟩
  refine call_pu (fun β w' hs => count_c w' a.nc hn) ?_
  refine ⟨hS, ?_⟩
  refine call_pu (fun β w' hs => hex_c w' A3 (ha2S method a) c3 (row_rd (hs.get 0 rfl)) (by intro q; have := congrArg List.length q; rw [ha2S, Sha.sum_len] at this; cases this) (by rw [ha2S, Sha.sum_len]; decide)) ?_
  refine ⟨hS, ?_⟩
  intro b3
  refine ⟨hS, ?_⟩
  refine call_con [] (fun β w' hs => joined_c w' b3 6 (respL ha1 method a) (row_rd (hs.get 0 rfl)) (hs.getLt 0 rfl b3 rfl) (by show 6 ≤ 1000; decide) (Nat.le_refl 6) (Nat.le_trans hs2 (by decide))) ?_
  rintro v Fs ⟨A4, c4, rfl, rfl⟩
  refine ⟨hS, ?_⟩
  intro b4
  refine ⟨hS, ?_⟩
  refine call_con [] (fun β w' hs => hash1_c w' b full L m (some ⟨b4, 0, none⟩) A4 1 c4 (bl_ (respT ha1 method a)) (bk_old hb (hs.get 7 rfl)) (row_rd (hs.get 0 rfl)) (hs.get 1 rfl) (Nat.le_trans hs2 (by decide)) (Rd.old h1 (hs.get 7 rfl)) (Rd.old h0 (hs.get 7 rfl))) ?_
  rintro v Fs ⟨A5, c5, rfl, q3, q4, rfl⟩
  refine ⟨hS, ?_⟩
  intro β w' hs
  exact (hs.keepB (List.nil_sublist _)).fin [0] ⟨A5, c5, rfl, q3, q4, rfl⟩
end Go.Proofs.YtkommfddfgiobaaGreatDoor.Sx

/- The document's example of a digest: it is right. -/
namespace Go.Proofs.YtkommfddfgiobaaGreatDoor.Sx
open Go Sha
attribute [local irreducible] Calls

def x_user : ByteArray := ⟨#[77, 117, 102, 97, 115, 97]⟩
def x_realm : ByteArray := ⟨#[104, 116, 116, 112, 45, 97, 117, 116, 104, 64, 101, 120, 97, 109, 112, 108, 101, 46, 111, 114, 103]⟩
def x_pass : ByteArray := ⟨#[67, 105, 114, 99, 108, 101, 32, 111, 102, 32, 76, 105, 102, 101]⟩
def x_get : ByteArray := ⟨#[71, 69, 84]⟩
def x_uri : ByteArray := ⟨#[47, 100, 105, 114, 47, 105, 110, 100, 101, 120, 46, 104, 116, 109, 108]⟩
def x_nonce : ByteArray := ⟨#[55, 121, 112, 102, 47, 120, 108, 106, 57, 88, 88, 119, 102, 68, 80, 69, 111, 77, 52, 85, 82, 114, 118, 47, 120, 119, 102, 57, 52, 66, 99, 67, 65, 122, 70, 90, 72, 52, 71, 105, 84, 111, 48, 118]⟩
def x_cn : ByteArray := ⟨#[102, 50, 47, 119, 69, 52, 113, 55, 52, 69, 54, 122, 73, 74, 69, 116, 87, 97, 72, 75, 97, 102, 53, 119, 118, 47, 72, 53, 81, 122, 122, 112, 88, 117, 115, 113, 71, 101, 109, 120, 85, 82, 90, 74]⟩
def x_ha1 : List UInt8 := [121, 135, 198, 76, 48, 226, 95, 27, 116, 190, 83, 249, 102, 180, 155, 144, 242, 128, 138, 169, 47, 175, 154, 0, 38, 35, 146, 215, 180, 121, 66, 50]
def x_resp : List UInt8 := [117, 57, 39, 250, 14, 133, 209, 85, 86, 78, 46, 39, 42, 40, 209, 128, 44, 161, 13, 175, 68, 150, 121, 70, 151, 207, 141, 181, 133, 108, 182, 193]
def x_ans : AnsA := ⟨⟨#[]⟩, ⟨#[]⟩, x_nonce, x_uri, x_cn, ⟨#[]⟩, 1, .slice none 0 0⟩
theorem x_sum1 : Sha.sum (bl_ (joinB [x_user, x_realm, x_pass] colon)) = x_ha1 := by decide +kernel
theorem x_sum2 : Sha.sum (bl_ (respT x_ha1 x_get x_ans)) = x_resp := by decide +kernel
theorem x_size1 : (joinB [x_user, x_realm, x_pass] colon).size ≤ 100000 := by decide +kernel
theorem x_size2 : (joinB [x_get, x_uri] colon).size ≤ 100000 := by decide +kernel
theorem x_size3 : (respT x_ha1 x_get x_ans).size ≤ 100000 := by decide +kernel
theorem x_four : (x_resp.drop 0).take (4 - 0) = [117, 57, 39, 250] := by decide
theorem awake19_c (w : World) (h1 : (oddF 3).p w) (h0 : (firstF 0).p w) : Pu Tryz.prog n_ostiarylaw19_awake #[] w (.bool true) := by
  have g := good_ostiarylaw19_awake w (Un [])
  refine con_of_sx (cx := cx_ostiarylaw19_awake w (Un [])) g b_ostiarylaw19_awake rfl rfl (β := Va.z) [] 0 [] [oldF w] rfl rfl (old_sat rfl) ?_
  refine call_con [] (fun β w' hs => new_c w' false) ?_
  rintro v Fs ⟨b, m, rfl, rfl⟩
  refine draw_rule g p_ostiarylaw19_awake_3 (by kernel_rfl) [⟨0, ty_digest_Answer, x_ans.sls⟩] [] (Sub.of (List.Sublist.refl _) (List.nil_sublist _)) ?_
  refine call_con [] (fun β w' hs => ha1_c w' b false (.slice none 0 0) (.map (some m)) x_user x_realm x_pass (hs.get 0 rfl) x_size1 (Rd.old h1 (hs.get 2 rfl)) (Rd.old h0 (hs.get 2 rfl))) ?_
  rintro v Fs ⟨A1, c1, rfl, q1, q2, rfl⟩
  rw [x_sum1]
  refine ⟨Sub.of (List.Sublist.refl _) (List.nil_sublist _), ?_⟩
  refine call_con [] (fun β w' hs => response_c w' b false (.slice none 0 0) (.map (some m)) A1 x_ha1 c1 x_get x_ans (hs.get 1 rfl) (row_rd (hs.get 0 rfl)) rfl (by decide) x_size2 x_size3 (Rd.old h1 (hs.get 3 rfl)) (Rd.old h0 (hs.get 3 rfl))) ?_
  rintro v Fs ⟨A2, c2, rfl, q3, q4, rfl⟩
  rw [x_sum2]
  refine ⟨Sub.of (List.Sublist.refl _) (List.nil_sublist _), ?_⟩
  refine ⟨c2, 4, 0, 4, c2, _, rfl, rfl, rfl, Nat.le_refl _, by omega, Nat.zero_le _, rfl, rfl, rfl, ?_⟩
  intro b5
  refine call_pu (fun β w' hs => pu_of (same_c w' (cutA A2 c2 0 1) (some ⟨b5, 0, none⟩) [117, 57, 39, 250] [117, 57, 39, 250] c2 4 (Bs.cutB (row_rd (hs.get 1 rfl)) q3 (Nat.zero_le 4) (by decide) x_four) (row_rd (hs.get 0 rfl)))) ?_
  intro β w' hs
  exact hs.fin [] ⟨rfl, rfl⟩
end Go.Proofs.YtkommfddfgiobaaGreatDoor.Sx

/- ProofClients. -/
namespace Go.Proofs.YtkommfddfgiobaaGreatDoor.Sx
open Go
attribute [local irreducible] Calls

set_option maxHeartbeats 4000000 in
theorem proofClients_c (w : World) (sym : Bool) (p0 : ByteArray) (S : Option Addr) (salt : List UInt8) (cS : Nat) (it0 : Int) (m0 : ByteArray) (hp0 : p0.size ≤ maxLen) (hm0 : m0.size ≤ maxLen) (hcS : salt.length ≤ cS)
    (hm : Mem w [bsF S salt, oddF 3, firstF 0, oddF 4, namF]) :
    Con Tryz.prog n_ostiarylaw19_ProofClients #[.bool sym, .string p0, .slice S salt.length cS, .int .i64 it0, .string m0] w [] fun v Fs => v = .bool true ∧ Fs = [] := by
  have g := good_ostiarylaw19_ProofClients w (Un [])
  have hml := maxLen_eq
  have hlim : 40 ≤ lim := by rw [lim_eq]; decide
  have hs0 : Sat (cx_ostiarylaw19_ProofClients w (Un [])) Va.z 0 [] [bsF S salt, oddF 3, firstF 0, oddF 4, namF] w := hm.sat0 rfl (ownIn (Gs := []) (fun f hf => by
    simp only [List.mem_cons, List.not_mem_nil, or_false] at hf
    rcases hf with rfl | rfl | rfl | rfl | rfl <;> rfl))
  refine con_of_tri (cx := cx_ostiarylaw19_ProofClients w (Un [])) g b_ostiarylaw19_ProofClients rfl rfl (β := Va.z) [.c (.v (.bool sym)), .c (.v (.string p0)), .c (.v (.slice S salt.length cS)), .c (.v (.int .i64 it0)), .c (.v (.string m0))] 0 [] _ rfl rfl hs0 ?_
  refine tri_seq g ?_
  refine tri_seq g ?_
  refine call_pu (fun β w' hs => awake19_c w' (hs.get 1 rfl) (hs.get 2 rfl)) ?_
  refine tri_seq g ?_
  refine call_pu (fun β w' hs => cutText_c w' p0 80 hp0 (by decide)) ?_
  have z0 := cut_size' p0 80
  generalize p0.extract 0 (min p0.size 80) = p at z0 ⊢
  have hs40 : (salt.take 40).length ≤ 40 := by rw [List.length_take]; omega
  refine call_con [] (fun β w' hs => cutC w' S salt cS 40 (hs.get 0 rfl) hcS hlim) ?_
  generalize salt.take 40 = sa at hs40 ⊢
  rintro v Fs ⟨A0, c0, rfl, q0, _, rfl⟩
  refine call_pu (fun β w' hs => cutText_c w' m0 200 hm0 (by decide)) ?_
  have z2 := cut_size' m0 200
  generalize m0.extract 0 (min m0.size 200) = msg at z2 ⊢
  obtain ⟨it, hit⟩ := few19 it0
  refine call_pu (fun β w' hs => hit w') ?_
  refine tri_seq g ?_
  refine call_con [] (fun β w' hs => newX_c w' sym) ?_
  rintro v Fs ⟨b, y0, rfl, hy0, rfl⟩
  refine reify_tri 0 (fun _ => [.bool sym, .slice none 0 0, .bool false]) rfl rfl (fun _ => rfl) (fun rb => ?_)
  refine tri_sat (fun β w' hs => hs.rbx0) ?_
  refine tri_seq g ?_
  refine call_con [1] (R := clOut (bxF b) (clR (box0 sym) p sa it msg.data.toList)) (fun β w' hs => client_c w' b (box0 sym) y0 p A0 sa c0 it msg (by rw [hy0]; rfl) (box0_inv sym) (by show 0 < 4000; decide) (by omega) (by omega) (by omega) ((hs.ro 2 rfl).mem.take (js := [1, 2, 4, 5, 7]) rfl)) ?_
  rintro v Fs ⟨A1, c1, A2, c2, y1, rfl, _, _, hts1, rfl⟩
  refine tri_seq g ?_
  refine call_con [3] (R := clOut (rbxF rb) (clR (box0 sym) p sa it msg.data.toList)) (fun β w' hs => rclient_c w' rb (box0 sym) lay0 p A0 sa c0 it msg rfl (box0_inv sym) (by show 0 < 4000; decide) (by omega) (by omega) (by omega) ((hs.ro 4 rfl).mem.take (js := [3, 4, 8]) rfl)) ?_
  rintro v Fs ⟨A3, c3, A4, c4, y2, rfl, _, _, hts2, rfl⟩
  generalize clR (box0 sym) p sa it msg.data.toList = r at *
  obtain ⟨e, pf, vd, B'⟩ := r
  simp only at hts1 hts2
  obtain ⟨N, hN⟩ : ∃ N : Int, (B'.L.length : Int) = N := ⟨_, rfl⟩
  refine tri_seq g ?_
  refine call_pu (fun β w' hs => clientN_c w' p msg (.slice A0 sa.length c0) it) ?_
  refine tri_seq g ?_
  refine draw_rule g p_ostiarylaw19_ProofClients_8 (by kernel_rfl) [] [rbxF rb B' y2] (subPerm [2]) ?_
  refine call_pu (v := .bool true) (fun β w' hs => by
    have k1 := pu_of (same_c w' A1 A3 pf pf c1 c3 (row_rd (hs.get 4 rfl)) (row_rd (hs.get 1 rfl)))
    rw [decide_eq_true rfl] at k1
    exact k1) ?_
  refine ⟨subPerm [2], ?_⟩
  refine call_pu (v := .bool true) (fun β w' hs => by
    have k1 := pu_of (same_c w' A2 A4 vd vd c2 c4 (row_rd (hs.get 3 rfl)) (row_rd (hs.get 0 rfl)))
    rw [decide_eq_true rfl] at k1
    exact k1) ?_
  refine ⟨subPerm [2], ?_⟩
  refine BIf.dec (fun _ => ?_) (fun h => absurd rfl h)
  refine ⟨.slice y2.A B'.L.length y2.c, fun β w' hs => bk_cell (rbx_bk (hs.get 0 rfl)) (o := 1) rfl, ?_⟩
  refine call_pu (v := .int .i64 N) (fun β w' hs => by rw [← hN]; exact lenX_c w' b B' y1 (hs.get 5 rfl) (hs.getLt 5 rfl)) ?_
  refine ⟨subPerm [2], ?_⟩
  refine BIf.dec (fun _ => ?_) (fun h => absurd hN.symm h)
  refine tri_of g ?_
  intro β w' hs
  exact (hs.keepB (List.nil_sublist _)).fin [] ⟨rfl, rfl⟩
end Go.Proofs.YtkommfddfgiobaaGreatDoor.Sx

/- What a statement's proof has of its arguments, in this executor's words. -/
namespace Go.Proofs.YtkommfddfgiobaaGreatDoor.Sx
open Go Go.RowKit

theorem below_of {w w' : World} (h : Chg None_ w w') : Below w.heap.size w w' :=
  ⟨h.os, h.tape, h.output, h.size, fun k hk => h.same k hk (fun q => q)⟩
end Go.Proofs.YtkommfddfgiobaaGreatDoor.Sx

/- Tables that are laid: what their cells are. -/
namespace Go.Proofs.YtkommfddfgiobaaGreatDoor.Sx
open Go

theorem rd_of_ints {H : Type} {enc : TypeId × Value → H} {P : Program} {W : World} {base : Nat} {sp : Nat → Bool} {held : Bool} {fuel g n : Nat} {t e : TypeId} {k : IntKind} {cs : Array Value} {zs : List Int} {q : List MemPlace}
    (ht : P.underlying t = some (.array n e)) (he : P.underlying e = some (.int k)) (hc : P.cellsOf e = 1) (hd : DataW.trod enc P W base sp held fuel t cs.toList = some (.agg (zs.map fun z => .lit (.int k z)), q)) (hcell : ∀ j, W.cell? ⟨g, j, none⟩ = cs[j]?) :
    Rd 1 (some ⟨g, 0, none⟩) zs.length (zs.map (Value.int k)) W := by
  obtain ⟨xs, m, _, hx, hlen, hn, hel⟩ := DataW.trod_array ht hd
  simp only [Prod.mk.injEq, DataW.agg.injEq] at hx
  have hzn : zs.length = n := by
    have h9 := congrArg List.length hx.1
    simp only [List.length_map] at h9
    omega
  refine ⟨by simp, fun hp => ⟨_, rfl, fun j u hu => ?_⟩⟩
  rw [List.getElem?_map] at hu
  obtain ⟨z, hz, rfl⟩ := Option.map_eq_some_iff.1 hu
  have hj : j < zs.length := (List.getElem?_eq_some_iff.1 hz).1
  have h1 := hel j (by omega)
  have h2 : (xs.map (·.1))[j]? = some (.lit (.int k z)) := by rw [← hx.1, List.getElem?_map, hz]; rfl
  rw [List.getElem?_map] at h2
  obtain ⟨x, hxj, hx1⟩ := Option.map_eq_some_iff.1 h2
  rw [hxj, hc, Nat.mul_one] at h1
  obtain ⟨y, e1, e2, _⟩ := DataW.trod_int he h1
  have hy : y = z := by
    rw [e2] at hx1
    simpa using hx1
  subst hy
  rw [add_none, Nat.zero_add, hcell j, ← Array.getElem?_toList]
  have h3 := congrArg (fun l => l[0]?) e1
  simpa [List.getElem?_drop] using h3
theorem opens_string {P : Program} {w : World} {m : Nat} {t : TypeId} {s : ByteArray} (ht : P.underlying t = some .string) (h : Opens P w m t (Value.cells (.string s)).toList) : s.size ≤ maxLen := by
  cases m with
  | zero => exact h.elim
  | succ m =>
    unfold Opens at h
    rw [ht] at h
    obtain ⟨s', h1, h2⟩ := h
    simp [Value.cells] at h1
    subst h1
    exact h2
abbrev u32s (l : List UInt32) : List Int := l.map fun x => (x.toNat : Int)
theorem rd_u32 {g : Nat} {W : World} {l : List UInt32} (h : Rd 1 (some ⟨g, 0, none⟩) (u32s l).length ((u32s l).map (Value.int .u32)) W) : Rd 1 (some ⟨g, 0, none⟩) l.length (l.map u32) W := by
  have e : (u32s l).map (Value.int .u32) = l.map u32 := by rw [List.map_map]; rfl
  rw [e, List.length_map] at h
  exact h
end Go.Proofs.YtkommfddfgiobaaGreatDoor.Sx

/- Tables that are laid, of any plain types: their cells are what they hold, in order. -/
namespace Go.Proofs.YtkommfddfgiobaaGreatDoor.Sx
open Go

mutual
def lits {H : Type} : DataW H → Option (List Value)
  | .lit (.int k n) => some [.int k n]
  | .lit (.bool b) => some [.bool b]
  | .lit (.string l) => some [.string ⟨l.toArray⟩]
  | .agg ps => litsL ps
  | _ => none
def litsL {H : Type} : List (DataW H) → Option (List Value)
  | [] => some []
  | d :: r => match lits d, litsL r with
    | some a, some b => some (a ++ b)
    | _, _ => none
end
def contig (P : Program) : List Field → Nat → Option Nat
  | [], o => some o
  | f :: r, o => if f.offset = o then contig P r (o + P.cellsOf f.type) else none
def flatB (P : Program) : Nat → TypeId → Bool
  | 0, _ => false
  | n + 1, t => match P.underlying t with
    | some (.int _) | some .bool | some .string => true
    | some (.struct fs) => (match contig P fs.toList 0 with | some e => Nat.beq e (P.cellsOf t) | none => false) && fs.toList.all fun f => flatB P n f.type
    | some (.array m e) => Nat.beq (m * P.cellsOf e) (P.cellsOf t) && flatB P n e
    | _ => false
section
variable {H : Type} {enc : TypeId × Value → H} {P : Program} {w : World} {base : Nat} {sp : Nat → Bool} {held : Bool}
theorem fields_cat (m : Nat) (cs : List Value) : ∀ (fs : List Field) (xs : List (DataW H × List MemPlace)) (o e : Nat), contig P fs o = some e → xs.length = fs.length →
    (∀ (i : Nat) (f : Field), fs[i]? = some f → DataW.trod enc P w base sp held m f.type ((cs.drop f.offset).take (P.cellsOf f.type)) = xs[i]?) →
    (∀ f ∈ fs, ∀ cs' x, DataW.trod enc P w base sp held m f.type cs' = some x → lits x.1 = some cs') → o ≤ e ∧ litsL (xs.map (·.1)) = some ((cs.drop o).take (e - o))
  | [], xs, o, e, hc, hl, _, _ => by
    obtain rfl := Option.some.inj hc
    obtain rfl := List.eq_nil_of_length_eq_zero hl
    exact ⟨Nat.le_refl _, by simp [litsL]⟩
  | f :: r, [], o, e, hc, hl, _, _ => by cases hl
  | f :: r, x :: xs, o, e, hc, hl, h, ih => by
    simp only [contig] at hc
    split at hc
    · rename_i ho
      have h0 := h 0 f rfl
      rw [ho] at h0
      have h1 := ih f List.mem_cons_self _ x h0
      obtain ⟨h2, h3⟩ := fields_cat m cs r xs _ e hc (by simpa using hl) (fun i g hg => by
        have := h (i + 1) g (by simpa using hg)
        simpa using this) (fun g hg => ih g (List.mem_cons_of_mem _ hg))
      refine ⟨by omega, ?_⟩
      simp only [List.map_cons, litsL, h1, h3]
      congr 1
      have e1 : e - o = P.cellsOf f.type + (e - (o + P.cellsOf f.type)) := by omega
      rw [e1, List.take_add, List.drop_drop]
    · cases hc
theorem elems_cat (m k : Nat) (ty : TypeId) (cs : List Value) (hk : P.cellsOf ty = k) : ∀ (n : Nat) (xs : List (DataW H × List MemPlace)) (o : Nat), xs.length = n →
    (∀ i, i < n → DataW.trod enc P w base sp held m ty ((cs.drop (o + i * k)).take k) = xs[i]?) →
    (∀ cs' x, DataW.trod enc P w base sp held m ty cs' = some x → lits x.1 = some cs') → litsL (xs.map (·.1)) = some ((cs.drop o).take (n * k))
  | 0, xs, o, hl, _, _ => by
    obtain rfl := List.eq_nil_of_length_eq_zero hl
    simp [litsL]
  | n + 1, [], o, hl, _, _ => by cases hl
  | n + 1, x :: xs, o, hl, h, ih => by
    have h0 := h 0 (Nat.succ_pos _)
    rw [Nat.zero_mul, Nat.add_zero] at h0
    have h1 := ih _ x h0
    have h3 := elems_cat m k ty cs hk n xs (o + k) (by simpa using hl) (fun i hi => by
      have := h (i + 1) (by omega)
      rw [Nat.succ_mul, Nat.add_comm (i * k) k, ← Nat.add_assoc] at this
      simpa using this) ih
    simp only [List.map_cons, litsL, h1, h3]
    congr 1
    rw [Nat.succ_mul, Nat.add_comm (n * k) k, List.take_add, List.drop_drop]
theorem cells_of : ∀ (k m : Nat) (t : TypeId) (cs : List Value) (x : DataW H × List MemPlace), flatB P k t = true → DataW.trod enc P w base sp held m t cs = some x → lits x.1 = some cs
  | 0, _, _, _, _, h, _ => by cases h
  | k + 1, m, t, cs, x, h, hd => by
    unfold flatB at h
    split at h
    · rename_i ht
      obtain ⟨n, rfl, rfl, _⟩ := DataW.trod_int ht hd
      rfl
    · rename_i ht
      obtain ⟨n, rfl, rfl⟩ := DataW.trod_bool ht hd
      rfl
    · rename_i ht
      obtain ⟨s, rfl, rfl, _⟩ := DataW.trod_string ht hd
      cases s with | mk a => simp [lits, ByteArray.toList_eq]
    · rename_i fs ht
      obtain ⟨xs, n, rfl, rfl, hl, hxl, hel⟩ := DataW.trod_struct ht hd
      simp only [Bool.and_eq_true] at h
      obtain ⟨hcon, hall⟩ := h
      cases hc : contig P fs.toList 0 with
      | none => rw [hc] at hcon; cases hcon
      | some e =>
        rw [hc] at hcon
        have he := Nat.eq_of_beq_eq_true hcon
        subst he
        have := (fields_cat n cs fs.toList xs 0 _ hc (by simpa using hxl) (fun i f hf => hel i f (by simpa using hf)) (fun f hf cs' x' hx => cells_of k n f.type cs' x' (List.all_eq_true.1 hall f hf) hx)).2
        simp only [lits, this, List.drop_zero, Nat.sub_zero]
        rw [← hl, List.take_length]
    · rename_i n e ht
      obtain ⟨xs, m', rfl, rfl, hl, hxl, hel⟩ := DataW.trod_array ht hd
      simp only [Bool.and_eq_true] at h
      have he := Nat.eq_of_beq_eq_true h.1
      have := elems_cat m' (P.cellsOf e) e cs rfl n xs 0 hxl (fun i hi => by rw [Nat.zero_add]; exact hel i hi) (fun cs' x' hx => cells_of k m' e cs' x' h.2 hx)
      simp only [lits, this, List.drop_zero, he]
      rw [← hl, List.take_length]
    · cases h
theorem rd_of_laid {g n size m : Nat} {t : TypeId} {cs : Array Value} {d : DataW H} {q : List MemPlace} {vs : List Value} (hf : flatB P 5 t = true) (hv : lits d = some vs) (hn : vs.length = n * size)
    (hd : DataW.trod enc P w base sp held m t cs.toList = some (d, q)) (hcell : ∀ j, w.cell? ⟨g, j, none⟩ = cs[j]?) : Rd size (some ⟨g, 0, none⟩) n vs w := by
  have h := cells_of 5 m t _ _ hf hd
  rw [hv] at h
  have h' := Option.some.inj h
  refine ⟨hn, fun _ => ⟨_, rfl, fun j u hu => ?_⟩⟩
  rw [add_none, Nat.zero_add, hcell j, ← Array.getElem?_toList, ← h']
  exact hu
end
end Go.Proofs.YtkommfddfgiobaaGreatDoor.Sx
