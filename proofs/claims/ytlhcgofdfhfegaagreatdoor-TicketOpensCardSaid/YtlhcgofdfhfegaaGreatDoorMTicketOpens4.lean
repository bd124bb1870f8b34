/- Texts joined: Bk6, Bk7, Bk8, Bk9, Xor, Hm2, Hm3, Hsh, Hsh2, Hsh3, Mac, Pie, Pie2, Str, Trn, Turn, Ak5, Ak6, BxP, Rf5, Rt1, Rt2, Rt3, Rt4, Rt5, Tl2, Tl3, TlG, Flip, Tl1, Tl4, Tl5, LenX, Tl7, Tl8, Tl10, Rk2, B6U, Rk3, Han, Rf6, Kr1, Kr2, Kr3, SxIter, KyJ, CoJ, Kr4, CutN, Rk4, Kr5, Rk5, StrS, Rk6, Rk7, Rk9, Rka, Kr6, Kr7, Kr8, Kr9, Ks1, TrR, Ks2, KsL, Tl11, Ks3, Ks4, Ks5, SxClr, Ks6, Ks7, Ks8, Ks9, Ka1, Rk8, RHx, Rkb, Tk3, Tkb, KyI, ColI, SrU, SrU2, FmU, RgL, Tka, Tk6, Tk2, Tk8, Tk9, Tkd, RgK, MpI, BxL, RgR, RgN, RgW, RgS, RgV, RgD, Rg0, Rg1, Kn1, RgP, RgS2, Tke, Tkf, Tkc, Tkg, Dec, RgA, RfR, RfR2, RfR3, RpL. -/
import Derived.Test.YtlhcgofdfhfegaaGreatDoorMTicketOpens3
import Derived.Test.YtlhcgofdfhfegaaGreatDoorMTicketOpens2
import Derived.Maps.RangeRun
set_option linter.unusedVariables false
set_option linter.unusedSimpArgs false
namespace Go.Proofs.YtlhcgofdfhfegaaGreatDoor.Sx
open Go
attribute [local irreducible] Calls
def str (l : List UInt8) : ByteArray := ⟨l.toArray⟩
theorem str_inj {l m : List UInt8} : str l = str m ↔ l = m := by
  constructor
  · intro h
    have := congrArg (fun s : ByteArray => s.data.toList) h
    simpa [str] using this
  · rintro rfl; rfl
def numV (n : Nat) : Value := .int .i64 (n : Int)
def mapL : List Bx.Term → Nat → ML
  | [], _ => []
  | t :: r, k => (str (Bx.print t), numV (k + 1)) :: mapL r (k + 1)
theorem mapL_look (t : Bx.Term) : ∀ (L : List Bx.Term) (k : Nat), mlook (mapL L k) (str (Bx.print t)) = (Bx.place t L).map fun i => numV (i + k + 1)
  | [], _ => rfl
  | x :: r, k => by
    simp only [mapL, mlook, Bx.place]
    by_cases h : x = t
    · subst h
      simp
    · have h' : ¬ str (Bx.print x) = str (Bx.print t) := fun q => h (Bx.print_inj (str_inj.1 q))
      rw [if_neg h', if_neg h, mapL_look t r (k + 1), Option.map_map]
      congr 1
      funext i
      simp only [Function.comp]
      rw [show i + (k + 1) + 1 = i + 1 + k + 1 by omega]
theorem mput_new : ∀ {l : ML} {s : ByteArray} {v : Value}, mlook l s = none → mput l s v = l ++ [(s, v)]
  | [], _, _, _ => rfl
  | (k, u) :: r, s, v, h => by
    simp only [mlook] at h
    split at h
    · cases h
    · rename_i hne
      simp only [mput, if_neg hne, List.cons_append]
      rw [mput_new h]
theorem mapL_snoc (t : Bx.Term) : ∀ (L : List Bx.Term) (k : Nat), mapL (L ++ [t]) k = mapL L k ++ [(str (Bx.print t), numV (L.length + k + 1))]
  | [], k => by simp [mapL]
  | x :: r, k => by
    simp only [List.cons_append, mapL, List.length_cons]
    rw [mapL_snoc t r (k + 1), show r.length + (k + 1) + 1 = r.length + 1 + k + 1 by omega]
def TD_ (t : Bx.Term) (a : TA) (k : Nat) : Prop := (bsF a.k t.key).D k ∨ (bsF a.t t.text).D k ∨ (rdF 1 a.l t.list.length (ints t.list)).D k ∨ (bsF a.m t.mask).D k
theorem TRd.st {t : Bx.Term} {a : TA} {w w' : World} (hs : ∀ k, TD_ t a k → w'.heap[k]? = w.heap[k]?) (h : TRd t a w) : TRd t a w' :=
  ⟨(bsF a.k t.key).st w w' (fun k hk => hs k (.inl hk)) h.hk, (bsF a.t t.text).st w w' (fun k hk => hs k (.inr (.inl hk))) h.ht, (rdF 1 a.l t.list.length (ints t.list)).st w w' (fun k hk => hs k (.inr (.inr (.inl hk)))) h.hl, (bsF a.m t.mask).st w w' (fun k hk => hs k (.inr (.inr (.inr hk)))) h.hm⟩
def trdF (t : Bx.Term) (a : TA) : Fact where
  own := false
  D := TD_ t a
  p := TRd t a
  st := fun w w' hs h => TRd.st hs h
def partsF (ts : List (Bx.Term × TA)) : Fact where
  own := true
  D := fun k => ∃ p ∈ ts, TD_ p.1 p.2 k
  p := fun w => ∀ p ∈ ts, TRd p.1 p.2 w
  st := fun w w' hs h p hp => TRd.st (fun k hk => hs k ⟨p, hp, hk⟩) (h p hp)
structure Lay where
  A : Option Addr
  c : Nat
  m : Nat
  ts : List (Bx.Term × TA)
def boxCells (B : Bx.Box) (y : Lay) : List Value := [.bool B.sym, .bool B.full, .slice y.A B.L.length y.c, .map (some y.m)]
def termsV (ts : List (Bx.Term × TA)) : List Value := ts.flatMap fun p => termV p.1 p.2
def bxFs (b : Nat) (B : Bx.Box) (y : Lay) : List Fact := [bkF b ty_box_Box (boxCells B y), rowF ty_box_Term 6 (.slice y.A B.L.length y.c) B.L.length (termsV y.ts), mapF y.m (mapL B.L 0), partsF y.ts]
def bxF (b : Nat) (B : Bx.Box) (y : Lay) : Fact := sepF (bxFs b B y)
theorem box_cell {b : Nat} {B : Bx.Box} {y : Lay} {w : World} (h : (bkF b ty_box_Box (boxCells B y)).p w) {o : Nat} {v : Value} (ho : (boxCells B y)[o]? = some v) : w.cell? ⟨b, o, none⟩ = some v := by
  have hb : w.heap[b]? = some (.cells (boxCells B y).toArray ty_box_Box (0, 0)) := h
  rw [cell_of_row w b o _ _ _ hb]
  simpa using ho
theorem bk_cell {b ty : Nat} {cs : List Value} {w : World} (h : (bkF b ty cs).p w) {o : Nat} {v : Value} (ho : cs[o]? = some v) : w.cell? ⟨b, o, none⟩ = some v := by
  have hb : w.heap[b]? = some (.cells cs.toArray ty (0, 0)) := h
  rw [cell_of_row w b o _ _ _ hb]
  simpa using ho
theorem termV_one (t : Bx.Term) (a : TA) : ∀ u ∈ termV t a, u.oneCell' = true := by
  intro u hu
  simp only [termV, List.mem_cons, List.not_mem_nil, or_false] at hu
  rcases hu with rfl | rfl | rfl | rfl | rfl | rfl <;> rfl
theorem one_mem {v : Value} (h : v.oneCell' = true) : ∀ u ∈ [v], u.oneCell' = true := fun u hu => by obtain rfl := List.mem_singleton.1 hu; exact h
def tagOut (b : Nat) (B : Bx.Box) (t : Bx.Term) (v : Value) (Fs : List Fact) : Prop :=
  ∃ A c y', v = .slice A 32 c ∧ 32 ≤ c ∧ c ≤ maxLen ∧ y'.ts.map (·.1) = (B.tag t).2.L ∧ Fs = [browF ty_uint8 A (B.tag t).1 c, bxF b (B.tag t).2 y']
theorem zero_int (w : World) : (zeroValue ty_int).run Tryz.prog w = .ok (.int .i64 0) w := by kernel_rfl
theorem tag_c (w : World) (b : Nat) (B : Bx.Box) (y : Lay) (t : Bx.Term) (a : TA) (hts : y.ts.map (·.1) = B.L) (hL : B.L.length ≤ 4096) (hs : TSz t) (hm : Mem w [bxF b B y, trdF t a]) :
    Con Tryz.prog n_box_Box_tag #[.pointer (some ⟨b, 0, none⟩), .agg (termV t a).toArray] w [bxF b B y] (tagOut b B t) := by
  have g := good_box_Box_tag w (Un [bxF b B y])
  have hs0 : Sat (cx_box_Box_tag w (Un [bxF b B y])) Va.z 0 [] [bxF b B y, trdF t a] w := hm.sat0 rfl (fun f hf ho k hk => by
    simp only [List.mem_cons, List.not_mem_nil, or_false] at hf
    rcases hf with rfl | rfl
    · exact ⟨_, List.mem_singleton.2 rfl, hk⟩
    · cases ho)
  have hs1 := hs0.unsep 0 rfl
  refine con_of_sx (cx := cx_box_Box_tag w (Un [bxF b B y])) g b_box_Box_tag rfl rfl (β := Va.z) [.c (.v (.pointer (some ⟨b, 0, none⟩))), .agg (termS t a)] 0 [] (bxFs b B y ++ [trdF t a]) rfl rfl hs1 ?_
  refine call_pu (fun β w' hs' => print_c w' t a (hs'.get 4 rfl) hs) ?_
  refine ⟨.map (some y.m), fun β w' hs' => box_cell (hs'.get 0 rfl) (o := 3) rfl, ?_⟩
  have hlook := mapL_look t B.L 0
  cases hpl : Bx.place t B.L with
  | some i =>
    rw [hpl] at hlook
    refine ⟨.int .i64 0, zero_int, mapL B.L 0, some (numV (i + 1)), fun β w' hs' => hs'.get 2 rfl, hlook, ?_⟩
    refine call_con [] (fun β w' hs' => handle_c w' (i + 1)) ?_
    rintro v Fs ⟨A1, c1, rfl, q1, q2, rfl⟩
    have htag : B.tag t = (Bx.handle (i + 1), B) := by unfold Bx.Box.tag; rw [hpl]
    intro β w' hs'
    have hs2 := (hs'.keepB (List.nil_sublist _)).sep [1, 2, 3, 4] rfl ⟨rfl, rfl, rfl, rfl, trivial⟩
    exact hs2.fin [1, 0] ⟨A1, c1, y, rfl, q1, q2, by rw [htag]; exact hts, by rw [htag]; rfl⟩
  | none =>
    rw [hpl] at hlook
    refine ⟨.int .i64 0, zero_int, mapL B.L 0, none, fun β w' hs' => hs'.get 2 rfl, hlook, ?_⟩
    refine ⟨.slice y.A B.L.length y.c, fun β w' hs' => box_cell (hs'.get 0 rfl) (o := 2) rfl, ?_⟩
    refine BIf.dec (fun hge => ?_) (fun hlt => ?_)
    · have hge0 : (4096 : Int) ≤ (B.L.length : Int) := hge
      have hge1 : 4096 ≤ B.L.length := by omega
      refine ⟨_, fun β w' hs' => hs'.bkSet 0 (o := 1) (us := [.bool true]) rfl (by show 2 ≤ 4; decide) (one_mem rfl), ?_⟩
      refine ⟨32, 32, rfl, rfl, Nat.le_refl _, by decide, by decide, ?_⟩
      intro b2
      have htag : B.tag t = (Bx.noughts, { B with full := true }) := by unfold Bx.Box.tag; rw [hpl]; simp only; rw [if_pos hge1]
      intro β w' hs'
      have hs2 := (hs'.keepB (List.nil_sublist _)).sep [1, 2, 3, 4] rfl ⟨rfl, rfl, rfl, rfl, trivial⟩
      exact hs2.fin [1, 0] ⟨some ⟨b2, 0, none⟩, 32, y, rfl, Nat.le_refl _, by decide, by rw [htag]; exact hts, by rw [htag]; rfl⟩
    · have hlt0 : ¬ (4096 : Int) ≤ (B.L.length : Int) := hlt
      have hlt1 : ¬ 4096 ≤ B.L.length := by omega
      have htag : B.tag t = (Bx.handle (B.L.length + 1), { B with L := B.L ++ [t] }) := by unfold Bx.Box.tag; rw [hpl]; simp only; rw [if_neg hlt1]
      refine draw_rule g p_box_Box_tag_8 (by kernel_rfl) [⟨0, ty_box_Term, termS t a⟩] [bkF b ty_box_Box (boxCells B y)] (subPerm [0]) ?_
      refine ⟨.slice y.A B.L.length y.c, fun β w' hs' => box_cell (hs'.get 0 rfl) (o := 2) rfl, ?_⟩
      refine call_con [] (fun β w' hs' => copyOf_c w' t a (hs'.get 4 rfl) hs) ?_
      rintro v Fs ⟨a', rfl, rfl⟩
      refine ⟨subPerm [4], ?_⟩
      intro b7
      refine ⟨subPerm [5], ?_⟩
      refine ⟨6, B.L.length, B.L.length + 1, termsV y.ts, termV t a', termsV (y.ts ++ [(t, a')]), rfl, fun β w' hs' => row_rd (hs'.get 0 rfl), termV_one t a', rfl, by simp [termsV], by rw [maxLen_eq]; omega, by show (B.L.length + 1) * 112 ≤ _; omega, ?_⟩
      intro A' c' q1 q2 q3
      refine ⟨subPerm [5], ?_⟩
      refine ⟨subPerm [5], ?_⟩
      refine ⟨_, fun β w' hs' => hs'.bkSet 5 (o := 2) (us := [.slice A' (B.L.length + 1) c']) rfl (by show 3 ≤ 4; decide) (one_mem rfl), ?_⟩
      have hbx : putAll (boxCells B y) 2 [.slice A' (B.L.length + 1) c'] = [.bool B.sym, .bool B.full, .slice A' (B.L.length + 1) c', .map (some y.m)] := rfl
      rw [hbx]
      refine draw_rule g p_box_Box_tag_9 (by kernel_rfl) [⟨0, ty_box_Term, termS t a⟩] [bkF b ty_box_Box [.bool B.sym, .bool B.full, .slice A' (B.L.length + 1) c', .map (some y.m)]] (subPerm [5]) ?_
      refine ⟨.map (some y.m), fun β w' hs' => bk_cell (hs'.get 0 rfl) (o := 3) rfl, ?_⟩
      refine ⟨.slice A' (B.L.length + 1) c', fun β w' hs' => bk_cell (hs'.get 0 rfl) (o := 2) rfl, ?_⟩
      refine ⟨_, fun _ => _, fun β w' hs' => hs'.mapPutY g 7 rfl (t := ty_map_string_int) (str (Bx.print t)) (numV (B.L.length + 1)), fun _ => ?_⟩
      refine ⟨subPerm [5], ?_⟩
      refine ⟨.slice A' (B.L.length + 1) c', fun β w' hs' => bk_cell (hs'.get 5 rfl) (o := 2) rfl, ?_⟩
      refine call_con [] (fun β w' hs' => handle_c w' (B.L.length + 1)) ?_
      rintro v Fs ⟨A9, c9, rfl, r1, r2, rfl⟩
      have hmap : mput (mapL B.L 0) (str (Bx.print t)) (numV (B.L.length + 1)) = mapL (B.L ++ [t]) 0 := by rw [mput_new hlook, mapL_snoc]
      have hbF : bxF b { B with L := B.L ++ [t] } ⟨A', c', y.m, y.ts ++ [(t, a')]⟩ = sepF [bkF b ty_box_Box [.bool B.sym, .bool B.full, .slice A' (B.L.length + 1) c', .map (some y.m)], rowF ty_box_Term 6 (.slice A' (B.L.length + 1) c') (B.L.length + 1) (termsV (y.ts ++ [(t, a')])), mapF y.m (mapL (B.L ++ [t]) 0), partsF (y.ts ++ [(t, a')])] := by
        simp [bxF, bxFs, boxCells]
      intro β w' hs'
      have hs2 := (hs'.keepB (List.nil_sublist _)).fuse [2, 3, 4, 5, 9] (partsF (y.ts ++ [(t, a')])) (fun w hm => ?_) (fun k hk => ?_) rfl ⟨rfl, rfl, rfl, rfl, rfl, trivial⟩
      · have hs3 := hs2.sep [3, 4, 5, 0] rfl ⟨rfl, rfl, rfl, rfl, trivial⟩
        refine hs3.fin [1, 0] ⟨A9, c9, ⟨A', c', y.m, y.ts ++ [(t, a')]⟩, rfl, r1, r2, ?_, ?_⟩
        · rw [htag]
          show (y.ts ++ [(t, a')]).map (·.1) = B.L ++ [t]
          rw [List.map_append, hts]
          rfl
        · rw [htag]
          show _ = [browF ty_uint8 A9 (Bx.handle (B.L.length + 1)) c9, bxF b { B with L := B.L ++ [t] } ⟨A', c', y.m, y.ts ++ [(t, a')]⟩]
          rw [hbF, ← hmap]
          rfl
      · have hm' : Mem w [browF ty_uint8 a'.m t.mask a'.mc, irowF a'.l t.list a'.lc, browF ty_uint8 a'.t t.text a'.tc, browF ty_uint8 a'.k t.key a'.kc, partsF y.ts] := hm
        intro p hp
        rcases List.mem_append.1 hp with hp | hp
        · exact hm'.fact (partsF y.ts) (by simp) p hp
        · obtain rfl := List.mem_singleton.1 hp
          exact ⟨row_rd (hm'.fact (browF ty_uint8 a'.k t.key a'.kc) (by simp)), row_rd (hm'.fact (browF ty_uint8 a'.t t.text a'.tc) (by simp)), row_rd (hm'.fact (irowF a'.l t.list a'.lc) (by simp)), row_rd (hm'.fact (browF ty_uint8 a'.m t.mask a'.mc) (by simp))⟩
      · show Un [browF ty_uint8 a'.m t.mask a'.mc, irowF a'.l t.list a'.lc, browF ty_uint8 a'.t t.text a'.tc, browF ty_uint8 a'.k t.key a'.kc, partsF y.ts] k
        obtain ⟨p, hp, hk⟩ := hk
        rcases List.mem_append.1 hp with hp | hp
        · exact ⟨partsF y.ts, by simp, p, hp, hk⟩
        · obtain rfl := List.mem_singleton.1 hp
          have hrow : ∀ {size e n c : Nat} {A : Option Addr} {xs : List Value}, (rdF size A n xs).D k → (rowF e size (.slice A n c) n xs).D k := by
            rintro size e n c A xs ⟨_, ad, rfl, rfl⟩
            rfl
          rcases hk with hk | hk | hk | hk
          · exact ⟨browF ty_uint8 a'.k t.key a'.kc, by simp, hrow hk⟩
          · exact ⟨browF ty_uint8 a'.t t.text a'.tc, by simp, hrow hk⟩
          · exact ⟨irowF a'.l t.list a'.lc, by simp, hrow hk⟩
          · exact ⟨browF ty_uint8 a'.m t.mask a'.mc, by simp, hrow hk⟩
theorem bx_bk {b : Nat} {B : Bx.Box} {y : Lay} {w : World} (h : (bxF b B y).p w) : (bkF b ty_box_Box (boxCells B y)).p w := h.1 _ (by simp [bxFs])
def hashT (l : List UInt8) : Bx.Term := ⟨1, [], l, 0, [], []⟩
theorem rd_nil (w : World) (A : Option Addr) : Rd 1 A 0 [] w := ⟨rfl, fun h => by cases h⟩
theorem or_i64 {x y : Nat} (hx : x < 36028797018963968) (hy : y < 256) : bits .or .i64 ((x * 256 : Nat) : Int) (y : Int) = ((x * 256 + y : Nat) : Int) := by
  show IntKind.i64.wrap (((BitVec.ofInt 64 ((x * 256 : Nat) : Int)) ||| (BitVec.ofInt 64 (y : Int))).toNat : Int) = _
  have h1 : (BitVec.ofInt 64 ((x * 256 : Nat) : Int)).toNat = x <<< 8 := by
    rw [BitVec.toNat_ofInt, Nat.shiftLeft_eq]
    omega
  have h2 : (BitVec.ofInt 64 (y : Int)).toNat = y := by
    rw [BitVec.toNat_ofInt]
    omega
  rw [BitVec.toNat_or, h1, h2, ← Nat.shiftLeft_add_eq_or_of_lt (by omega) x, Nat.shiftLeft_eq, wrap_i64 (by omega) (by omega)]
theorem shl_i64 {x : Nat} (hx : x < 36028797018963968) : IntKind.i64.wrap ((x : Int) * 2 ^ (min (8 : Int).toNat IntKind.i64.bits)) = ((x * 256 : Nat) : Int) := by
  have h1 : min (8 : Int).toNat IntKind.i64.bits = 8 := rfl
  rw [h1, wrap_i64 (by omega) (by omega)]
  omega
theorem xorB_len (a b : List UInt8) : (Bx.xorB a b).length = min a.length b.length := by simp [Bx.xorB]
theorem Sat.ro {cx : Cx} {β : Va} {n : Nat} {H : List Bk} {F : List Fact} {w : World} (h : Sat cx β n H F w) (j : Nat) {e : Nat} {A : Option Addr} {l : List UInt8} {c : Nat} (hj : nth F j = some (browF e A l c)) : Sat cx β n H (putAt F j (bsF A l)) w := by
  have hp := h.get j hj
  exact h.upd hj rfl (Chg.refl _ _) (row_rd hp) (fun k hk => .inl (browRoD hp k hk))
end Go.Proofs.YtlhcgofdfhfegaaGreatDoor.Sx

namespace Go.Proofs.YtlhcgofdfhfegaaGreatDoor.Sx
open Go Sha
attribute [local irreducible] Calls
def ptrB (b : Nat) : Value := .pointer (some ⟨b, 0, none⟩)
end Go.Proofs.YtlhcgofdfhfegaaGreatDoor.Sx

namespace Go.Proofs.YtlhcgofdfhfegaaGreatDoor.Sx
open Go
attribute [local irreducible] Calls
abbrev Part := Option Addr × List UInt8 × Nat
def partV (p : Part) : Value := .slice p.1 p.2.1.length p.2.2
def partsT (ps : List Part) : List UInt8 := ps.flatMap (·.2.1)
def partF (P : Option Addr) (ps : List Part) : Fact where
  own := false
  D := fun k => (rdF 1 P ps.length (ps.map partV)).D k ∨ ∃ p ∈ ps, (bsF p.1 p.2.1).D k
  p := fun w => Rd 1 P ps.length (ps.map partV) w ∧ ∀ p ∈ ps, Bs w p.1 p.2.1
  st := fun w w' hs h => ⟨(rdF 1 P ps.length (ps.map partV)).st w w' (fun k hk => hs k (.inl hk)) h.1, fun p hp => (bsF p.1 p.2.1).st w w' (fun k hk => hs k (.inr ⟨p, hp, hk⟩)) (h.2 p hp)⟩
end Go.Proofs.YtlhcgofdfhfegaaGreatDoor.Sx

namespace Go.Proofs.YtlhcgofdfhfegaaGreatDoor.Sx
open Go
attribute [local irreducible] Calls
section
variable {cx : Cx} {β : Va} {n : Nat} {H : List Bk} {F : List Fact} {w : World}
theorem Sat.subN (h : Sat cx β n H F w) (js : List Nat) (hno : ∀ f ∈ takeIx F js, f.own = false) (g : Fact) (hgo : g.own = false) (hp : g.p w) (hD : ∀ k, g.D k → Un (takeIx F js) k) : Sat cx β n H (g :: F) w := by
  have hin : ∀ k, g.D k → ∃ (i : Nat) (f : Fact), F[i]? = some f ∧ f.own = false ∧ f.D k := fun k hk => by
    obtain ⟨f, hf, hfk⟩ := hD k hk
    obtain ⟨i, _, hi⟩ := takeIx_mem hf
    exact ⟨i, f, hi, hno f hf, hfk⟩
  refine h.old g hp (fun k hk => ?_) (fun b hb q => ?_) (fun q => by rw [hgo] at q; cases q) (fun g' hg' ho k hk hk' => ?_) (fun p hpp q => ?_)
  · obtain ⟨i, f, hi, _, hfk⟩ := hin k hk
    exact h.flt f (List.mem_of_getElem? hi) k hfk
  · obtain ⟨i, f, hi, _, hfk⟩ := hin _ q
    exact h.sepb f (List.mem_of_getElem? hi) b hb hfk
  · have ho' : g'.own = true := ho.resolve_left (by rw [hgo]; decide)
    obtain ⟨i, f, hi, hfo, hfk⟩ := hin k hk
    obtain ⟨j, hj⟩ := List.getElem?_of_mem hg'
    have hne : j ≠ i := fun q => by subst q; rw [hj] at hi; obtain rfl := Option.some.inj hi; rw [hfo] at ho'; cases ho'
    exact h.apart hj hi hne (.inl ho') k hk' hfk
  · obtain ⟨i, f, hi, _, hfk⟩ := hin _ q
    exact (h.pin p hpp).2.2 f (List.mem_of_getElem? hi) hfk
theorem rowD {e size : Nat} {A : Option Addr} {k c : Nat} {xs : List Value} {w : World} (h : (rowF e size (.slice A k c) k xs).p w) : ∀ b, (rdF size A k xs).D b → (rowF e size (.slice A k c) k xs).D b := by
  rintro b ⟨h0, ad, q, rfl⟩
  have hk : 0 < k := Nat.pos_of_ne_zero (fun q => by rw [q, Nat.zero_mul] at h0; exact Nat.lt_irrefl _ h0)
  rcases h.2 with ⟨he, h0⟩ | ⟨g, cap, cur, he, _⟩
  · omega
  · have hA : A = some ⟨g, 0, none⟩ := by injection he
    rw [q] at hA
    obtain rfl := Option.some.inj hA
    show Value.ownBlock (.slice A k c) = _
    rw [q]
    rfl
theorem Sat.rowRd (h : Sat cx β n H F w) (j : Nat) {e size : Nat} {A : Option Addr} {k c : Nat} {xs : List Value} (hj : nth F j = some (rowF e size (.slice A k c) k xs)) : Sat cx β n H (putAt F j (rdF size A k xs)) w := by
  have hp := h.get j hj
  exact h.upd hj rfl (Chg.refl _ _) (row_rd hp) (fun b hb => .inl (rowD hp b hb))
theorem Sat.part1 {P A : Option Addr} {l : List UInt8} {c : Nat} (h : Sat cx β n H F w) (js : List Nat) (hj : takeIx F js = [rdF 1 P 1 [.slice A l.length c], bsF A l]) : Sat cx β n H (partF P [(A, l, c)] :: F) w := by
  have hP : Rd 1 P 1 [.slice A l.length c] w := h.fact _ (by
    have : rdF 1 P 1 [.slice A l.length c] ∈ takeIx F js := by rw [hj]; simp
    obtain ⟨i, _, hi⟩ := takeIx_mem this
    exact List.mem_of_getElem? hi)
  have hA : Bs w A l := h.fact (bsF A l) (by
    have : bsF A l ∈ takeIx F js := by rw [hj]; simp
    obtain ⟨i, _, hi⟩ := takeIx_mem this
    exact List.mem_of_getElem? hi)
  refine h.subN js (fun f hf => ?_) _ rfl ⟨hP, fun p hp => ?_⟩ (fun k hk => ?_)
  · rw [hj] at hf
    simp only [List.mem_cons, List.not_mem_nil, or_false] at hf
    rcases hf with rfl | rfl <;> rfl
  · obtain rfl := List.mem_singleton.1 hp; exact hA
  · rw [hj]
    rcases hk with hk | ⟨p, hp, hk⟩
    · exact ⟨_, List.mem_cons_self, hk⟩
    · obtain rfl := List.mem_singleton.1 hp
      exact ⟨_, List.mem_cons_of_mem _ List.mem_cons_self, hk⟩
theorem Sat.part2 {P A B : Option Addr} {l m : List UInt8} {c d : Nat} (h : Sat cx β n H F w) (js : List Nat) (hj : takeIx F js = [rdF 1 P 2 [.slice A l.length c, .slice B m.length d], bsF A l, bsF B m]) : Sat cx β n H (partF P [(A, l, c), (B, m, d)] :: F) w := by
  have get : ∀ f ∈ takeIx F js, f.p w := fun f hf => by obtain ⟨i, _, hi⟩ := takeIx_mem hf; exact h.fact f (List.mem_of_getElem? hi)
  have hP : Rd 1 P 2 [.slice A l.length c, .slice B m.length d] w := get (rdF 1 P 2 [.slice A l.length c, .slice B m.length d]) (by rw [hj]; simp)
  have hA : Bs w A l := get (bsF A l) (by rw [hj]; simp)
  have hB : Bs w B m := get (bsF B m) (by rw [hj]; simp)
  refine h.subN js (fun f hf => ?_) _ rfl ⟨hP, fun p hp => ?_⟩ (fun k hk => ?_)
  · rw [hj] at hf
    simp only [List.mem_cons, List.not_mem_nil, or_false] at hf
    rcases hf with rfl | rfl | rfl <;> rfl
  · simp only [List.mem_cons, List.not_mem_nil, or_false] at hp
    rcases hp with rfl | rfl
    · exact hA
    · exact hB
  · rw [hj]
    rcases hk with hk | ⟨p, hp, hk⟩
    · exact ⟨_, List.mem_cons_self, hk⟩
    · simp only [List.mem_cons, List.not_mem_nil, or_false] at hp
      rcases hp with rfl | rfl
      · exact ⟨bsF A l, by simp, hk⟩
      · exact ⟨bsF B m, by simp, hk⟩
end
end Go.Proofs.YtlhcgofdfhfegaaGreatDoor.Sx

namespace Go.Proofs.YtlhcgofdfhfegaaGreatDoor.Sx
open Go
attribute [local irreducible] Calls
def notIn (l m : List Nat) : List Nat := l.filter fun x => !decide (x ∈ m)
structure OkS (l : List Nat) (m : List UInt8) : Prop where
  len : l.length ≤ 4096
  nums : ∀ n ∈ l, n ≤ 4096
  mask : m.length = 32
def mixL (l1 l2 : List Nat) : List Nat := sortN (notIn l1 l2 ++ notIn l2 l1)
def turnT (L : List Nat) (M : List UInt8) : Bx.Term := ⟨4, [], [], 0, L, M⟩
end Go.Proofs.YtlhcgofdfhfegaaGreatDoor.Sx

namespace Go.Proofs.YtlhcgofdfhfegaaGreatDoor.Sx
open Go
def tA : Bx.Term := hashT [97]
def tB : Bx.Term := hashT [98]
def B1 : Bx.Box := ⟨true, false, [tA]⟩
def B2 : Bx.Box := ⟨true, false, [tA, tB]⟩
theorem opens_h {B : Bx.Box} {n : Nat} {t : Bx.Term} (hs : B.sym = true) (hn : n < 4294967296) (h0 : 1 ≤ n) (hl : n ≤ B.L.length) (ht : B.L[n - 1]? = some t) : B.opens (Bx.handle n) = if t.kind = 4 then some (t.list, t.mask) else some ([n], Bx.noughts) :=
  Bx.opens_in (Bx.handle_len n) hs (List.take_left' Bx.front_len) (by rw [show (Bx.handle n).drop 28 = Bx.be4 n from List.drop_left' Bx.front_len, Bx.num_be4 hn]) (by omega) ht
end Go.Proofs.YtlhcgofdfhfegaaGreatDoor.Sx

namespace Go.Proofs.YtlhcgofdfhfegaaGreatDoor.Sx
open Go
attribute [local irreducible] Calls
theorem newX_c (w : World) (sym : Bool) : Con Tryz.prog n_box_New #[.bool sym] w [] fun v Fs => ∃ b y, v = .pointer (some ⟨b, 0, none⟩) ∧ y.ts = [] ∧ Fs = [bxF b ⟨sym, false, []⟩ y] := by
  refine con_of_sx (cx := cx_box_New w (Un [])) (good_box_New w (Un [])) b_box_New rfl rfl (β := Va.z) [.c (.v (.bool sym))] 0 [] [] rfl rfl (Sat.start rfl) ?_
  intro m
  intro β w' hs
  have h2 := (hs.ofBk.nilRow ty_box_Term 6).noMem (partsF []) (fun _ h => (by cases h)) (fun k hk => by obtain ⟨p, hp, _⟩ := hk; cases hp)
  exact (h2.sep [2, 1, 3, 0] rfl ⟨rfl, rfl, rfl, rfl, trivial⟩).fin [0] ⟨_, ⟨none, 0, m, []⟩, rfl, rfl, rfl⟩
def macT (k t : List UInt8) : Bx.Term := ⟨2, k, t, 0, [], []⟩
noncomputable def macB (B : Bx.Box) (k t : List UInt8) : List UInt8 × Bx.Box := if B.sym then B.tag (macT k t) else (hmL k t, B)
def boxOut (b : Nat) (r : List UInt8 × Bx.Box) (v : Value) (Fs : List Fact) : Prop :=
  ∃ A c y', v = .slice A 32 c ∧ 32 ≤ c ∧ c ≤ maxLen ∧ y'.ts.map (·.1) = r.2.L ∧ Fs = [browF ty_uint8 A r.1 c, bxF b r.2 y']
theorem Sat.unown {cx : Cx} {β : Va} {n : Nat} {H : List Bk} {F : List Fact} {w : World} (h : Sat cx β n H F w) (j : Nat) {size : Nat} {A : Option Addr} {k : Nat} {xs : List Value} (hj : nth F j = some (rdoF size A k xs)) : Sat cx β n H (putAt F j (rdF size A k xs)) w :=
  h.upd hj rfl (Chg.refl _ _) (show (rdF size A k xs).p w from rdo_rd (h.get j hj)) (fun _ hk => .inl hk)
theorem Sat.trd {cx : Cx} {β : Va} {n : Nat} {H : List Bk} {F : List Fact} {w : World} (h : Sat cx β n H F w) (js : List Nat) (t : Bx.Term) (a : TA) (hl : t.list = []) (hm : t.mask = []) (hj : takeIx F js = [bsF a.k t.key, bsF a.t t.text]) : Sat cx β n H (trdF t a :: F) w := by
  have get : ∀ f ∈ takeIx F js, f.p w := fun f hf => by obtain ⟨i, _, hi⟩ := takeIx_mem hf; exact h.fact f (List.mem_of_getElem? hi)
  refine h.subN js (fun f hf => ?_) _ rfl ⟨get (bsF a.k t.key) (by rw [hj]; simp), get (bsF a.t t.text) (by rw [hj]; simp), by rw [hl]; exact rd_nil w a.l, by rw [hm]; exact Bs.nil w a.m⟩ (fun k hk => ?_)
  · rw [hj] at hf
    simp only [List.mem_cons, List.not_mem_nil, or_false] at hf
    rcases hf with rfl | rfl <;> rfl
  · rw [hj]
    rcases hk with hk | hk | hk | hk
    · exact ⟨_, List.mem_cons_self, hk⟩
    · exact ⟨bsF a.t t.text, by simp, hk⟩
    · rw [hl] at hk
      exact absurd hk.1 (by simp)
    · rw [hm] at hk
      exact absurd hk.1 (by simp)
theorem parts_len {ps : List Part} : (ps.map (·.2.1)).flatten = partsT ps := by
  unfold partsT
  rw [List.flatMap_def]
theorem joinP_c (w : World) (b0 : Nat) (ps : List Part) (cP : Nat) (h : (partF (some ⟨b0, 0, none⟩) ps).p w) (h0 : ps ≠ []) (hc : ps.length ≤ cP) (hl : ps.length ≤ 1000) (hn : (partsT ps).length ≤ 1000000) :
    Con Tryz.prog n_bytes_Join #[.slice (some ⟨b0, 0, none⟩) ps.length cP, .slice none 0 0] w [] (readOut (partsT ps)) := by
  match ps with
  | [] => exact absurd rfl h0
  | [p] =>
    have e : partsT [p] = p.2.1 := by simp [partsT]
    rw [e] at hn ⊢
    exact join1R_c w (some ⟨b0, 0, none⟩) p.1 cP p.2.2 p.2.1 h.1 (h.2 p List.mem_cons_self) (by omega)
  | p :: q :: r =>
    have k := joinN_c w b0 cP ((p :: q :: r).map partV) ((p :: q :: r).map (·.2.1)) (by rw [List.length_map]; exact h.1) (fun i v l hv hl => by
      rw [List.getElem?_map] at hv hl
      obtain ⟨x, hx, rfl⟩ := Option.map_eq_some_iff.1 hv
      obtain ⟨x', hx', rfl⟩ := Option.map_eq_some_iff.1 hl
      rw [hx] at hx'
      obtain rfl := Option.some.inj hx'
      exact Bs.holds (h.2 x (List.mem_of_getElem? hx)) x.2.2) (by simp) (by rw [List.length_map]; exact hc) (by rw [List.length_map]; exact hl) (by rw [parts_len]; omega)
    rw [List.length_map, parts_len] at k
    exact k
theorem partOld {P : Option Addr} {ps : List Part} {W w : World} (h : (partF P ps).p W) (ho : (oldF W).p w) : (partF P ps).p w := ⟨Rd.old h.1 ho, fun p hp => Rd.old (h.2 p hp) ho⟩
theorem macT_sz {k t : List UInt8} (hk : k.length ≤ 1000000) (hl : t.length ≤ 1000000) : TSz (macT k t) := ⟨by show 2 < 1000; decide, by show 0 < 1000; decide, hk, hl, Nat.zero_le _, fun _ h => (by cases h), Nat.zero_le _⟩
theorem macP_c (w : World) (b : Nat) (B : Bx.Box) (y : Lay) (K : Option Addr) (key : List UInt8) (cK : Nat) (b0 : Nat) (ps : List Part) (cP : Nat) (hts : y.ts.map (·.1) = B.L) (hL : B.L.length ≤ 4096) (hk : key.length ≤ 1000000) (h0 : ps ≠ []) (hc : ps.length ≤ cP) (hl : ps.length ≤ 1000) (hn : (partsT ps).length ≤ 1000000) (hm : Mem w [bxF b B y, partF (some ⟨b0, 0, none⟩) ps, bsF K key, oddF 4, firstF 1]) :
    Con Tryz.prog n_box_Box_Mac #[ptrB b, .slice K key.length cK, .slice (some ⟨b0, 0, none⟩) ps.length cP] w [bxF b B y] (boxOut b (macB B key (partsT ps))) := by
  have g := good_box_Box_Mac w (Un [bxF b B y])
  have hs0 : Sat (cx_box_Box_Mac w (Un [bxF b B y])) Va.z 0 [] [bxF b B y, partF (some ⟨b0, 0, none⟩) ps, bsF K key, oddF 4, firstF 1] w := hm.sat0 rfl (ownIn (Gs := [bxF b B y]) (fun f hf => by
    simp only [List.mem_cons, List.not_mem_nil, or_false] at hf
    rcases hf with rfl | rfl | rfl | rfl <;> rfl))
  refine con_of_sx (cx := cx_box_Box_Mac w (Un [bxF b B y])) g b_box_Box_Mac rfl rfl (β := Va.z) [.c (.v (ptrB b)), .c (.v (.slice K key.length cK)), .c (.v (.slice (some ⟨b0, 0, none⟩) ps.length cP))] 0 [] [bxF b B y, partF (some ⟨b0, 0, none⟩) ps, bsF K key, oddF 4, firstF 1] rfl rfl hs0 ?_
  cases hsym : B.sym with
  | true =>
    refine ⟨.bool true, fun β w' hs => box_cell (bx_bk (hs.get 0 rfl)) (o := 0) (by simp [boxCells, hsym]), ?_⟩
    refine call_con [] (fun β w' hs => joinP_c w' b0 ps cP (hs.get 1 rfl) h0 hc hl hn) ?_
    rintro v Fs ⟨A1, c1, rfl, q1, q2, rfl⟩
    refine call_con [1] (R := boxOut b (B.tag (macT key (partsT ps)))) (fun β w' hs => by
      have k2 := (hs.unown 0 rfl).trd [3, 0] (macT key (partsT ps)) ⟨K, A1, none, none, cK, c1, 0, 0⟩ rfl rfl rfl
      exact tag_c w' b B y (macT key (partsT ps)) ⟨K, A1, none, none, cK, c1, 0, 0⟩ hts hL (macT_sz hk hn) (k2.mem.take (js := [2, 0]) rfl)) ?_
    rintro v Fs ⟨A2, c2, y2, rfl, r1, r2, r3, rfl⟩
    intro β w' hs
    have e : macB B key (partsT ps) = B.tag (macT key (partsT ps)) := by unfold macB; rw [hsym]; rfl
    rw [e]
    exact hs.fin [0, 1] ⟨A2, c2, y2, rfl, r1, r2, r3, rfl⟩
  | false =>
    refine ⟨.bool false, fun β w' hs => box_cell (bx_bk (hs.get 0 rfl)) (o := 0) (by simp [boxCells, hsym]), ?_⟩
    refine call_con [] (fun β w' hs => hsum_c w' K (some ⟨b0, 0, none⟩) key (partsT ps) cK ps.length cP (hs.get 2 rfl) hk hn (fun w2 ho => joinP_c w2 b0 ps cP (partOld (hs.get 1 rfl) ho) h0 hc hl hn) (hs.get 3 rfl) (hs.get 4 rfl)) ?_
    rintro v Fs ⟨A2, c2, rfl, r1, r2, rfl⟩
    intro β w' hs
    have e : macB B key (partsT ps) = (hmL key (partsT ps), B) := by unfold macB; rw [hsym]; rfl
    rw [e]
    exact hs.fin [0, 1] ⟨A2, c2, y, rfl, r1, r2, hts, rfl⟩
def symL (l1 l2 : List Nat) (k : Nat) : List Nat := (List.range' 1 k).filter fun n => decide (n ∈ l1) != decide (n ∈ l2)
theorem symL_len (l1 l2 : List Nat) (k : Nat) : (symL l1 l2 k).length ≤ k := by
  have h := List.length_filter_le (fun n => decide (n ∈ l1) != decide (n ∈ l2)) (List.range' 1 k)
  rw [List.length_range'] at h
  exact h
theorem symL_mix {l1 l2 : List Nat} {N : Nat} (d1 : l1.Nodup) (d2 : l2.Nodup) (h1 : ∀ n ∈ l1, 1 ≤ n ∧ n ≤ N) (h2 : ∀ n ∈ l2, 1 ≤ n ∧ n ≤ N) : symL l1 l2 N = mixL l1 l2 := by
  have hp : (symL l1 l2 N).Perm (notIn l1 l2 ++ notIn l2 l1) := by
    refine (List.perm_ext_iff_of_nodup ?_ ?_).2 (fun n => ?_)
    · exact List.Nodup.sublist List.filter_sublist (List.nodup_range' 1)
    · refine List.nodup_append.2 ⟨List.Nodup.sublist List.filter_sublist d1, List.Nodup.sublist List.filter_sublist d2, ?_⟩
      intro x hx y hy q
      subst q
      have a := (List.mem_filter.1 hx).2
      have b := (List.mem_filter.1 hy).1
      simp [b] at a
    · simp only [symL, notIn, List.mem_filter, List.mem_append, List.mem_range'_1]
      have k1 := h1 n
      have k2 := h2 n
      by_cases a : n ∈ l1 <;> by_cases b : n ∈ l2 <;> simp [a, b]
      · have := k1 a; omega
      · have := k2 b; omega
  have hs : (mixL l1 l2).Perm (notIn l1 l2 ++ notIn l2 l1) := List.mergeSort_perm _ _
  refine List.Perm.eq_of_pairwise (le := fun a b => a ≤ b) (fun a b _ _ p q => Nat.le_antisymm p q) ?_ ?_ (hp.trans hs.symm)
  · exact ((List.pairwise_lt_range' 1).sublist List.filter_sublist).imp (fun h => Nat.le_of_lt h)
  · have h := List.pairwise_mergeSort (le := fun x y : Nat => decide (x ≤ y)) (by simp only [decide_eq_true_eq]; omega) (by simp only [Bool.or_eq_true, decide_eq_true_eq]; omega) (notIn l1 l2 ++ notIn l2 l1)
    exact h.imp (fun h => of_decide_eq_true h)
theorem Con.grow {P : Program} {k : FuncId} {args : Array Value} {w : World} {Gs Gs' : List Fact} {R : Value → List Fact → Prop} (hsub : ∀ k, Un Gs k → Un Gs' k) (h : Con P k args w Gs R) : Con P k args w Gs' R :=
  Calls.mono h fun _ _ ⟨v, he, Fs, hR, hc, hm, ho, hD⟩ => ⟨v, he, Fs, hR, hc.mono (fun i _ => hsub i), hm, ho, fun f hf k hk => (hD f hf k hk).imp_left (hsub k)⟩
def OkN (B : Bx.Box) (l : List Nat) (m : List UInt8) : Prop := OkS l m ∧ l.Nodup ∧ ∀ n ∈ l, 1 ≤ n ∧ n ≤ B.L.length
structure Nf (B : Bx.Box) (l : List Nat) (m : List UInt8) : Prop where
  mask : m.length = 32
  sorted : l.Pairwise (· < ·)
  nums : ∀ n ∈ l, 1 ≤ n ∧ n ≤ B.L.length
  base : ∀ n ∈ l, ∀ u, B.L[n - 1]? = some u → u.kind ≠ 4
structure K4 (B : Bx.Box) (t : Bx.Term) : Prop where
  nf : Nf B t.list t.mask
  form : t = turnT t.list t.mask
  one : ¬ (t.list.length = 1 ∧ t.mask = Bx.noughts)
  raw : ¬ (t.list = [] ∧ ¬ t.mask.take 28 = Bx.front)
structure BInv (B : Bx.Box) : Prop where
  sz : ∀ t ∈ B.L, TSz t
  nodup : B.L.Nodup
  k4 : ∀ t ∈ B.L, t.kind = 4 → K4 B t
  plain : B.sym = false → B.L = []
  len : B.L.length ≤ 4096
structure Ext (B B' : Bx.Box) : Prop where
  sym : B'.sym = B.sym
  full : B'.full = B.full
  len : B'.L.length ≤ B.L.length + 1
  inv : BInv B'
  mono : ∀ h r, B.opens h = some r → B'.opens h = some r
theorem Ext.refl {B : Bx.Box} (h : BInv B) : Ext B B := ⟨rfl, rfl, Nat.le_succ _, h, fun _ _ h => h⟩
theorem Nf.grow {B : Bx.Box} {l : List Nat} {m : List UInt8} (t : Bx.Term) (h : Nf B l m) : Nf { B with L := B.L ++ [t] } l m := by
  refine ⟨h.mask, h.sorted, fun n hn => ?_, fun n hn u hu => ?_⟩
  · have := h.nums n hn
    simp only [List.length_append, List.length_cons, List.length_nil]
    omega
  · have := h.nums n hn
    refine h.base n hn u ?_
    simp only at hu
    rw [List.getElem?_append_left (by omega)] at hu
    exact hu
theorem Nf.ok {B : Bx.Box} {l : List Nat} {m : List UInt8} (hi : BInv B) (h : Nf B l m) : OkN B l m := by
  have hnd : l.Nodup := h.sorted.imp (fun q => Nat.ne_of_lt q)
  refine ⟨⟨?_, fun n hn => ?_, h.mask⟩, hnd, h.nums⟩
  · have e := symL_mix (l2 := []) hnd List.nodup_nil h.nums (fun n hn => (by cases hn))
    have e2 : (mixL l []).length = l.length := by
      rw [mixL, sortN_len]
      have e3 : notIn l [] = l := List.filter_eq_self.2 (fun a _ => by simp)
      rw [e3]
      simp [notIn]
    have := symL_len l [] B.L.length
    rw [e, e2] at this
    have := hi.len
    omega
  · have := h.nums n hn
    have := hi.len
    omega
theorem opens_grow {B : Bx.Box} {t : Bx.Term} {h : List UInt8} {r : List Nat × List UInt8} (h0 : B.opens h = some r) : ({ B with L := B.L ++ [t] } : Bx.Box).opens h = some r := by
  unfold Bx.Box.opens at h0 ⊢
  split at h0
  · rename_i h32
    rw [if_pos h32]
    split at h0
    · rename_i hs
      rw [if_pos hs]
      split at h0
      · cases h0
      · rename_i hn
        have hn' : ¬ (Bx.num (h.drop 28) < 1 ∨ (B.L ++ [t]).length < Bx.num (h.drop 28)) := by
          rw [List.length_append]
          omega
        rw [if_neg hn']
        simp only
        rw [List.getElem?_append_left (by omega)]
        exact h0
    · rename_i hs
      rw [if_neg hs]
      exact h0
  · cases h0
theorem K4.grow {B : Bx.Box} {t : Bx.Term} (u : Bx.Term) (h : K4 B t) : K4 { B with L := B.L ++ [u] } t := ⟨h.nf.grow u, h.form, h.one, h.raw⟩
theorem tag_ext {B : Bx.Box} (hi : BInv B) (hs : B.sym = true) (hl : B.L.length < 4096) {t : Bx.Term} (hz : TSz t) (h4 : t.kind = 4 → K4 B t) : Ext B (B.tag t).2 ∧ ∃ k, (B.tag t).1 = Bx.handle (k + 1) ∧ (B.tag t).2.L[k]? = some t := by
  unfold Bx.Box.tag
  cases hp : Bx.place t B.L with
  | some i => exact ⟨Ext.refl hi, i, rfl, Bx.place_some hp⟩
  | none =>
    simp only
    rw [if_neg (by omega)]
    refine ⟨⟨rfl, rfl, by simp, ⟨fun u hu => ?_, ?_, fun u hu hk => ?_, fun q => ?_, ?_⟩, fun h r q => opens_grow q⟩, B.L.length, rfl, by simp⟩
    · rcases List.mem_append.1 hu with hu | hu
      · exact hi.sz u hu
      · obtain rfl := List.mem_singleton.1 hu
        exact hz
    · refine List.nodup_append.2 ⟨hi.nodup, List.nodup_cons.2 ⟨fun q => (by cases q), List.nodup_nil⟩, fun a ha b hb q => ?_⟩
      obtain rfl := List.mem_singleton.1 hb
      exact Bx.place_none hp (q ▸ ha)
    · rcases List.mem_append.1 hu with hu | hu
      · exact (hi.k4 u hu hk).grow t
      · obtain rfl := List.mem_singleton.1 hu
        exact (h4 hk).grow u
    · rw [show ({ B with L := B.L ++ [t] } : Bx.Box).sym = B.sym from rfl, hs] at q
      cases q
    · simp only [List.length_append, List.length_cons, List.length_nil]
      omega
theorem mem_mix {l1 l2 : List Nat} {n : Nat} (h : n ∈ mixL l1 l2) : n ∈ l1 ∨ n ∈ l2 := by
  have h3 : n ∈ notIn l1 l2 ++ notIn l2 l1 := (List.mergeSort_perm _ _).mem_iff.1 h
  rcases List.mem_append.1 h3 with q | q
  · exact .inl (List.mem_filter.1 q).1
  · exact .inr (List.mem_filter.1 q).1
theorem Nf.mix {B : Bx.Box} {l1 l2 : List Nat} {m1 m2 : List UInt8} (h1 : Nf B l1 m1) (h2 : Nf B l2 m2) : Nf B (mixL l1 l2) (Bx.xorB m1 m2) := by
  have d1 : l1.Nodup := h1.sorted.imp (fun q => Nat.ne_of_lt q)
  have d2 : l2.Nodup := h2.sorted.imp (fun q => Nat.ne_of_lt q)
  refine ⟨by rw [xorB_len, h1.mask, h2.mask]; exact Nat.min_self _, ?_, fun n hn => ?_, fun n hn => ?_⟩
  · rw [← symL_mix d1 d2 h1.nums h2.nums]
    exact (List.pairwise_lt_range' 1).sublist List.filter_sublist
  · rcases mem_mix hn with q | q
    · exact h1.nums n q
    · exact h2.nums n q
  · rcases mem_mix hn with q | q
    · exact h1.base n q
    · exact h2.base n q
theorem cut_D {A : Option Addr} {l m : List UInt8} {c i k : Nat} (hm : m.length ≤ l.length) (h : (bsF (cutA A c i 1) m).D k) : (bsF A l).D k := by
  obtain ⟨h0, ad, hA, rfl⟩ := h
  have h0' : 0 < m.length * 1 := h0
  unfold cutA at hA
  split at hA
  · exact ⟨by show 0 < l.length * 1; omega, ad, hA, rfl⟩
  · cases A with
    | none => cases hA
    | some a =>
      have hA' : a.add (i * 1) = ad := by simpa using hA
      exact ⟨by show 0 < l.length * 1; omega, a, rfl, by rw [← hA']; unfold Addr.add; split <;> rfl⟩
def GoodT (B : Bx.Box) (r : List UInt8 × Bx.Box) : Prop := Ext B r.2 ∧ r.1.length = 32 ∧ ∃ q, r.2.opens r.1 = some q
theorem tag_good {B : Bx.Box} (hi : BInv B) (hs : B.sym = true) (hl : B.L.length < 4096) {t : Bx.Term} (hz : TSz t) (h4 : t.kind ≠ 4) : GoodT B (B.tag t) := by
  obtain ⟨he, k, hk, hkt⟩ := tag_ext hi hs hl hz (fun q => absurd q h4)
  refine ⟨he, by rw [hk]; rfl, ?_⟩
  rw [hk]
  have hlen := he.inv.len
  have hlt := (List.getElem?_eq_some_iff.1 hkt).1
  exact ⟨_, (opens_h (he.sym.trans hs) (by omega) (by omega) (by omega) hkt).trans (if_neg h4)⟩
theorem raw_good {B : Bx.Box} (hi : BInv B) (hs : B.sym = false) {h : List UInt8} (hh : h.length = 32) : GoodT B (h, B) :=
  ⟨Ext.refl hi, hh, _, Bx.opens_raw hh (fun q => by rw [hs] at q; cases q.1)⟩
theorem mac_good {B : Bx.Box} (hi : BInv B) (hl : B.L.length < 4096) {k t : List UInt8} (hk : k.length ≤ 1000000) (ht : t.length ≤ 1000000) : GoodT B (macB B k t) := by
  cases hs : B.sym with
  | true => rw [show macB B k t = B.tag (macT k t) by unfold macB; rw [hs]; rfl]; exact tag_good hi hs hl (macT_sz hk ht) (by show ¬ 2 = 4; decide)
  | false => rw [show macB B k t = (hmL k t, B) by unfold macB; rw [hs]; rfl]; exact raw_good hi hs (hmL_len k t)
structure OpA where
  d : UInt8
  p : Int
  q : Int
  K : Option Addr
  key : List UInt8
  cK : Nat
  X : Option Addr
  text : List UInt8
  cX : Nat
  r : Int
  raw : Bool
def OpA.cells (o : OpA) : List Value := [.int .u8 o.d.toNat, .int .i64 o.p, .int .i64 o.q, .slice o.K o.key.length o.cK, .slice o.X o.text.length o.cX, .int .i64 o.r, .bool o.raw]
structure TOk (B : Bx.Box) (ts : List Part) : Prop where
  inv : BInv B
  n : ts.length ≤ 1000
  tg : ∀ p ∈ ts, p.2.1.length = 32 ∧ ∃ r, B.opens p.2.1 = some r
structure Lo (B : Bx.Box) (y z : Lay) : Prop where
  y : y.ts.map (·.1) = B.L
  z : z.ts.map (·.1) = B.L
def OpA.ok (w : World) (o : OpA) : Prop := (Bs w o.K o.key ∧ o.key.length ≤ o.cK) ∧ (Bs w o.X o.text ∧ o.text.length ≤ o.cX)
structure LS where
  k : Nat
  B : Bx.Box
  y : Lay
  z : Lay
  T : Option Addr
  c : Nat
  ts : List Part
structure LS.Ok (i : LS) (n m : Nat) : Prop where
  k : i.k ≤ n
  lo : Lo i.B i.y i.z
  ok : TOk i.B i.ts
  bl : i.B.L.length ≤ min i.k m
  tl : i.ts.length ≤ min i.k m
def LS.start (sym : Bool) (y0 : Lay) : LS := ⟨0, ⟨sym, false, []⟩, y0, ⟨none, 0, 0, []⟩, none, 0, []⟩
theorem LS.Ok.next {i : LS} {n m : Nat} (h : i.Ok n m) (hk : i.k < n) (hm : i.k < m) {B' : Bx.Box} {y z : Lay} {T : Option Addr} {c : Nat} {ts' : List Part} (he : Ext i.B B') (hl : Lo B' y z) (ho : TOk B' ts') (ht : ts'.length ≤ i.ts.length + 1) : (LS.mk (i.k + 1) B' y z T c ts').Ok n m := by
  have h1 := h.bl
  have h2 := h.tl
  have h3 := he.len
  exact ⟨hk, hl, ho, by show B'.L.length ≤ min (i.k + 1) m; omega, by show ts'.length ≤ min (i.k + 1) m; omega⟩
def hit (t : List UInt8) (i : Nat) : Option Nat := match Bx.looks ((t.drop i).take 32) with
  | some n => if 0 < n then some n else none
  | none => none
def eqs (n : Nat) : List UInt8 := List.replicate n 61
end Go.Proofs.YtlhcgofdfhfegaaGreatDoor.Sx

namespace Go.Proofs.YtlhcgofdfhfegaaGreatDoor.Sx
open Go
open Go.ChangeMaps (setBlock)
variable {kk : IntKind}
def itIP (kk : IntKind) (b r : Nat) (l ss : MLI) (cur : Option (Int × Value)) (w : World) : Prop :=
  ∃ (es ds : List MEI) (k since c0 : Nat) (seen : Array Nat), w.heap[b]? = some (.map (es.map (MEI.ent kk)).toArray k) ∧ MapIOk es k l ∧ w.heap[r]? = some (.mapIter (some b) since seen c0) ∧ r ≠ b ∧ (∀ e ∈ es, e.2.2 < since) ∧ since ≤ c0 ∧ since ≤ k ∧
    ds.map MEI.cut = ss ∧ seen.toList = ds.map (·.2.2) ∧ (∀ d ∈ ds, d ∈ es) ∧ (ds.map (·.2.2)).Nodup ∧
    ∀ x, cur = some x → ∃ (d : MEI) (s0 : Array Nat), d ∈ es ∧ d.cut = x ∧ seen = s0.push d.2.2 ∧ c0 = k
def itIF (kk : IntKind) (b r : Nat) (l ss : MLI) (cur : Option (Int × Value)) : Fact where
  own := true
  D := fun g => g = b ∨ g = r
  p := itIP kk b r l ss cur
  st := fun w w' hs ⟨es, ds, k, since, c0, seen, h1, h2, h3, h4⟩ => ⟨es, ds, k, since, c0, seen, by rw [hs b (.inl rfl)]; exact h1, h2, by rw [hs r (.inr rfl)]; exact h3, h4⟩
theorem born_inj {es : List MEI} {k : Nat} {l : MLI} (h : MapIOk es k l) {d e : MEI} (hd : d ∈ es) (he : e ∈ es) (q : d.2.2 = e.2.2) : d = e := by
  have hp := List.pairwise_map.1 h.inc
  clear h
  induction es with
  | nil => cases hd
  | cons a r ih =>
    obtain ⟨h1, h2⟩ := List.pairwise_cons.1 hp
    rcases List.mem_cons.1 hd with rfl | hd'
    · rcases List.mem_cons.1 he with rfl | he'
      · rfl
      · have := h1 e he'
        omega
    · rcases List.mem_cons.1 he with rfl | he'
      · have := h1 d hd'
        omega
      · exact ih hd' he' h2
theorem born_nodup {es : List MEI} {k : Nat} {l : MLI} (h : MapIOk es k l) : (es.map (·.2.2)).Nodup := h.inc.imp fun h => Nat.ne_of_lt h
theorem nodup_len : ∀ {xs ys : List Nat}, xs.Nodup → (∀ x ∈ xs, x ∈ ys) → xs.length ≤ ys.length
  | [], _, _, _ => Nat.zero_le _
  | x :: r, ys, hn, hs => by
    obtain ⟨h1, h2⟩ := List.nodup_cons.1 hn
    have hx := hs x (by simp)
    have ih := nodup_len (xs := r) (ys := ys.erase x) h2 fun y hy => (List.mem_erase_of_ne (fun q : y = x => h1 (q ▸ hy))).2 (hs y (by simp [hy]))
    have hl := List.length_erase_of_mem hx
    have hp := List.length_pos_of_mem hx
    simp only [List.length_cons]
    omega
def nxtV (kk : IntKind) : Option (Int × Value) → Value
  | none => .tuple #[.bool false]
  | some x => .tuple #[.bool true, .int kk x.1, x.2]
def NxtI (l ss : MLI) : Option (Int × Value) → Prop
  | none => ss.Perm l
  | some x => x ∈ l ∧ ss.length < l.length
def nxtF (kk : IntKind) (b r : Nat) (l ss : MLI) (cur : Option (Int × Value)) : Option (Int × Value) → Fact
  | none => itIF kk b r l ss cur
  | some x => itIF kk b r l (ss ++ [x]) (some x)
theorem perm_of {es ds : List MEI} (h1 : (es.map (·.2.2)).Nodup) (h2 : (ds.map (·.2.2)).Nodup) (hs : ∀ d ∈ ds, d ∈ es) (ha : ∀ e ∈ es, e ∈ ds) : ds.Perm es := by
  have n1 : es.Nodup := (List.pairwise_map.1 h1).imp fun {a b} q e => q (by rw [e])
  have n2 : ds.Nodup := (List.pairwise_map.1 h2).imp fun {a b} q e => q (by rw [e])
  exact (List.perm_ext_iff_of_nodup n2 n1).2 fun x => ⟨hs x, ha x⟩
section
variable {cx : Cx} {β : Va} {n : Nat} {H : List Bk} {F : List Fact} {w : World}
theorem Sat.rangeI (h : Sat cx β n H F w) (g : Good cx) (j : Nat) {b : Nat} {l : MLI} (hj : nth F j = some (mapIF kk b l)) {t kt et : TypeId} {i : TI} (hi : lk cx.tt t = some i := by rfl) (hd : i.desc = .map kt et := by rfl) :
    ∃ r w', (Instr.range t (.map (some b))).run cx.P w = .ok (.pointer (some ⟨r, 0, none⟩)) w' ∧ Sat cx β n H (putAt F j (itIF kk b r l [] none)) w' := by
  obtain ⟨es, k, hb, hm⟩ := h.get j hj
  have hlt : b < w.heap.size := (Array.getElem?_eq_some_iff.1 hb).1
  refine ⟨w.heap.size, _, run_range_map w t kt et b _ k ((g.ti hi).real (d := .map _ _) hd rfl) hb, h.upd hj rfl ((Chg.alloc w _).mono fun _ _ h => h.elim) ⟨es, [], k, k, k, #[], ?_, hm, heap_alloc_new w _, by omega, hm.lt, Nat.le_refl _, Nat.le_refl _, rfl, rfl, (fun d h => by cases h), List.nodup_nil, fun x h => by cases h⟩ (fun q hq => ?_)⟩
  · exact ((MapKept.heap_alloc w _).2 b hlt).trans hb
  · rcases hq with rfl | rfl
    · exact .inl rfl
    · exact .inr ⟨Nat.le_refl _, by simp⟩
theorem Sat.nextI (h : Sat cx β n H F w) (j : Nat) {b r : Nat} {l ss : MLI} {cur : Option (Int × Value)} (hj : nth F j = some (itIF kk b r l ss cur)) (ty : TypeId) :
    ∃ (o : {o : Option (Int × Value) // NxtI l ss o}) (w' : World), (Instr.next (.pointer (some ⟨r, 0, none⟩)) false ty).run cx.P w = .ok (nxtV kk o.1) w' ∧ Sat cx β n H (putAt F j (nxtF kk b r l ss cur o.1)) w' := by
  have hp := h.get j hj
  obtain ⟨es, ds, k, since, c0, seen, hb, hm, hr, hne, hold, hsc, hsk, hss, hseen, hsub, hnd, hcur⟩ := hp
  have hold' : ∀ x ∈ (es.map (MEI.ent kk)).toArray.toList, x.born < since := by
    intro x hx
    rw [List.toList_toArray] at hx
    obtain ⟨e, he, rfl⟩ := List.mem_map.1 hx
    exact hold e he
  have hin : ∀ e ∈ es, seen.contains e.2.2 = true → e ∈ ds := by
    intro e he q
    have q2 : e.2.2 ∈ ds.map (·.2.2) := by rw [← hseen]; simpa using q
    obtain ⟨d, hd, e2⟩ := List.mem_map.1 q2
    rwa [← born_inj hm (hsub d hd) he e2]
  rcases run_next_at (P := cx.P) w ty r b since c0 seen _ k hr hb hold' hsc with ⟨h0, hrun⟩ | ⟨e, he, w1, hal, hrun⟩
  · have hall : ∀ e ∈ es, e ∈ ds := by
      intro e he
      refine hin e he ?_
      cases q : seen.contains e.2.2 with
      | true => rfl
      | false =>
        have : (MEI.ent kk e) ∈ leftOf (es.map (MEI.ent kk)).toArray seen := by
          unfold leftOf
          rw [Array.mem_filter]
          exact ⟨by rw [List.mem_toArray]; exact List.mem_map.2 ⟨e, he, rfl⟩, by show (!seen.contains e.2.2) = true; rw [q]; rfl⟩
        have e0 := Array.eq_empty_of_size_eq_zero h0
        rw [e0] at this
        simp at this
    have hperm : ss.Perm l := by
      rw [← hss, ← hm.cut]
      exact (perm_of (born_nodup hm) hnd hsub hall).map _
    refine ⟨⟨none, hperm⟩, w, hrun, ?_⟩
    show Sat cx β n H (putAt F j (itIF kk b r l ss cur)) w
    exact h.upd hj rfl (Chg.refl _ _) (h.get j hj) (fun q hq => .inl hq)
  · unfold leftOf at he
    rw [Array.mem_toList_iff, Array.mem_filter] at he
    obtain ⟨he1, he2⟩ := he
    obtain ⟨d, hd, rfl⟩ : ∃ d ∈ es, MEI.ent kk d = e := by simpa using he1
    have hns : ¬ seen.contains d.2.2 = true := by
      intro q
      have q2 : (!seen.contains d.2.2) = true := he2
      rw [q] at q2
      cases q2
    have hnd2 : d ∉ ds := fun q => hns (by
      have : d.2.2 ∈ seen.toList := by rw [hseen]; exact List.mem_map.2 ⟨d, q, rfl⟩
      simpa using this)
    have hlen : ss.length < l.length := by
      have hx := nodup_len (xs := d.2.2 :: ds.map (·.2.2)) (ys := es.map (·.2.2)) (List.nodup_cons.2 ⟨fun q => ?_, hnd⟩) (fun x hx => ?_)
      · rw [← hss, ← hm.cut, List.length_map, List.length_map]
        simp only [List.length_cons, List.length_map] at hx
        omega
      · obtain ⟨d', hd', e2⟩ := List.mem_map.1 q
        rw [born_inj hm (hsub d' hd') hd e2] at hd'
        exact hnd2 hd'
      · rcases List.mem_cons.1 hx with rfl | hx
        · exact List.mem_map.2 ⟨d, hd, rfl⟩
        · obtain ⟨d', hd', rfl⟩ := List.mem_map.1 hx
          exact List.mem_map.2 ⟨d', hsub d' hd', rfl⟩
    have hmem : d.cut ∈ l := by rw [← hm.cut]; exact List.mem_map.2 ⟨d, hd, rfl⟩
    refine ⟨⟨some d.cut, hmem, hlen⟩, _, hrun, ?_⟩
    have hr1 : w1.heap[r]? = some (.mapIter (some b) since seen c0) := by rcases hal with rfl | rfl <;> exact hr
    have hb1 : w1.heap[b]? = some (.map (es.map (MEI.ent kk)).toArray k) := by rcases hal with rfl | rfl <;> exact hb
    have hset := MapKept.heap_set (o' := .mapIter (some b) since (seen.push d.2.2) k) hr1
    refine h.upd hj rfl ?_ ?_ (fun q hq => .inl hq)
    · rcases hal with rfl | rfl <;> exact ⟨rfl, rfl, rfl, by simp [setBlock], fun i _ hi => hset.2 i (fun e1 => hi (.inr e1))⟩
    · refine ⟨es, ds ++ [d], k, since, k, seen.push d.2.2, (hset.2 b (fun e1 => hne e1.symm)).trans hb1, hm, hset.1, hne, hold, hsk, hsk, ?_, ?_, ?_, ?_, ?_⟩
      · rw [List.map_append, hss]
        rfl
      · rw [Array.toList_push, hseen, List.map_append]
        rfl
      · intro x hx
        rcases List.mem_append.1 hx with hx | hx
        · exact hsub x hx
        · obtain rfl := List.mem_singleton.1 hx
          exact hd
      · rw [List.map_append]
        refine List.nodup_append.2 ⟨hnd, by simp, fun x hx y hy q => ?_⟩
        simp only [List.map_cons, List.map_nil, List.mem_singleton] at hy
        subst hy q
        rw [← hseen] at hx
        exact hns (by simpa using hx)
      · intro x hx
        cases hx
        exact ⟨d, seen, hd, rfl, rfl, rfl⟩
theorem Sat.entryI (h : Sat cx β n H F w) (j : Nat) {b r : Nat} {l ss : MLI} {x : Int × Value} (hj : nth F j = some (itIF kk b r l ss (some x))) :
    (Instr.entry (.pointer (some ⟨r, 0, none⟩))).run cx.P w = .ok (.tuple #[.int kk x.1, x.2]) w := by
  obtain ⟨es, ds, k, since, c0, seen, hb, hm, hr, hne, hold, hsc, hsk, hss, hseen, hsub, hnd, hcur⟩ := h.get j hj
  obtain ⟨d, s0, hd, rfl, rfl, rfl⟩ := hcur x rfl
  have hn : ((es.map (MEI.ent kk)).toArray.toList.map (·.born)).Nodup := by
    rw [List.toList_toArray, List.map_map]
    exact born_nodup hm
  exact run_entry_at w r b since s0 _ c0 (MEI.ent kk d) hr hb (by rw [List.toList_toArray]; exact List.mem_map.2 ⟨d, hd, rfl⟩) hn
end
end Go.Proofs.YtlhcgofdfhfegaaGreatDoor.Sx

namespace Go.Proofs.YtlhcgofdfhfegaaGreatDoor.Sx
open Go
attribute [local irreducible] Calls
theorem decG_len : ∀ {vs : List Nat} {l : List UInt8}, decG vs = some l → l.length ≤ vs.length
  | [], l, h => by
    simp only [decG] at h
    obtain rfl := Option.some.inj h
    exact Nat.le_refl _
  | [a], l, h => by simp [decG] at h
  | [a, b], l, h => by
    simp only [decG] at h
    split at h
    · obtain rfl := Option.some.inj h
      simp
    · cases h
  | [a, b, c], l, h => by
    simp only [decG] at h
    split at h
    · obtain rfl := Option.some.inj h
      simp
    · cases h
  | a :: b :: c :: d :: r, l, h => by
    simp only [decG] at h
    cases hr : decG r with
    | none => rw [hr] at h; cases h
    | some m =>
      rw [hr] at h
      obtain rfl := Option.some.inj h
      have := decG_len hr
      simp only [List.length_cons]
      omega
theorem decS_len {url : Bool} {s l : List UInt8} (h : decS url s = some l) : l.length ≤ s.length := by
  unfold decS at h
  cases hv : valsA url s with
  | none => rw [hv] at h; cases h
  | some vs =>
    rw [hv] at h
    have h1 := decG_len (show decG vs = some l from h)
    rw [(valsA_len hv).1] at h1
    exact h1
theorem decU_len {s l : List UInt8} (h : decU s = some l) : l.length ≤ s.length := by
  unfold decU at h
  split at h
  · cases h
  · exact decS_len h
def encG : List UInt8 → List Nat
  | x :: y :: z :: r => x.toNat / 4 :: (x.toNat % 4 * 16 + y.toNat / 16) :: (y.toNat % 16 * 4 + z.toNat / 64) :: (z.toNat % 64) :: encG r
  | [x, y] => [x.toNat / 4, x.toNat % 4 * 16 + y.toNat / 16, y.toNat % 16 * 4]
  | [x] => [x.toNat / 4, x.toNat % 4 * 16]
  | [] => []
theorem u8n_at (x : UInt8) : u8n x.toNat = x := UInt8.ofNat_toNat
theorem encG_lt : ∀ (p : List UInt8), ∀ v ∈ encG p, v < 64
  | x :: y :: z :: r, v, h => by
    have hx := x.toNat_lt
    have hy := y.toNat_lt
    have hz := z.toNat_lt
    simp only [encG, List.mem_cons] at h
    rcases h with rfl | rfl | rfl | rfl | h
    · omega
    · omega
    · omega
    · omega
    · exact encG_lt r v h
  | [x, y], v, h => by
    have hx := x.toNat_lt
    have hy := y.toNat_lt
    simp only [encG, List.mem_cons, List.not_mem_nil, or_false] at h
    rcases h with rfl | rfl | rfl <;> omega
  | [x], v, h => by
    have hx := x.toNat_lt
    simp only [encG, List.mem_cons, List.not_mem_nil, or_false] at h
    rcases h with rfl | rfl <;> omega
  | [], v, h => by cases h
theorem dec_enc : ∀ (p : List UInt8), decG (encG p) = some p
  | x :: y :: z :: r => by
    have hx := x.toNat_lt
    have hy := y.toNat_lt
    have hz := z.toNat_lt
    simp only [encG, decG, dec_enc r, Option.map_some]
    have e1 : x.toNat / 4 * 4 + (x.toNat % 4 * 16 + y.toNat / 16) / 16 = x.toNat := by omega
    have e2 : (x.toNat % 4 * 16 + y.toNat / 16) % 16 * 16 + (y.toNat % 16 * 4 + z.toNat / 64) / 4 = y.toNat := by omega
    have e3 : (y.toNat % 16 * 4 + z.toNat / 64) % 4 * 64 + z.toNat % 64 = z.toNat := by omega
    rw [e1, e2, e3, u8n_at, u8n_at, u8n_at]
  | [x, y] => by
    have hx := x.toNat_lt
    have hy := y.toNat_lt
    simp only [encG, decG]
    have e0 : y.toNat % 16 * 4 % 4 = 0 := by omega
    have e1 : x.toNat / 4 * 4 + (x.toNat % 4 * 16 + y.toNat / 16) / 16 = x.toNat := by omega
    have e2 : (x.toNat % 4 * 16 + y.toNat / 16) % 16 * 16 + (y.toNat % 16 * 4) / 4 = y.toNat := by omega
    rw [if_pos e0, e1, e2, u8n_at, u8n_at]
  | [x] => by
    have hx := x.toNat_lt
    simp only [encG, decG]
    have e0 : x.toNat % 4 * 16 % 16 = 0 := by omega
    have e1 : x.toNat / 4 * 4 + x.toNat % 4 * 16 / 16 = x.toNat := by omega
    rw [if_pos e0, e1, u8n_at]
  | [] => rfl
theorem encG_len : ∀ (p : List UInt8), (encG p).length = (8 * p.length + 5) / 6
  | x :: y :: z :: r => by
    have := encG_len r
    simp only [encG, List.length_cons]
    omega
  | [x, y] => by simp [encG]
  | [x] => by simp [encG]
  | [] => by simp [encG]
def b64L (url : Bool) (p : List UInt8) : List UInt8 := (encG p).map (letA url)
def encS (url : Bool) (p : List UInt8) : List UInt8 := match url with
  | true => b64L true p
  | false => b64L false p ++ eqs ((4 - (b64L false p).length % 4) % 4)
def mlF : Fact where
  own := false
  D := fun k => k = 0
  p := fun w => ∃ m : Int, w.cell? ⟨0, 0, none⟩ = some (.int .i64 m)
  st := fun w w' hs ⟨m, h⟩ => ⟨m, by rw [← h]; exact World.cell?_of_block (hs _ rfl)⟩
structure Md where
  b : Nat
  bx : Nat
  P : Option Addr
  ps : List Part
  c : Nat
  m : Nat
  seen : List Nat
def Md.vs (x : Md) : List Value := [.pointer (some ⟨x.bx, 0, none⟩), .slice x.P x.ps.length x.c, .map (some x.m)]
def Md.ss (x : Md) : List (List UInt8) := x.ps.map (·.2.1)
end Go.Proofs.YtlhcgofdfhfegaaGreatDoor.Sx

namespace Go.Proofs.YtlhcgofdfhfegaaGreatDoor.Sx
open Go
theorem tri_sat {cx : Cx} {c : Code} {Q : Exit → KT} {n : Nat} {env : Env} {H : List Bk} {F F' : List Fact} (hS : ∀ β w, Sat cx β n H F w → Sat cx β n H F' w) (h : Tri cx c Q n env H F') : Tri cx c Q n env H F :=
  ⟨fun β a w hi => h.run β a w ⟨hi.ag, hi.size, hi.df, hi.lte, hS β w hi.sat⟩⟩
theorem reify_tri {cx : Cx} {c : Code} {Q : Exit → KT} {n : Nat} {env : Env} {H : List Bk} {F : List Fact} (id : Nat) {ty : TypeId} {cs : List SL} (vs : Nat → List Value) (h1 : tyAt H id = some ty) (h2 : cellsAt H id = some cs) (h3 : ∀ b, allV (cs.map (SL.re id b)) = some (vs b))
    (h : ∀ b, Tri cx c Q n (envRe id b env) (bksRe id b H) (bkF b ty (vs b) :: F)) : Tri cx c Q n env H F :=
  tri_join (ι := Nat) (fun _ => True) n (fun b => envRe id b env) (fun b => bksRe id b H) (fun b => bkF b ty (vs b) :: F) (fun b _ => h b) (EntX.reify id vs h1 h2 h3 (fun b => EntX.of b trivial ⟨fun β a w hi => ⟨β, rfl, rfl, hi⟩⟩))
end Go.Proofs.YtlhcgofdfhfegaaGreatDoor.Sx

namespace Go.Proofs.YtlhcgofdfhfegaaGreatDoor.Sx
open Go
attribute [local irreducible] Calls
def markB (l : List Bool) (n : Int) : Bool := decide (0 ≤ n) && l.getD n.toNat false
def haveB (l : List Nat) (made : List Bool) : Bool := l.all fun n => markB made (n : Int)
structure Nd where
  of : List Nat
  ok : Bool
  turn : Bool
def IsM (l : List Bool) (n : Nat) : Prop := markB l (n : Int) = true
theorem markB_nat (l : List Bool) (n : Nat) : markB l (n : Int) = l.getD n false := by
  unfold markB
  rw [decide_eq_true (Int.natCast_nonneg n), Bool.true_and, Int.toNat_natCast]
theorem isM_iff {l : List Bool} {n : Nat} : IsM l n ↔ l[n]? = some true := by
  unfold IsM
  rw [markB_nat, List.getD_eq_getElem?_getD]
  cases l[n]? with
  | none => simp
  | some b => simp
theorem isM_set {l : List Bool} {n m : Nat} (hn : n < l.length) : IsM (l.set n true) m ↔ IsM l m ∨ m = n := by
  rw [isM_iff, isM_iff, List.getElem?_set]
  by_cases h : n = m
  · subst h
    rw [if_pos rfl, if_pos hn]
    simp
  · rw [if_neg h]
    exact ⟨.inl, fun q => q.elim id (fun e => absurd e.symm h)⟩
theorem have_iff {of : List Nat} {C : List Bool} : haveB of C = true ↔ ∀ n ∈ of, IsM C n := by
  unfold haveB IsM
  exact List.all_eq_true
def leftL (C : List Bool) (of : List Nat) : List Nat := of.filter fun n => !markB C (n : Int)
def OkAt (C : List Bool) (n : Nat) (d : Nd) : Prop := (d.ok = true → haveB d.of C = true → IsM C n) ∧ (d.turn = true → IsM C n → ∀ k, leftL C d.of = [k] → k < C.length → IsM C k)
def Closed (nds : List Nd) (C : List Bool) : Prop := C.length = nds.length ∧ ∀ n d, nds[n]? = some d → 0 < n → OkAt C n d
def Le (A C : List Bool) : Prop := A.length = C.length ∧ ∀ n, IsM A n → IsM C n
def Least (nds : List Nd) (I R : List Bool) : Prop := Closed nds R ∧ Le I R ∧ ∀ C, Closed nds C → Le I C → Le R C
theorem Le.refl (A : List Bool) : Le A A := ⟨rfl, fun _ h => h⟩
theorem Le.trans {A B C : List Bool} (h : Le A B) (h2 : Le B C) : Le A C := ⟨h.1.trans h2.1, fun n q => h2.2 n (h.2 n q)⟩
theorem Le.set {A C : List Bool} {n : Nat} (h : Le A C) (hn : n < A.length) (hc : IsM C n) : Le (A.set n true) C := by
  refine ⟨by rw [List.length_set]; exact h.1, fun m q => ?_⟩
  rcases (isM_set hn).1 q with q | rfl
  · exact h.2 m q
  · exact hc
theorem Le.have {A C : List Bool} (h : Le A C) {of : List Nat} (q : haveB of A = true) : haveB of C = true := have_iff.2 fun n hn => h.2 n (have_iff.1 q n hn)
def cntF (l : List Bool) : Nat := l.count false
theorem cntF_set : ∀ {l : List Bool} {n : Nat}, n < l.length → ¬ IsM l n → cntF (l.set n true) + 1 = cntF l
  | [], n, h, _ => absurd h (Nat.not_lt_zero _)
  | b :: r, 0, _, hm => by
    cases b with
    | true => exact absurd rfl hm
    | false => simp [cntF]
  | b :: r, n + 1, h, hm => by
    have ih := cntF_set (l := r) (n := n) (by simpa using h) (fun q => hm (isM_iff.2 (by rw [List.getElem?_cons_succ]; exact isM_iff.1 q)))
    unfold cntF at ih ⊢
    rw [List.set_cons_succ, List.count_cons, List.count_cons]
    omega
structure Inn (nds : List Nd) (I m0 made : List Bool) (n : Nat) (more : Bool) : Prop where
  len : made.length = nds.length
  le0 : Le I made
  least : ∀ C, Closed nds C → Le I C → Le made C
  lt : more = true → cntF made < cntF m0
  same : more = false → made = m0 ∧ ∀ i d, nds[i]? = some d → 0 < i → i < n → OkAt made i d
theorem Inn.cnt {nds : List Nd} {I m0 made : List Bool} {n : Nat} {more : Bool} (h : Inn nds I m0 made n more) : cntF made ≤ cntF m0 := by
  cases more with
  | true => exact Nat.le_of_lt (h.lt rfl)
  | false => rw [(h.same rfl).1]; exact Nat.le_refl _
theorem Inn.put {nds : List Nd} {I m0 made : List Bool} {n k : Nat} {more : Bool} (h : Inn nds I m0 made n more) (hk : k < made.length) (hm : ¬ IsM made k) (hC : ∀ C, Closed nds C → Le I C → Le made C → IsM C k) : Inn nds I m0 (made.set k true) n true where
  len := by rw [List.length_set]; exact h.len
  le0 := ⟨by rw [List.length_set]; exact h.le0.1, fun m q => (isM_set hk).2 (.inl (h.le0.2 m q))⟩
  least := fun C h1 h2 => (h.least C h1 h2).set hk (hC C h1 h2 (h.least C h1 h2))
  lt := fun _ => by have := cntF_set hk hm; have := h.cnt; omega
  same := fun q => by cases q
theorem Inn.next {nds : List Nd} {I m0 made : List Bool} {n : Nat} {d : Nd} {more : Bool} (h : Inn nds I m0 made n more) (hd : nds[n]? = some d) (hn : 0 < n → more = false → OkAt made n d) : Inn nds I m0 made (n + 1) more where
  len := h.len
  le0 := h.le0
  least := h.least
  lt := h.lt
  same := fun q => ⟨(h.same q).1, fun i d' hi h0 hlt => by
    rcases Nat.lt_or_ge i n with q2 | q2
    · exact (h.same q).2 i d' hi h0 q2
    · obtain rfl : i = n := by omega
      rw [hd] at hi
      obtain rfl := Option.some.inj hi
      exact hn h0 q⟩
theorem Inn.start {nds : List Nd} {I made : List Bool} (hl : made.length = nds.length) (h0 : Le I made) (h1 : ∀ C, Closed nds C → Le I C → Le made C) : Inn nds I made made 0 false := ⟨hl, h0, h1, fun q => (by cases q), fun _ => ⟨rfl, fun i d _ _ q => absurd q (Nat.not_lt_zero _)⟩⟩
theorem Inn.done {nds : List Nd} {I m0 made : List Bool} (h : Inn nds I m0 made nds.length false) : Least nds I made := by
  refine ⟨⟨h.len, fun n d hd h0 => (h.same rfl).2 n d hd h0 (List.getElem?_eq_some_iff.1 hd).1⟩, h.le0, h.least⟩
end Go.Proofs.YtlhcgofdfhfegaaGreatDoor.Sx

namespace Go.Proofs.YtlhcgofdfhfegaaGreatDoor.Sx
open Go
section
variable {cx : Cx} {β : Va} {n : Nat} {env : Env} {H : List Bk} {F : List Fact} {w : World}
end
end Go.Proofs.YtlhcgofdfhfegaaGreatDoor.Sx

namespace Go.Proofs.YtlhcgofdfhfegaaGreatDoor.Sx
open Go
attribute [local irreducible] Calls
structure DelI (f : Nat → Bool) (l : List Nat) (i j : Nat) (dk : List Nat) : Prop where
  len : dk.length = l.length
  lt : i < j
  le : j ≤ l.length
  low : dk.take i = (l.take j).filter fun n => !f n
  high : ∀ q, j ≤ q → dk[q]? = l[q]?
theorem DelI.start {f : Nat → Bool} {l : List Nat} (h : l.any f = true) : DelI f l (l.findIdx f) (l.findIdx f + 1) l := by
  obtain ⟨x, hx, hf⟩ := List.any_eq_true.1 h
  have hlt : l.findIdx f < l.length := List.findIdx_lt_length_of_exists ⟨x, hx, hf⟩
  refine ⟨rfl, Nat.lt_succ_self _, hlt, ?_, fun _ _ => rfl⟩
  rw [List.take_add_one, List.getElem?_eq_getElem hlt, List.filter_append]
  have e1 : (l.take (l.findIdx f)).filter (fun n => !f n) = l.take (l.findIdx f) := by
    rw [List.filter_eq_self]
    intro a ha
    obtain ⟨q, hq, rfl⟩ := List.mem_take_iff_getElem.1 ha
    have := List.not_of_lt_findIdx (p := f) (xs := l) (i := q) (by omega)
    simpa using this
  have e2 : f l[l.findIdx f] = true := List.findIdx_getElem (w := hlt)
  rw [e1]
  simp [e2]
theorem DelI.keep {f : Nat → Bool} {l dk : List Nat} {i j x : Nat} (h : DelI f l i j dk) (hx : l[j]? = some x) (hf : f x = false) : DelI f l (i + 1) (j + 1) (dk.set i x) := by
  have hj := (List.getElem?_eq_some_iff.1 hx).1
  have h1 := h.lt
  have h2 := h.len
  refine ⟨by rw [List.length_set]; exact h.len, by omega, hj, ?_, fun q hq => ?_⟩
  · rw [List.take_add_one, List.take_add_one, hx, List.filter_append, List.take_set_of_le (Nat.le_refl _), h.low, List.getElem?_set, if_pos rfl, if_pos (by omega)]
    simp [hf]
  · rw [List.getElem?_set, if_neg (by omega), h.high q (by omega)]
theorem DelI.skip {f : Nat → Bool} {l dk : List Nat} {i j x : Nat} (h : DelI f l i j dk) (hx : l[j]? = some x) (hf : f x = true) : DelI f l i (j + 1) dk := by
  have hj := (List.getElem?_eq_some_iff.1 hx).1
  have h1 := h.lt
  refine ⟨h.len, by omega, hj, ?_, fun q hq => h.high q (by omega)⟩
  rw [List.take_add_one, hx, List.filter_append, h.low]
  simp [hf]
structure NdR where
  d : Nd
  A : Option Addr
  c : Nat
def NdR.vs (q : NdR) : List Value := [.slice q.A q.d.of.length q.c, .bool q.d.ok, .bool q.d.turn]
theorem letA_run (url : Bool) {n : Nat} (h : n < 64) : runC (letA url n) = true := by
  have key : ∀ u : Bool, ∀ n : _root_.Fin 64, runC (letA u n.1) = true := by decide +kernel
  exact key url ⟨n, h⟩
theorem val_letA (url : Bool) {n : Nat} (h : n < 64) : valA url (letA url n) = some n := by
  have key : ∀ u : Bool, ∀ n : _root_.Fin 64, valA u (letA u n.1) = some n.1 := by decide +kernel
  exact key url ⟨n, h⟩
theorem vals_letA (url : Bool) : ∀ (vs : List Nat), (∀ v ∈ vs, v < 64) → valsA url (vs.map (letA url)) = some vs
  | [], _ => rfl
  | v :: r, h => by
    have ih := vals_letA url r (fun x hx => h x (List.mem_cons_of_mem _ hx))
    rw [List.map_cons, valsA, val_letA url (h v List.mem_cons_self), ih]
theorem decS_b64 (url : Bool) (p : List UInt8) : decS url (b64L url p) = some p := by
  unfold decS b64L
  rw [vals_letA url _ (encG_lt p)]
  exact dec_enc p
theorem b64L_run (url : Bool) (p : List UInt8) : ∀ x ∈ b64L url p, runC x = true := by
  intro x hx
  obtain ⟨v, hv, rfl⟩ := List.mem_map.1 hx
  exact letA_run url (encG_lt p v hv)
theorem b64L_len (url : Bool) (p : List UInt8) : (b64L url p).length = (8 * p.length + 5) / 6 := by unfold b64L; rw [List.length_map, encG_len]
def triL : List UInt8 → List (List UInt8)
  | a :: b :: c :: r => [a, b, c] :: triL r
  | [] => []
  | l => [l]
theorem b64_tri (url : Bool) : ∀ (p : List UInt8), b64L url p = (triL p).flatMap (b64L url)
  | [] => rfl
  | [a] => by simp [triL]
  | [a, b] => by simp [triL]
  | a :: b :: c :: r => by
    have ih := b64_tri url r
    show b64L url (a :: b :: c :: r) = b64L url [a, b, c] ++ (triL r).flatMap (b64L url)
    rw [← ih]
    unfold b64L
    rw [← List.map_append]
    congr 1
theorem tri_len : ∀ (p : List UInt8), ∀ q ∈ triL p, 1 ≤ q.length ∧ q.length ≤ 3
  | [], q, h => by cases h
  | [a], q, h => by
    obtain rfl : q = [a] := by simpa [triL] using h
    exact ⟨by simp, by simp⟩
  | [a, b], q, h => by
    obtain rfl : q = [a, b] := by simpa [triL] using h
    exact ⟨by simp, by simp⟩
  | a :: b :: c :: r, q, h => by
    rcases List.mem_cons.1 h with rfl | h
    · exact ⟨by simp, by simp⟩
    · exact tri_len r q h
theorem tri_next {p : List UInt8} (h : p ≠ []) : triL p = p.take 3 :: triL (p.drop 3) := by
  match p, h with
  | [a], _ => rfl
  | [a, b], _ => rfl
  | a :: b :: c :: r, _ => rfl
def trV (p : List UInt8) : Nat → Nat
  | 0 => 0
  | j + 1 => trV p j * 256 + (p.getD j 0).toNat
theorem trV_lt (p : List UInt8) : ∀ j, trV p j < 256 ^ j
  | 0 => Nat.one_pos
  | j + 1 => by
    have := trV_lt p j
    have h := (p.getD j 0).toNat_lt
    rw [trV, Nat.pow_succ]
    omega
theorem trV_out {p : List UInt8} {j : Nat} (h : p.length ≤ j) : trV p (j + 1) = trV p j * 256 := by
  rw [trV, List.getD_eq_getElem?_getD, List.getElem?_eq_none h]
  exact Nat.add_zero _
theorem encT_at : ∀ {p : List UInt8} {i : Nat}, p.length ≤ 3 → 1 ≤ p.length → i < p.length + 1 → (encG p)[i]? = some (trV p 3 / 64 ^ (3 - i) % 64)
  | [x], i, _, _, h => by
    have hx := x.toNat_lt
    match i, h with
    | 0, _ => simp [encG, trV]; omega
    | 1, _ => simp [encG, trV]; omega
  | [x, y], i, _, _, h => by
    have hx := x.toNat_lt
    have hy := y.toNat_lt
    match i, h with
    | 0, _ => simp [encG, trV]; omega
    | 1, _ => simp [encG, trV]; omega
    | 2, _ => simp [encG, trV]; omega
  | [x, y, z], i, _, _, h => by
    have hx := x.toNat_lt
    have hy := y.toNat_lt
    have hz := z.toNat_lt
    match i, h with
    | 0, _ => simp [encG, trV]; omega
    | 1, _ => simp [encG, trV]; omega
    | 2, _ => simp [encG, trV]; omega
    | 3, _ => simp [encG, trV]; omega
theorem enc_len3 {p : List UInt8} (h3 : p.length ≤ 3) (h1 : 1 ≤ p.length) : (encG p).length = p.length + 1 := by
  rw [encG_len]
  omega
theorem shr64 {X i : Nat} (hi : i ≤ 3) : (X : Int).fdiv (2 ^ min (6 * (i : Int)).toNat IntKind.i64.bits) = ((X / 64 ^ i : Nat) : Int) := by
  rw [show (6 * (i : Int)).toNat = 6 * i by omega, show min (6 * i) IntKind.i64.bits = 6 * i from Nat.min_eq_left (by show _ ≤ 64; omega), show ((2 : Int) ^ (6 * i)) = ((64 ^ i : Nat) : Int) by rw [show (64 : Nat) = 2 ^ 6 from rfl, ← Nat.pow_mul]; simp]
  rw [Int.fdiv_eq_ediv_of_nonneg _ (Int.natCast_nonneg _)]
  rfl
theorem cutZ {A : Option Addr} {c s : Nat} : cutA A c 0 s = A := by
  cases A <;> simp [cutA, Addr.add]
structure Lies (A A' : Option Addr) (p p' : List UInt8) : Prop where
  rd : ∀ w, Bs w A p → Bs w A' p'
  d : ∀ k, (bsF A' p').D k → (bsF A p).D k
theorem Lies.trans {A A' A'' : Option Addr} {p p' p'' : List UInt8} (h : Lies A A' p p') (h2 : Lies A' A'' p' p'') : Lies A A'' p p'' := ⟨fun w q => h2.rd w (h.rd w q), fun k q => h.d k (h2.d k q)⟩
theorem Lies.refl (A : Option Addr) (p : List UInt8) : Lies A A p p := ⟨fun _ q => q, fun _ q => q⟩
theorem Lies.nil (A A' : Option Addr) (p : List UInt8) : Lies A A' p [] := ⟨fun w _ => Bs.nil w A', fun k h => absurd h.1 (by decide)⟩
theorem Lies.drop {A : Option Addr} {p : List UInt8} {c n : Nat} (hc : p.length ≤ c) (hn : n ≤ p.length) : Lies A (cutA A c n 1) p (p.drop n) :=
  ⟨fun w q => Bs.cutB q hc hn (Nat.le_refl _) (List.take_of_length_le (by rw [List.length_drop]; exact Nat.le_refl _)), fun k hk => cut_D (by rw [List.length_drop]; omega) hk⟩
theorem Lies.take (A : Option Addr) (p : List UInt8) (n : Nat) : Lies A A p (p.take n) := by
  refine ⟨fun w q => ?_, fun k hk => ?_⟩
  · have h := Bs.cutB (i := 0) (j := min n p.length) q (Nat.le_refl _) (Nat.zero_le _) (Nat.min_le_right _ _) (by rw [List.drop_zero, Nat.sub_zero, ← List.take_eq_take_min])
    rwa [cutZ] at h
  · have h : (bsF (cutA A 1 0 1) (p.take n)).D k := by rw [cutZ]; exact hk
    exact cut_D (by rw [List.length_take]; omega) h
def AlphE (al : ByteArray) (url : Bool) : Prop := ∀ n, n < 64 → al.data.toList[n]? = some (letA url n)
theorem encode_c (w : World) (al : ByteArray) (url : Bool) (hal : AlphE al url) (A : Option Addr) (p : List UInt8) (c : Nat) (h1 : 1 ≤ p.length) (h3 : p.length ≤ 3) (hm : Mem w [bsF A p]) :
    Con Tryz.prog n_b64_encode #[.string al, .slice A p.length c] w [] fun v Fs => ∃ A c, v = .slice A (b64L url p).length c ∧ (b64L url p).length ≤ c ∧ Fs = [browF ty_uint8 A (b64L url p) c] := by
  have g := good_b64_encode w (Un [])
  have hml := maxLen_eq
  have hr : Bs w A p := hm.fact (bsF A p) (by simp)
  obtain ⟨ad, hA⟩ := Bs.addr hr (by omega)
  refine con_go (cx := cx_b64_encode w (Un [])) g b_b64_encode [.c (.v (.string al)), .c (.v (.slice A p.length c))] [bsF A p] hm ?_
  refine loop_rule (ι := Nat) 0 (fun j => [(0, .c (.v (.string al))), (1, .c (.v (.slice A p.length c))), (5, .c (.v (.int .i64 (trV p j : Int)))), (9, .c (.v (.int .i64 (j : Int))))]) (fun _ => []) (fun _ => [bsF A p]) (fun j => j ≤ 3) (fun j => 3 - j) (0 : Nat) (Nat.zero_le _) (Ent.mk' ⟨rfl, rfl, rfl, rfl, trivial⟩ rfl (fun β w' hs => hs)) g ?_
  intro j hj
  have hv : trV p j < 16777216 := Nat.lt_of_lt_of_le (trV_lt p j) (show 256 ^ j ≤ 256 ^ 3 from Nat.pow_le_pow_right (by decide) hj)
  refine BIf.dec (fun hlt => ?_) (fun hge => ?_)
  · have hlt0 : (j : Int) < 3 := hlt
    refine ⟨by decide, _, shl_i64 (by omega), ?_⟩
    refine BIf.dec (fun hl => ?_) (fun hl => ?_)
    · have hl0 : (j : Int) < (p.length : Int) := hl
      obtain ⟨x, hx, _⟩ := at_lt (l := p) (k := j) (by omega)
      have hxl := x.toNat_lt
      have hnx : trV p (j + 1) = trV p j * 256 + x.toNat := by rw [trV, List.getD_eq_getElem?_getD, hx]; rfl
      refine ⟨ad, j, hA, rfl, by omega, byte x, fun β w' hs => Rd.cell1 (show Rd 1 (some ad) p.length (p.map byte) w' from hA ▸ hs.get 0 rfl) (by rw [List.getElem?_map, hx]; rfl), ?_⟩
      refine ⟨(x.toNat : Int), by rw [wrap_i64 (by omega) (by omega)], ?_⟩
      refine ⟨_, or_i64 (by omega) (by omega), ?_⟩
      refine ⟨((j + 1 : Nat) : Int), by rw [wrap_i64 (by omega) (by omega)]; rfl, ?_⟩
      exact ⟨j + 1, by show j + 1 ≤ 3; omega, by show 3 - (j + 1) < 3 - j; omega, Ent.mk' ⟨rfl, rfl, by rw [hnx]; rfl, rfl, trivial⟩ rfl (fun β w' hs => hs)⟩
    · have hl0 : ¬ (j : Int) < (p.length : Int) := hl
      refine ⟨((j + 1 : Nat) : Int), by rw [wrap_i64 (by omega) (by omega)]; rfl, ?_⟩
      exact ⟨j + 1, by show j + 1 ≤ 3; omega, by show 3 - (j + 1) < 3 - j; omega, Ent.mk' ⟨rfl, rfl, by rw [trV_out (by omega)]; rfl, rfl, trivial⟩ rfl (fun β w' hs => hs)⟩
  · have hge0 : ¬ (j : Int) < 3 := hge
    obtain rfl : j = 3 := by omega
    have hl3 := enc_len3 h3 h1
    have hbl : (b64L url p).length = p.length + 1 := by unfold b64L; rw [List.length_map, hl3]
    refine ⟨((p.length + 1 : Nat) : Int), by rw [wrap_i64 (by omega) (by omega)]; rfl, ?_⟩
    refine loop_rule (ι := Nat × Option Addr × Nat) 0 (fun i => [(0, .c (.v (.string al))), (5, .c (.v (.int .i64 (trV p 3 : Int)))), (7, .c (.v (.slice i.2.1 ((b64L url p).take i.1).length i.2.2))), (28, .c (.v (.int .i64 ((p.length + 1 : Nat) : Int)))), (29, .c (.v (.int .i64 (i.1 : Int))))]) (fun _ => []) (fun i => [browF ty_uint8 i.2.1 ((b64L url p).take i.1) i.2.2])
      (fun i => i.1 ≤ p.length + 1) (fun i => p.length + 1 - i.1) (0, none, 0) (Nat.zero_le _) (Ent.mk' ⟨rfl, rfl, rfl, rfl, rfl, trivial⟩ rfl (fun β w' hs => (hs.nilRow ty_uint8 1).perm [0])) g ?_
    rintro ⟨i, O, oc⟩ hi
    simp only at hi
    refine BIf.dec (fun hlt => ?_) (fun hge2 => ?_)
    · have hlt0 : (i : Int) < ((p.length + 1 : Nat) : Int) := hlt
      have hi3 : i ≤ 3 := by omega
      refine ⟨((3 - i : Nat) : Int), by rw [wrap_i64 (by omega) (by omega)]; omega, ?_⟩
      refine ⟨6 * ((3 - i : Nat) : Int), wrap_i64 (by omega) (by omega), ?_⟩
      refine ⟨by omega, _, shr64 (by omega), ?_⟩
      have hq : trV p 3 / 64 ^ (3 - i) < 33554432 := Nat.lt_of_le_of_lt (Nat.div_le_self _ _) (by omega)
      refine ⟨_, and_i64 (k := 6) hq (by decide), ?_⟩
      obtain ⟨n, hn⟩ : ∃ n, trV p 3 / 64 ^ (3 - i) % 2 ^ 6 = n := ⟨_, rfl⟩
      rw [hn]
      have hn6 : n < 64 := by rw [← hn]; exact Nat.mod_lt _ (by decide)
      have hx : (b64L url p)[i]? = some (letA url n) := by
        unfold b64L
        rw [List.getElem?_map, encT_at h3 h1 (by omega), ← hn]
        rfl
      obtain ⟨x, hxx⟩ : ∃ x, letA url n = x := ⟨_, rfl⟩
      rw [hxx] at hx
      have hsn : (b64L url p).take (i + 1) = (b64L url p).take i ++ [x] := by rw [List.take_add_one, hx]; rfl
      refine ⟨n, x, rfl, by rw [← hxx]; exact hal n hn6, ?_⟩
      intro b1
      refine ⟨1, ((b64L url p).take i).length, ((b64L url p).take (i + 1)).length, ((b64L url p).take i).map byte, [byte x], ((b64L url p).take (i + 1)).map byte, rfl, fun β w' hs => row_rd (hs.get 0 rfl), bytes_one [x], by rw [hsn, List.length_append]; rfl, by rw [hsn, List.map_append]; rfl, by rw [List.length_take]; omega, by rw [List.length_take]; show _ * 1 ≤ _; omega, ?_⟩
      intro A' c' _ _ _
      refine ⟨((i + 1 : Nat) : Int), by rw [wrap_i64 (by omega) (by omega)]; rfl, ?_⟩
      exact ⟨(i + 1, A', c'), by show i + 1 ≤ p.length + 1; omega, by show p.length + 1 - (i + 1) < p.length + 1 - i; omega, Ent.mk' ⟨rfl, rfl, rfl, rfl, rfl, trivial⟩ rfl (fun β w' hs => hs.perm [1])⟩
    · have hge0 : ¬ (i : Int) < ((p.length + 1 : Nat) : Int) := hge2
      have hfl : (b64L url p).take i = b64L url p := List.take_of_length_le (by omega)
      rw [hfl]
      intro β w' hs
      exact hs.fin [0] ⟨O, oc, rfl, brow_cap (hs.get 0 rfl), rfl⟩
theorem Sat.endI {cx : Cx} {β : Va} {n : Nat} {H : List Bk} {F : List Fact} {w : World} {kk : IntKind} (h : Sat cx β n H F w) (j : Nat) {b r : Nat} {l ss : MLI} {cur : Option (Int × Value)} (hj : nth F j = some (itIF kk b r l ss cur)) : Sat cx β n H (putAt F j (mapIF kk b l)) w := by
  obtain ⟨es, ds, k, since, c0, seen, hb, hm, _⟩ := h.get j hj
  exact h.upd hj rfl (Chg.refl _ _) ⟨es, k, hb, hm⟩ (fun q hq => .inl (.inl hq))
theorem Sat.emptyI {cx : Cx} {β : Va} {n : Nat} {H : List Bk} {F : List Fact} {w : World} {kk : IntKind} (h : Sat cx β n H F w) (j : Nat) {b : Nat} (hj : nth F j = some (mapF b [])) : Sat cx β n H (putAt F j (mapIF kk b [])) w := by
  obtain ⟨es, k, hb, hm⟩ := h.get j hj
  obtain rfl : es = [] := List.map_eq_nil_iff.1 hm.cut
  exact h.upd hj rfl (Chg.refl _ _) ⟨[], k, hb, rfl, List.Pairwise.nil, fun _ q => by cases q⟩ (fun q hq => .inl hq)
def insK (n : Nat) (pre : List Int) (x : Int) (args : Array Value) (X : Fact) : Prop := args = #[.int .u64 x] ∧ X = noF ∧ pre.length < n
theorem keysI_c (w : World) (mb : Option Nat) : Con Tryz.prog 88 #[.map mb] w [] fun v Fs => ∃ B, v = .func (.func 121) #[] #[.pointer (some ⟨B, 0, none⟩)] ∧ Fs = [bkF B ty_map_uint64_sl_uint8 [.map mb]] := by
  refine con_of_sx (cx := cx_maps_Keys_map_uint64_byte_uint64_byte w (Un [])) (good_maps_Keys_map_uint64_byte_uint64_byte w (Un [])) b_maps_Keys_map_uint64_byte_uint64_byte rfl rfl (β := Va.z) [.c (.v (.map mb))] 0 [] [] rfl rfl (Sat.start rfl) ?_
  intro β w' hs
  exact hs.ofBk.fin [0] ⟨β 0, rfl, rfl⟩
theorem keysI_it (l : Nat) (w : World) (bx b : Nat) (lm : MLI) (f0 R : Fact) (J Jx : List Int → Fact → Prop) (hJ0 : J [] f0) (hJo : ∀ pre f, J pre f → f.own = true) (hRo : R.own = false) (hY : Yc Tryz.prog l J Jx R (insK lm.length))
    (hm : Mem w (f0 :: R :: [bkF bx ty_map_uint64_sl_uint8 [.map (some b)], mapIF .u64 b lm])) :
    Con Tryz.prog 121 #[.func (.yield l) #[] #[], .pointer (some ⟨bx, 0, none⟩)] w [f0, bkF bx ty_map_uint64_sl_uint8 [.map (some b)], mapIF .u64 b lm]
      (fun _ Fs => ∃ f Fs', Fs = f :: Fs' ∧ ((∃ xs, J xs f ∧ xs.Perm (lm.map (·.1)) ∧ Fs' = [mapIF .u64 b lm]) ∨ (∃ pre, Jx pre f ∧ Fs' = [mapIF .u64 b lm]))) := by
  have g := good_maps_Keys_map_uint64_byte_uint64_byte_1 w (Un [f0, bkF bx ty_map_uint64_sl_uint8 [.map (some b)], mapIF .u64 b lm]) [bx]
  have hs0 : Sat (cx_maps_Keys_map_uint64_byte_uint64_byte_1 w (Un [f0, bkF bx ty_map_uint64_sl_uint8 [.map (some b)], mapIF .u64 b lm]) [bx]) (Va.of fun _ => bx) 1 [] (f0 :: R :: [bkF bx ty_map_uint64_sl_uint8 [.map (some b)], mapIF .u64 b lm]) w := by
    refine hm.sat rfl (fun f hf ho k hk => ?_) ⟨Nat.le_refl 1, fun i hi => by obtain rfl : i = 0 := Nat.lt_one_iff.1 hi; rfl⟩
    simp only [List.mem_cons, List.not_mem_nil, or_false] at hf
    rcases hf with rfl | rfl | rfl | rfl
    · exact ⟨_, by simp, hk⟩
    · rw [hRo] at ho; cases ho
    · exact ⟨bkF bx ty_map_uint64_sl_uint8 [.map (some b)], by simp, hk⟩
    · exact ⟨mapIF .u64 b lm, by simp, hk⟩
  have hs1 := hs0.toBk 2 rfl 0 Nat.zero_lt_one rfl
  refine con_of_sx (cx := cx_maps_Keys_map_uint64_byte_uint64_byte_1 w (Un [f0, bkF bx ty_map_uint64_sl_uint8 [.map (some b)], mapIF .u64 b lm]) [bx]) g b_maps_Keys_map_uint64_byte_uint64_byte_1 rfl rfl (β := Va.of fun _ => bx) [.c (.v (.func (.yield l) #[] #[])), .c (.p 0 0)] 1 _ _ rfl rfl hs1 ?_
  refine ⟨Nat, fun r => .pointer (some ⟨r, 0, none⟩), fun r => [f0, R, itIF .u64 b r lm [] none], fun β w' ty hs => hs.rangeI g 2 rfl, fun r => ?_⟩
  refine loop_rule (ι := MLI × Fact × Option (Int × Value)) 1 (fun _ => [(0, .c (.v (.func (.yield l) #[] #[]))), (1, .c (.p 0 0)), (5, .c (.v (.pointer (some ⟨r, 0, none⟩))))]) (fun _ => [⟨0, ty_map_uint64_sl_uint8, [.v (.map (some b))]⟩]) (fun i => [i.2.1, R, itIF .u64 b r lm i.1 i.2.2])
    (fun i => J (i.1.map (·.1)) i.2.1) (fun i => lm.length - i.1.length) ([], f0, none) hJ0 (Ent.same ⟨rfl, rfl, rfl, trivial⟩ rfl) g ?_
  rintro ⟨ss, f, cur⟩ hJ
  simp only at hJ
  have hfo := hJo _ _ hJ
  simp only
  refine ⟨{o : Option (Int × Value) // NxtI lm ss o}, fun o => nxtV .u64 o.1, fun o => [f, R, nxtF .u64 b r lm ss cur o.1], fun β w' ty hs => hs.nextI 2 rfl ty, ?_⟩
  rintro ⟨o, ho⟩
  cases o with
  | none =>
    have hperm : ss.Perm lm := ho
    intro β w' hs
    exact ((hs.endI 2 rfl).keepB (List.nil_sublist _)).fin [0, 2] ⟨f, _, rfl, .inl ⟨_, hJ, hperm.map _, rfl⟩⟩ rfl rfl rfl ⟨hfo, rfl, trivial⟩
  | some x =>
    have hlt : ss.length < lm.length := ho.2
    refine ⟨Unit, fun _ => .tuple #[.int .u64 x.1, x.2], fun _ => [f, R, itIF .u64 b r lm (ss ++ [x]) (some x)], fun β w' ty hs => ⟨(), w', hs.entryI 2 rfl, hs⟩, fun _ => ?_⟩
    refine yield_ro (X := noF) (x := x.1) hY 0 1 rfl hJ hfo rfl hRo (by decide) (fun β => ⟨rfl, rfl, by rw [List.length_map]; exact hlt⟩) rfl (fun β w _ => ⟨trivial, fun k hk => hk.elim, fun k _ h => h.elim⟩) ?_ ?_
    · intro f2 hfo2 hJ2
      refine ⟨(ss ++ [x], f2, some x), by show J ((ss ++ [x]).map (·.1)) f2; rw [List.map_append]; exact hJ2, by show lm.length - (ss ++ [x]).length < lm.length - ss.length; rw [List.length_append]; show lm.length - (ss.length + 1) < _; omega, Ent.same ⟨rfl, rfl, rfl, trivial⟩ rfl⟩
    · intro f2 hfo2 hJ2 β w' hs
      exact ((hs.endI 2 rfl).keepB (List.nil_sublist _)).fin [0, 2] ⟨f2, _, rfl, .inr ⟨_, hJ2, rfl⟩⟩ rfl rfl rfl ⟨hfo2, rfl, trivial⟩
abbrev urowF (A : Option Addr) (l : List Int) (c : Nat) : Fact := rowF ty_uint64 1 (.slice A l.length c) l.length (l.map (Value.int .u64))
structure ColN where
  A : Option Addr
  c : Nat
  l : List Int
def GivesN (k : FuncId) (bx : Nat) (ty : TypeId) (cs : List Value) (G G' : Fact) (n : Nat) (P : List Int → Prop) : Prop :=
  ∀ (l : Nat) (w : World) (f0 R : Fact) (J Jx : List Int → Fact → Prop), J [] f0 → (∀ pre f, J pre f → f.own = true) → R.own = false → Yc Tryz.prog l J Jx R (insK n) → Mem w (f0 :: R :: [bkF bx ty cs, G]) →
    Con Tryz.prog k #[.func (.yield l) #[] #[], .pointer (some ⟨bx, 0, none⟩)] w [f0, bkF bx ty cs, G] (fun _ Fs => ∃ f Fs', Fs = f :: Fs' ∧ ((∃ xs, J xs f ∧ P xs ∧ Fs' = [G']) ∨ (∃ pre, Jx pre f ∧ Fs' = [G'])))
theorem appendN_c (w : World) (k : FuncId) (bx : Nat) (ty : TypeId) (cs : List Value) (G G' : Fact) (n : Nat) (P : List Int → Prop) (hcall : callable Tryz.prog k = true) (hG : G.own = true) (hG' : G'.own = true) (hn : n ≤ 1000) (hg : GivesN k bx ty cs G G' n P) (hm : Mem w [bkF bx ty cs, G]) :
    Con Tryz.prog 60 #[.slice none 0 0, .func (.func k) #[] #[.pointer (some ⟨bx, 0, none⟩)]] w [bkF bx ty cs, G] fun v Fs => ∃ A c l, v = .slice A l.length c ∧ P l ∧ l.length ≤ n ∧ (0 < l.length → ∃ ad, A = some ad) ∧ Fs = [urowF A l c, G'] := by
  have g := good_slices_AppendSeq_uint64_uint64 w (Un [bkF bx ty cs, G])
  have hml := maxLen_eq
  have hs0 : Sat (cx_slices_AppendSeq_uint64_uint64 w (Un [bkF bx ty cs, G])) Va.z 0 [] [bkF bx ty cs, G] w := hm.sat0 rfl (fun f hf _ k hk => ⟨f, hf, hk⟩)
  refine con_of_sx (cx := cx_slices_AppendSeq_uint64_uint64 w (Un [bkF bx ty cs, G])) g b_slices_AppendSeq_uint64_uint64 rfl rfl (β := Va.z) [.c (.v (.slice none 0 0)), .c (.v (.func (.func k) #[] #[.pointer (some ⟨bx, 0, none⟩)]))] 0 [] _ rfl rfl hs0 ?_
  refine range_rule (α := Int) (ι := ColN) (κ := Unit) g rfl (cv := [.pointer (some ⟨bx, 0, none⟩)]) rfl hcall 1 (Nat.le_refl 1)
    (fun pre i => i.l = pre ∧ pre.length ≤ n ∧ (0 < i.l.length → ∃ ad, i.A = some ad)) (fun i => [⟨0, ty_sl_uint64, [.v (.slice i.A i.l.length i.c)]⟩]) (fun i => [urowF i.A i.l i.c]) (fun i => ⟨rfl, trivial⟩)
    (fun _ _ _ => False) (fun _ => []) (fun _ => []) (fun _ => trivial)
    [bkF bx ty cs, G] [] [] ⟨rfl, hG, trivial⟩ (fun g h => by cases h) ⟨none, 0, []⟩ ⟨rfl, Nat.zero_le _, fun h => absurd h (by decide)⟩
    (fun β w hs => ⟨β, Agr.refl _ _, (hs.nilRow ty_uint64 1).perm [1, 2, 0]⟩) (insK n)
    (fun xs Fs' => P xs ∧ Fs' = [G']) (fun _ Fs' => Fs' = [G'])
    (fun l w f0 R J Jx hJ0 hJo hRo hY hm => (hg l w f0 R J Jx hJ0 hJo hRo hY hm).mono fun _ Fs h => h) ?_ ?_ ?_
  · rintro ⟨A, c, l⟩ pre x args X W S' lb bs pn pn' hbs ⟨rfl, hlen, hA⟩ ⟨rfl, rfl, hx⟩
    simp only at hA
    have hx0 : l.length < n := hx
    refine ⟨_, rfl, ?_⟩
    intro b2
    refine ⟨2, l.length, (l ++ [x]).length, l.map (Value.int .u64), [Value.int .u64 x], (l ++ [x]).map (Value.int .u64), rfl, fun β w hs => row_rd (hs.get 0 rfl), fun u hu => by obtain rfl := List.mem_singleton.1 hu; rfl, by simp, by simp, by rw [List.length_append, hml]; show l.length + 1 ≤ _; omega, by rw [List.length_append]; show (l.length + 1) * 8 ≤ _; omega, ?_⟩
    intro A' c' h1 h2 h3
    have e1 : (l ++ [x]).length = l.length + 1 := by rw [List.length_append]; rfl
    refine ⟨⟨A', c', l ++ [x]⟩, ⟨rfl, by rw [e1]; omega, fun _ => ?_⟩, Ent.mk' trivial rfl (fun β w hs => hs.perm [2])⟩
    cases A' with
    | none => exact absurd (h3 rfl).2 (by decide)
    | some ad => exact ⟨ad, rfl⟩
  · rintro xs ⟨A, c, l⟩ Fs ⟨rfl, hlen, hA⟩ ⟨hP, rfl⟩
    simp only at hA
    intro β w' hs
    exact (hs.keepB (List.nil_sublist _)).fin [1, 0] ⟨A, c, l, rfl, hP, hlen, hA, rfl⟩ rfl rfl rfl ⟨rfl, hG', trivial⟩
  · rintro e pre j Fs ⟨⟩
theorem collectN_c (w : World) (k : FuncId) (bx : Nat) (ty : TypeId) (cs : List Value) (G G' : Fact) (n : Nat) (P : List Int → Prop) (hcall : callable Tryz.prog k = true) (hG : G.own = true) (hG' : G'.own = true) (hn : n ≤ 1000) (hg : GivesN k bx ty cs G G' n P) (hm : Mem w [bkF bx ty cs, G]) :
    Con Tryz.prog 32 #[.func (.func k) #[] #[.pointer (some ⟨bx, 0, none⟩)]] w [bkF bx ty cs, G] fun v Fs => ∃ A c l, v = .slice A l.length c ∧ P l ∧ l.length ≤ n ∧ (0 < l.length → ∃ ad, A = some ad) ∧ Fs = [urowF A l c, G'] := by
  have g := good_slices_Collect_uint64 w (Un [bkF bx ty cs, G])
  have hs0 : Sat (cx_slices_Collect_uint64 w (Un [bkF bx ty cs, G])) Va.z 0 [] [bkF bx ty cs, G] w := hm.sat0 rfl (fun f hf _ k hk => ⟨f, hf, hk⟩)
  refine con_of_sx (cx := cx_slices_Collect_uint64 w (Un [bkF bx ty cs, G])) g b_slices_Collect_uint64 rfl rfl (β := Va.z) [.c (.v (.func (.func k) #[] #[.pointer (some ⟨bx, 0, none⟩)]))] 0 [] _ rfl rfl hs0 ?_
  refine call_con [0, 1] (hown := ⟨rfl, hG, trivial⟩) (fun β w' hs => appendN_c w' k bx ty cs G G' n P hcall hG hG' hn hg (hs.mem.take (js := [0, 1]) rfl)) ?_
  rintro v Fs ⟨A, c, l, rfl, hP, hlen, hA, rfl⟩
  intro β w' hs
  exact hs.fin [0, 1] ⟨A, c, l, rfl, hP, hlen, hA, rfl⟩ rfl rfl rfl ⟨rfl, hG', trivial⟩
theorem keysI_gives (bx b : Nat) (lm : MLI) : GivesN 121 bx ty_map_uint64_sl_uint8 [.map (some b)] (mapIF .u64 b lm) (mapIF .u64 b lm) lm.length (fun xs => xs.Perm (lm.map (·.1))) :=
  fun l w f0 R J Jx hJ0 hJo hRo hY hm => keysI_it l w bx b lm f0 R J Jx hJ0 hJo hRo hY hm
theorem isNaNU_c (w : World) (x : Int) : Pu Tryz.prog n_cmp_isNaN_uint64 #[.int .u64 x] w (.bool false) := by
  have g := good_cmp_isNaN_uint64 w (Un [])
  refine con_of_sx (cx := cx_cmp_isNaN_uint64 w (Un [])) g b_cmp_isNaN_uint64 rfl rfl (β := Va.z) [.c (.v (.int .u64 x))] 0 [] [] rfl rfl (Sat.start rfl) ?_
  intro β w' hs
  refine hs.fin [] ⟨?_, rfl⟩
  show Value.bool (!decide (x = x)) = _
  simp
theorem lessU_c (w : World) (x y : Int) : Pu Tryz.prog n_cmp_Less_uint64 #[.int .u64 x, .int .u64 y] w (.bool (decide (x < y))) := by
  have g := good_cmp_Less_uint64 w (Un [])
  refine con_of_sx (cx := cx_cmp_Less_uint64 w (Un [])) g b_cmp_Less_uint64 rfl rfl (β := Va.z) [.c (.v (.int .u64 x)), .c (.v (.int .u64 y))] 0 [] [] rfl rfl (Sat.start rfl) ?_
  refine call_pu (fun β w' hs => isNaNU_c w' x) ?_
  intro β w' hs
  exact hs.fin [] ⟨rfl, rfl⟩
def at0 (l : List Int) (q : Nat) : Int := l.getD q 0
def sw (l : List Int) (j : Nat) : List Int := (l.set j (at0 l (j - 1))).set (j - 1) (at0 l j)
theorem at0_some {l : List Int} {q : Nat} (h : q < l.length) : l[q]? = some (at0 l q) := by
  simp [at0, List.getD, h]
theorem sw_len (l : List Int) (j : Nat) : (sw l j).length = l.length := by simp [sw]
theorem sw_get {l : List Int} {j : Nat} (h1 : 1 ≤ j) (h2 : j < l.length) (q : Nat) : at0 (sw l j) q = if q = j - 1 then at0 l j else if q = j then at0 l (j - 1) else at0 l q := by
  unfold sw at0
  simp only [List.getD_eq_getElem?_getD, List.getElem?_set, List.length_set]
  by_cases a : j - 1 = q
  · have a' : q = j - 1 := a.symm
    rw [if_pos a, if_pos (by omega), if_pos a']
    rfl
  · have a' : ¬ q = j - 1 := fun e => a e.symm
    rw [if_neg a, if_neg a']
    by_cases b : j = q
    · have b' : q = j := b.symm
      rw [if_pos b, if_pos h2, if_pos b']
      rfl
    · have b' : ¬ q = j := fun e => b e.symm
      rw [if_neg b, if_neg b']
theorem sw_perm {l : List Int} {j : Nat} (h1 : 1 ≤ j) (h2 : j < l.length) : (sw l j).Perm l := by
  have e1 : at0 l (j - 1) = l[j - 1]'(by omega) := by simp [at0, List.getD, List.getElem?_eq_getElem (show j - 1 < l.length by omega)]
  have e2 : at0 l j = l[j] := by simp [at0, List.getD, List.getElem?_eq_getElem h2]
  unfold sw
  rw [e1, e2]
  exact List.set_set_perm h2 (by omega)
def But (l : List Int) (i j : Nat) : Prop := ∀ p q, p < q → q ≤ i → q ≠ j → at0 l p ≤ at0 l q
def Upto (l : List Int) (i : Nat) : Prop := ∀ p q, p < q → q < i → at0 l p ≤ at0 l q
theorem But.start {l : List Int} {i : Nat} (h : Upto l i) : But l i i := fun p q h1 h2 h3 => h p q h1 (by omega)
theorem But.swap {l : List Int} {i j : Nat} (h : But l i j) (h1 : 1 ≤ j) (h2 : j ≤ i) (h3 : i < l.length) (hlt : at0 l j < at0 l (j - 1)) : But (sw l j) i (j - 1) := by
  intro p q hpq hq hne
  rw [sw_get h1 (by omega), sw_get h1 (by omega), if_neg hne]
  by_cases b : q = j
  · subst b
    rw [if_pos rfl]
    by_cases a : p = q - 1
    · rw [if_pos a]
      omega
    · rw [if_neg a, if_neg (by omega)]
      exact h p (q - 1) (by omega) (by omega) (by omega)
  · rw [if_neg b]
    by_cases a : p = j - 1
    · rw [if_pos a]
      exact h j q (by omega) hq b
    · rw [if_neg a]
      by_cases c : p = j
      · rw [if_pos c]
        exact h (j - 1) q (by omega) hq b
      · rw [if_neg c]
        exact h p q hpq hq b
theorem But.done {l : List Int} {i j : Nat} (h : But l i j) (h2 : j ≤ i) (hj : 1 ≤ j → ¬ at0 l j < at0 l (j - 1)) : Upto l (i + 1) := by
  intro p q hpq hq
  by_cases b : q = j
  · subst b
    have h3 := hj (by omega)
    by_cases a : p = q - 1
    · subst a
      omega
    · have := h p (q - 1) (by omega) (by omega) (by omega)
      omega
  · exact h p q hpq (by omega) b
theorem uset (l : List Int) (j : Nat) (x : Int) : putAll (l.map (Value.int .u64)) (j * 1) [.int .u64 x] = (l.set j x).map (Value.int .u64) := by
  rw [putAll, putAll, putAt_eq, Nat.mul_one, List.map_set]
theorem insU_c (w : World) (A : Option Addr) (l : List Int) (c : Nat) (hl : l.length ≤ 12) (hm : Mem w [urowF A l c]) :
    Con Tryz.prog n_slices_insertionSortOrdered_uint64 #[.slice A l.length c, .int .i64 0, .int .i64 (l.length : Int)] w [urowF A l c] fun v Fs => v = .tuple #[] ∧ ∃ l', l'.Perm l ∧ Upto l' l.length ∧ Fs = [urowF A l' c] := by
  have g := good_slices_insertionSortOrdered_uint64 w (Un [urowF A l c])
  have hs0 : Sat (cx_slices_insertionSortOrdered_uint64 w (Un [urowF A l c])) Va.z 0 [] [urowF A l c] w := hm.sat0 rfl (fun f hf _ k hk => ⟨f, hf, hk⟩)
  have hA : 0 < l.length → ∃ g0, A = some ⟨g0, 0, none⟩ := fun h => by
    have ho : w.ownsRow 0 ty_uint64 1 (.slice A l.length c) l.length (l.map (Value.int .u64)) := hm.fact _ List.mem_cons_self
    rcases ho.2 with ⟨_, h0⟩ | ⟨g0, cap, cur, hv, _⟩
    · exact absurd h0 (by omega)
    · injection hv with q _ _
      exact ⟨g0, q⟩
  obtain ⟨N, hN⟩ : ∃ N, l.length = N := ⟨_, rfl⟩
  rw [hN] at hl hA ⊢
  refine con_of_sx (cx := cx_slices_insertionSortOrdered_uint64 w (Un [urowF A l c])) g b_slices_insertionSortOrdered_uint64 rfl rfl (β := Va.z) [.c (.v (.slice A N c)), .c (.v (.int .i64 0)), .c (.v (.int .i64 (N : Int)))] 0 [] _ rfl rfl hs0 ?_
  refine ⟨1, rfl, ?_⟩
  refine loop_rule (ι := List Int × Nat) 0 (fun i => [(0, .c (.v (.slice A N c))), (1, .c (.v (.int .i64 0))), (2, .c (.v (.int .i64 (N : Int)))), (6, .c (.v (.int .i64 (i.2 : Int))))]) (fun _ => []) (fun i => [urowF A i.1 c])
    (fun i => i.1.Perm l ∧ 1 ≤ i.2 ∧ Upto i.1 i.2 ∧ i.2 ≤ N + 1) (fun i => N + 1 - i.2) (l, 1) ⟨List.Perm.refl _, Nat.le_refl _, fun p q h1 h2 => by omega, by omega⟩ (Ent.same ⟨rfl, rfl, rfl, rfl, trivial⟩ rfl) g ?_
  rintro ⟨xs, i⟩ ⟨hp, hi1, hu, hiN⟩
  simp only at hp hi1 hu hiN
  have hxl : xs.length = N := by rw [hp.length_eq, hN]
  refine BIf.dec (fun hlt => ?_) (fun hge => ?_)
  · have hlt0 : (i : Int) < N := hlt
    have hiN2 : i < N := by omega
    obtain ⟨g0, rfl⟩ := hA (by omega)
    refine loop_rule (ι := List Int × Nat) 0 (fun y => [(0, .c (.v (.slice (some ⟨g0, 0, none⟩) N c))), (1, .c (.v (.int .i64 0))), (2, .c (.v (.int .i64 (N : Int)))), (6, .c (.v (.int .i64 (i : Int)))), (7, .c (.v (.int .i64 (y.2 : Int))))]) (fun _ => []) (fun y => [urowF (some ⟨g0, 0, none⟩) y.1 c])
      (fun y => y.1.Perm l ∧ But y.1 i y.2 ∧ y.2 ≤ i) (fun y => y.2) (xs, i) ⟨hp, But.start hu, Nat.le_refl _⟩ (Ent.same ⟨rfl, rfl, rfl, rfl, rfl, trivial⟩ rfl) g ?_
    rintro ⟨ys, j⟩ ⟨hyp, hb, hji⟩
    simp only at hyp hb hji
    have hyl : ys.length = N := by rw [hyp.length_eq, hN]
    refine draw_rule g p_slices_insertionSortOrdered_uint64_4 (by kernel_rfl) _ _ Sub.refl ?_
    have hcell : ∀ q, q < N → ∀ {cx : Cx} {β : Va} {w' : World} {n : Nat} {H : List Bk}, Sat cx β n H [urowF (some ⟨g0, 0, none⟩) ys c] w' → w'.cell? ((⟨g0, 0, none⟩ : Addr).add (q * 1)) = some (.int .u64 (at0 ys q)) := by
      intro q hq cx β w' n H hs
      have h := row_rd (hs.get 0 rfl)
      exact Rd.cell1 h (by rw [List.getElem?_map, at0_some (by omega)]; rfl)
    refine BIf.dec (fun hj => ?_) (fun hj => ?_)
    · have hj0 : (0 : Int) < j := hj
      refine ⟨⟨g0, 0, none⟩, j, rfl, rfl, by omega, .int .u64 (at0 ys j), fun β w' hs => hcell j (by omega) hs, ?_⟩
      refine ⟨((j - 1 : Nat) : Int), by rw [wrap_i64 (by omega) (by omega)]; omega, ?_⟩
      refine ⟨⟨g0, 0, none⟩, j - 1, rfl, rfl, by omega, .int .u64 (at0 ys (j - 1)), fun β w' hs => hcell (j - 1) (by omega) hs, ?_⟩
      obtain ⟨bb, hbb⟩ : ∃ bb, decide (at0 ys j < at0 ys (j - 1)) = bb := ⟨_, rfl⟩
      refine call_pu (v := .bool bb) (fun β w' hs => by rw [← hbb]; exact lessU_c w' _ _) ?_
      refine ⟨Sub.refl, ?_⟩
      cases bb with
      | true =>
        have hlt2 : at0 ys j < at0 ys (j - 1) := of_decide_eq_true hbb
        have hS : ∀ {n : Nat} {H : List Bk} {F : List Fact}, Sub (cx_slices_insertionSortOrdered_uint64 w (Un [urowF (some ⟨g0, 0, none⟩) l c])) n H F [] [] := fun {n H F} => Sub.of (List.nil_sublist _) (List.nil_sublist _)
        refine draw_rule g p_slices_insertionSortOrdered_uint64_6 (by kernel_rfl) [] [] hS ?_
        refine ⟨((j - 1 : Nat) : Int), by rw [wrap_i64 (by omega) (by omega)]; omega, ?_⟩
        refine ⟨((j - 1 : Nat) : Int), by rw [wrap_i64 (by omega) (by omega)]; omega, ?_⟩
        refine ⟨⟨g0, 0, none⟩, j - 1, rfl, rfl, by omega, ?_⟩
        refine ⟨⟨g0, 0, none⟩, j, rfl, rfl, by omega, ?_⟩
        have hsl : (sw ys j).length = N := by rw [sw_len, hyl]
        refine ⟨?_, ?_⟩
        · skip
          refine ⟨.int .u64 (at0 ys (j - 1)), fun β w' hs => hcell (j - 1) (by omega) hs, ?_⟩
          refine ⟨hS, ?_⟩
          refine ⟨.int .u64 (at0 ys j), fun β w' hs => hcell j (by omega) hs, ?_⟩
          refine ⟨hS, ?_⟩
          refine ⟨⟨g0, 0, none⟩, j, rfl, rfl, by omega, ?_⟩
          refine ⟨_, fun β w' hs => Sat.rowSet hs (j := 0) (us := [.int .u64 (at0 ys (j - 1))]) rfl (by show j * 1 + 1 ≤ ys.length * 1; omega) (fun u hu => by obtain rfl := List.mem_singleton.1 hu; rfl), ?_⟩
          refine ⟨hS, ?_⟩
          refine ⟨⟨g0, 0, none⟩, j - 1, rfl, rfl, by omega, ?_⟩
          refine ⟨_, fun β w' hs => Sat.rowSet hs (j := 0) (us := [.int .u64 (at0 ys j)]) rfl (by show (j - 1) * 1 + 1 ≤ ys.length * 1; omega) (fun u hu => by obtain rfl := List.mem_singleton.1 hu; rfl), ?_⟩
          refine ⟨hS, ?_⟩
          refine ⟨((j - 1 : Nat) : Int), by rw [wrap_i64 (by omega) (by omega)]; omega, ?_⟩
          exact ⟨(sw ys j, j - 1), ⟨(sw_perm (by omega) (by omega)).trans hyp, hb.swap (by omega) hji (by omega) hlt2, by show j - 1 ≤ i; omega⟩, by show j - 1 < j; omega, Ent.mk' ⟨rfl, rfl, rfl, rfl, rfl, trivial⟩ rfl (fun β w' hs => by
            show Sat _ _ _ _ [rowF ty_uint64 1 (.slice (some ⟨g0, 0, none⟩) (sw ys j).length c) (sw ys j).length ((sw ys j).map (Value.int .u64))] _
            rw [sw_len]
            have e : (sw ys j).map (Value.int .u64) = putAll (putAll (ys.map (Value.int .u64)) (j * 1) [.int .u64 (at0 ys (j - 1))]) ((j - 1) * 1) [.int .u64 (at0 ys j)] := by rw [uset, uset]; rfl
            rw [e]
            exact hs)⟩
        · skip
          refine ⟨.int .u64 (at0 ys j), fun β w' hs => hcell j (by omega) hs, ?_⟩
          refine ⟨hS, ?_⟩
          refine ⟨.int .u64 (at0 ys (j - 1)), fun β w' hs => hcell (j - 1) (by omega) hs, ?_⟩
          refine ⟨hS, ?_⟩
          refine ⟨⟨g0, 0, none⟩, j, rfl, rfl, by omega, ?_⟩
          refine ⟨_, fun β w' hs => Sat.rowSet hs (j := 0) (us := [.int .u64 (at0 ys (j - 1))]) rfl (by show j * 1 + 1 ≤ ys.length * 1; omega) (fun u hu => by obtain rfl := List.mem_singleton.1 hu; rfl), ?_⟩
          refine ⟨hS, ?_⟩
          refine ⟨⟨g0, 0, none⟩, j - 1, rfl, rfl, by omega, ?_⟩
          refine ⟨_, fun β w' hs => Sat.rowSet hs (j := 0) (us := [.int .u64 (at0 ys j)]) rfl (by show (j - 1) * 1 + 1 ≤ ys.length * 1; omega) (fun u hu => by obtain rfl := List.mem_singleton.1 hu; rfl), ?_⟩
          refine ⟨hS, ?_⟩
          refine ⟨((j - 1 : Nat) : Int), by rw [wrap_i64 (by omega) (by omega)]; omega, ?_⟩
          exact ⟨(sw ys j, j - 1), ⟨(sw_perm (by omega) (by omega)).trans hyp, hb.swap (by omega) hji (by omega) hlt2, by show j - 1 ≤ i; omega⟩, by show j - 1 < j; omega, Ent.mk' ⟨rfl, rfl, rfl, rfl, rfl, trivial⟩ rfl (fun β w' hs => by
            show Sat _ _ _ _ [rowF ty_uint64 1 (.slice (some ⟨g0, 0, none⟩) (sw ys j).length c) (sw ys j).length ((sw ys j).map (Value.int .u64))] _
            rw [sw_len]
            have e : (sw ys j).map (Value.int .u64) = putAll (putAll (ys.map (Value.int .u64)) (j * 1) [.int .u64 (at0 ys (j - 1))]) ((j - 1) * 1) [.int .u64 (at0 ys j)] := by rw [uset, uset]; rfl
            rw [e]
            exact hs)⟩
      | false =>
        refine ⟨((i + 1 : Nat) : Int), by rw [wrap_i64 (by omega) (by omega)]; rfl, ?_⟩
        exact ⟨(ys, i + 1), ⟨hyp, by show 1 ≤ i + 1; omega, hb.done hji (fun _ => of_decide_eq_false hbb), by show i + 1 ≤ N + 1; omega⟩, by show N + 1 - (i + 1) < N + 1 - i; omega, Ent.same ⟨rfl, rfl, rfl, rfl, trivial⟩ rfl⟩
    · have hj0 : ¬ (0 : Int) < j := hj
      refine ⟨Sub.refl, ?_⟩
      refine ⟨((i + 1 : Nat) : Int), by rw [wrap_i64 (by omega) (by omega)]; rfl, ?_⟩
      exact ⟨(ys, i + 1), ⟨hyp, by show 1 ≤ i + 1; omega, hb.done hji (fun h => by omega), by show i + 1 ≤ N + 1; omega⟩, by show N + 1 - (i + 1) < N + 1 - i; omega, Ent.same ⟨rfl, rfl, rfl, rfl, trivial⟩ rfl⟩
  · have hge0 : ¬ (i : Int) < N := hge
    intro β w' hs
    exact hs.fin [0] ⟨rfl, xs, hp, fun p q h1 h2 => hu p q h1 (by omega), rfl⟩
theorem pdqU_c (w : World) (A : Option Addr) (l : List Int) (c : Nat) (m : Int) (hl : l.length ≤ 12) (hm : Mem w [urowF A l c]) :
    Con Tryz.prog n_slices_pdqsortOrdered_uint64 #[.slice A l.length c, .int .i64 0, .int .i64 (l.length : Int), .int .i64 m] w [urowF A l c] fun v Fs => v = .tuple #[] ∧ ∃ l', l'.Perm l ∧ Upto l' l.length ∧ Fs = [urowF A l' c] := by
  have g := good_slices_pdqsortOrdered_uint64 w (Un [urowF A l c])
  have hs0 : Sat (cx_slices_pdqsortOrdered_uint64 w (Un [urowF A l c])) Va.z 0 [] [urowF A l c] w := hm.sat0 rfl (fun f hf _ k hk => ⟨f, hf, hk⟩)
  refine con_of_sx (cx := cx_slices_pdqsortOrdered_uint64 w (Un [urowF A l c])) g b_slices_pdqsortOrdered_uint64 rfl rfl (β := Va.z) [.c (.v (.slice A l.length c)), .c (.v (.int .i64 0)), .c (.v (.int .i64 (l.length : Int))), .c (.v (.int .i64 m))] 0 [] _ rfl rfl hs0 ?_
  refine loop_rule 0 (fun _ : Unit => [(0, .c (.v (.slice A l.length c))), (1, .c (.v (.int .i64 0))), (2, .c (.v (.int .i64 (l.length : Int))))]) (fun _ => []) (fun _ => [urowF A l c]) (fun _ => True) (fun _ => 0) () trivial (Ent.same ⟨rfl, rfl, rfl, trivial⟩ rfl) g ?_
  rintro ⟨⟩ -
  refine ⟨(l.length : Int), by rw [Int.sub_zero, wrap_i64 (by omega) (by omega)], ?_⟩
  refine BIf.dec (fun _ => ?_) (fun h => absurd (show (l.length : Int) ≤ 12 by omega) h)
  refine call_con [0] (fun β w' hs => insU_c w' A l c hl (hs.mem.take (js := [0]) rfl)) ?_
  rintro v Fs ⟨rfl, l', h1, h2, rfl⟩
  intro β w' hs
  exact hs.fin [0] ⟨rfl, l', h1, h2, rfl⟩
theorem bitsU_c (x : Nat) (hx : x < 18446744073709551616) : ∃ r : Int, ∀ w, Pu Tryz.prog n_math_bits_Len #[.int .u64 (x : Int)] w (.int .i64 r) := by
  refine ⟨((Lib.bitLen (x : Int).toNat : Nat) : Int), fun w => pu_of (Calls.mono (Tryz.bits_Len (x : Int) w (by omega) (by omega)) ?_)⟩
  rintro e w' ⟨rfl, rfl⟩
  exact ⟨_, rfl, rfl, Chg.refl _ _⟩
theorem sortU_c (w : World) (A : Option Addr) (l : List Int) (c : Nat) (hl : l.length ≤ 12) (hm : Mem w [urowF A l c]) :
    Con Tryz.prog n_slices_Sort_uint64_uint64 #[.slice A l.length c] w [urowF A l c] fun v Fs => v = .tuple #[] ∧ ∃ l', l'.Perm l ∧ Upto l' l.length ∧ Fs = [urowF A l' c] := by
  have g := good_slices_Sort_uint64_uint64 w (Un [urowF A l c])
  have hs0 : Sat (cx_slices_Sort_uint64_uint64 w (Un [urowF A l c])) Va.z 0 [] [urowF A l c] w := hm.sat0 rfl (fun f hf _ k hk => ⟨f, hf, hk⟩)
  refine con_of_sx (cx := cx_slices_Sort_uint64_uint64 w (Un [urowF A l c])) g b_slices_Sort_uint64_uint64 rfl rfl (β := Va.z) [.c (.v (.slice A l.length c))] 0 [] _ rfl rfl hs0 ?_
  refine ⟨(l.length : Int), by rw [wrap_u64']; omega, ?_⟩
  obtain ⟨r, hr⟩ := bitsU_c l.length (by omega)
  refine call_pu (fun β w' hs => hr w') ?_
  refine call_con [0] (fun β w' hs => pdqU_c w' A l c r hl (hs.mem.take (js := [0]) rfl)) ?_
  rintro v Fs ⟨rfl, l', h1, h2, rfl⟩
  intro β w' hs
  exact hs.fin [0] ⟨rfl, l', h1, h2, rfl⟩
theorem rising_of {l : List Int} (h : Upto l l.length) : l.Pairwise (· ≤ ·) := by
  rw [List.pairwise_iff_getElem]
  intro p q hp hq hpq
  have := h p q hpq hq
  simpa [at0, List.getD, hp, hq] using this
theorem sortedN_c (w : World) (k : FuncId) (bx : Nat) (ty : TypeId) (cs : List Value) (G G' : Fact) (n : Nat) (P : List Int → Prop) (hcall : callable Tryz.prog k = true) (hG : G.own = true) (hG' : G'.own = true) (hn : n ≤ 12) (hg : GivesN k bx ty cs G G' n P) (hm : Mem w [bkF bx ty cs, G]) :
    Con Tryz.prog 58 #[.func (.func k) #[] #[.pointer (some ⟨bx, 0, none⟩)]] w [bkF bx ty cs, G] fun v Fs => ∃ A c l, v = .slice A l.length c ∧ (∃ l0, P l0 ∧ l.Perm l0) ∧ l.length ≤ n ∧ l.Pairwise (· ≤ ·) ∧ (0 < l.length → ∃ ad, A = some ad) ∧ Fs = [urowF A l c, G'] := by
  have g := good_slices_Sorted_uint64 w (Un [bkF bx ty cs, G])
  have hs0 : Sat (cx_slices_Sorted_uint64 w (Un [bkF bx ty cs, G])) Va.z 0 [] [bkF bx ty cs, G] w := hm.sat0 rfl (fun f hf _ k hk => ⟨f, hf, hk⟩)
  refine con_of_sx (cx := cx_slices_Sorted_uint64 w (Un [bkF bx ty cs, G])) g b_slices_Sorted_uint64 rfl rfl (β := Va.z) [.c (.v (.func (.func k) #[] #[.pointer (some ⟨bx, 0, none⟩)]))] 0 [] _ rfl rfl hs0 ?_
  refine call_con [0, 1] (hown := ⟨rfl, hG, trivial⟩) (fun β w' hs => collectN_c w' k bx ty cs G G' n P hcall hG hG' (by omega) hg (hs.mem.take (js := [0, 1]) rfl)) ?_
  rintro v Fs ⟨A, c, l, rfl, hP, hlen, hA, rfl⟩
  refine call_con [0] (fun β w' hs => sortU_c w' A l c (by omega) (hs.mem.take (js := [0]) rfl)) ?_
  rintro v Fs ⟨rfl, l', h1, h2, rfl⟩
  have hl := h1.length_eq
  intro β w' hs
  refine hs.fin [0, 1] ⟨A, c, l', by rw [hl]; rfl, ⟨l, hP, h1⟩, by omega, rising_of (by rw [hl]; exact h2), by rw [hl]; exact hA, rfl⟩ rfl rfl rfl ⟨rfl, hG', trivial⟩
def decimS (u : Nat) : ByteArray := ⟨(Lib.decDigits u).toArray⟩
theorem smallU_c (w : World) (u : Nat) (hu : u < 100) : Pu Tryz.prog n_internal_strconv_small #[.int .i64 (u : Int)] w (.string (decimS u)) := by
  refine pu_of (Calls.mono (Tryz.internal_strconv_small u hu w) ?_)
  rintro e w' ⟨rfl, rfl⟩
  exact ⟨_, rfl, rfl, Chg.refl _ _⟩
theorem fmtI_c (w : World) (u : Nat) (hu : u < 100) : Pu Tryz.prog n_internal_strconv_FormatUint #[.int .u64 (u : Int), .int .i64 10] w (.string (decimS u)) := by
  obtain ⟨x, hx⟩ : ∃ x : Int, (u : Int) = x := ⟨_, rfl⟩
  rw [hx]
  refine con_of_sx (cx := cx_internal_strconv_FormatUint w (Un [])) (good_internal_strconv_FormatUint w (Un [])) b_internal_strconv_FormatUint rfl rfl (β := Va.z) [.c (.v (.int .u64 x)), .c (.v (.int .i64 10))] 0 [] [] rfl rfl (Sat.start rfl) ?_
  refine BIf.dec (fun _ => ?_) (fun h => absurd (show x < 100 by omega) h)
  refine ⟨x, by rw [wrap_i64 (by omega) (by omega)], ?_⟩
  refine call_pu (fun β w' hs => by rw [← hx]; exact smallU_c w' u hu) ?_
  intro β w' hs
  exact hs.fin [] ⟨rfl, rfl⟩
theorem fmtU_c (w : World) (u : Nat) (hu : u < 100) : Pu Tryz.prog n_strconv_FormatUint #[.int .u64 (u : Int), .int .i64 10] w (.string (decimS u)) := by
  refine con_of_sx (cx := cx_strconv_FormatUint w (Un [])) (good_strconv_FormatUint w (Un [])) b_strconv_FormatUint rfl rfl (β := Va.z) [.c (.v (.int .u64 (u : Int))), .c (.v (.int .i64 10))] 0 [] [] rfl rfl (Sat.start rfl) ?_
  refine call_pu (fun β w' hs => fmtI_c w' u hu) ?_
  intro β w' hs
  exact hs.fin [] ⟨rfl, rfl⟩
structure RKey where
  e : Nat
  A : Option Addr
  c : Nat
  p : List UInt8
structure Rg where
  b : Nat
  bx : Nat
  mA : Option Addr
  mc : Nat
  master : List UInt8
  room : Nat
  m : Nat
  ks : List RKey
  epoch : Nat
def RKey.v (k : RKey) : Value := .slice k.A k.p.length k.c
def RKey.f (k : RKey) : Fact := browF ty_uint8 k.A k.p k.c
def Rg.vs (r : Rg) : List Value := [.pointer (some ⟨r.bx, 0, none⟩), .slice r.mA r.master.length r.mc, .int .i64 (r.room : Int), .map (some r.m), .int .u64 (r.epoch : Int)]
def Rg.ml (r : Rg) : MLI := r.ks.map fun k => ((k.e : Int), k.v)
def rgF (r : Rg) : Fact := sepF [bkF r.b ty_ring_Ring r.vs, browF ty_uint8 r.mA r.master r.mc, mapIF .u64 r.m r.ml, sepF (r.ks.map RKey.f)]
theorem rg_bk {r : Rg} {w : World} (h : (rgF r).p w) : (bkF r.b ty_ring_Ring r.vs).p w := h.1 _ (by simp)
theorem rg_map {r : Rg} {w : World} (h : (rgF r).p w) : mapIP .u64 r.m r.ml w := h.1 (mapIF .u64 r.m r.ml) (by simp)
def ptrR (b : Nat) : Value := .pointer (some ⟨b, 0, none⟩)
theorem cell_bk {b ty : Nat} {cs : List Value} {w : World} (h : (bkF b ty cs).p w) {o : Nat} {v : Value} (ho : cs[o]? = some v) : w.cell? ⟨b, o, none⟩ = some v := by
  have hb : w.heap[b]? = some (.cells cs.toArray ty (0, 0)) := h
  rw [cell_of_row w b o _ _ _ hb]
  simpa using ho
def Rg.es (r : Rg) : List Int := r.ks.map fun k => (k.e : Int)
theorem Rg.ml_es (r : Rg) : r.ml.map (·.1) = r.es := by simp [Rg.ml, Rg.es]
def onFst {α β : Type} (pre : List α) (a b : β) : β := match pre with | [] => a | _ :: _ => b
def insE (r : Rg) (L : List Int) (pre : List Int) (x : Int) (args : Array Value) (X : Fact) : Prop :=
  args = #[.int .u64 x] ∧ X = onFst pre (rgF r) noF ∧ L[pre.length]? = some x
def Rg.rise (r : Rg) : List Int := r.es.mergeSort fun x y => decide (x ≤ y)
theorem rise_of {r : Rg} {l : List Int} (h : l.Perm r.es) (hs : l.Pairwise (· ≤ ·)) : l = r.rise := by
  have h2 := List.pairwise_mergeSort (le := fun x y : Int => decide (x ≤ y)) (fun a b c p q => by simp only [decide_eq_true_eq] at *; omega) (fun a b => by simp only [Bool.or_eq_true, decide_eq_true_eq]; omega) r.es
  refine List.Perm.eq_of_pairwise (le := fun x y => x ≤ y) (fun a b _ _ p q => by omega) hs (h2.imp fun p => of_decide_eq_true p) (h.trans (List.mergeSort_perm _ _).symm)
theorem ep_it (l : Nat) (w : World) (bx : Nat) (r : Rg) (f0 R : Fact) (J Jx : List Int → Fact → Prop) (hL : r.ks.length ≤ 12) (hJ0 : J [] f0) (hJo : ∀ pre f, J pre f → f.own = true) (hRo : R.own = false) (hY : Yc Tryz.prog l J Jx R (insE r r.rise))
    (hm : Mem w (f0 :: R :: [bkF bx ty_ptr_ring_Ring [ptrR r.b], rgF r])) :
    Con Tryz.prog n_ring_Ring_Epochs_1 #[.func (.yield l) #[] #[], .pointer (some ⟨bx, 0, none⟩)] w [f0, bkF bx ty_ptr_ring_Ring [ptrR r.b], rgF r]
      (fun _ Fs => ∃ f Fs', Fs = f :: Fs' ∧ ((∃ xs, J xs f ∧ xs = r.rise ∧ Fs' = onFst r.rise [rgF r] []) ∨ (∃ pre, Jx pre f ∧ Fs' = []))) := by
  have g := good_ring_Ring_Epochs_1 w (Un [f0, bkF bx ty_ptr_ring_Ring [ptrR r.b], rgF r]) [bx]
  have hs0 : Sat (cx_ring_Ring_Epochs_1 w (Un [f0, bkF bx ty_ptr_ring_Ring [ptrR r.b], rgF r]) [bx]) (Va.of fun _ => bx) 1 [] (f0 :: R :: [bkF bx ty_ptr_ring_Ring [ptrR r.b], rgF r]) w := by
    refine hm.sat rfl (fun f hf ho k hk => ?_) ⟨Nat.le_refl 1, fun i hi => by obtain rfl : i = 0 := Nat.lt_one_iff.1 hi; rfl⟩
    simp only [List.mem_cons, List.not_mem_nil, or_false] at hf
    rcases hf with rfl | rfl | rfl | rfl
    · exact ⟨_, by simp, hk⟩
    · rw [hRo] at ho; cases ho
    · exact ⟨bkF bx ty_ptr_ring_Ring [ptrR r.b], by simp, hk⟩
    · exact ⟨rgF r, by simp, hk⟩
  have hs1 := ((hs0.toBk 2 rfl 0 Nat.zero_lt_one rfl).unsep 2 rfl)
  refine con_of_sx (cx := cx_ring_Ring_Epochs_1 w (Un [f0, bkF bx ty_ptr_ring_Ring [ptrR r.b], rgF r]) [bx]) g b_ring_Ring_Epochs_1 rfl rfl (β := Va.of fun _ => bx) [.c (.v (.func (.yield l) #[] #[])), .c (.p 0 0)] 1 _ _ rfl rfl hs1 ?_
  have hml : r.ml.length = r.ks.length := by rw [Rg.ml, List.length_map]
  refine ⟨.map (some r.m), fun β w' hs => cell_bk (hs.get 0 rfl) (o := 3) rfl, ?_⟩
  refine call_con [] (fun β w' hs => keysI_c w' (some r.m)) ?_
  rintro v Fs ⟨B, rfl, rfl⟩
  refine call_conS [0, 3] (fun β w' hs => sortedN_c w' _ B _ _ _ _ r.ml.length _ (by kernel_rfl) rfl rfl (by omega) (keysI_gives B r.m r.ml) (hs.mem.take (js := [0, 3]) rfl)) ?_
  rintro v Fs ⟨A, c, L, rfl, ⟨l0, hp0, hp1⟩, hLl, hris, hA0, rfl⟩
  have hLr : L = r.rise := rise_of ((hp1.trans hp0).trans (by rw [Rg.ml_es])) hris
  subst hLr
  refine ⟨_, _, fun β w' hs => (hs.sep [2, 3, 1, 4] rfl ⟨rfl, rfl, rfl, rfl, trivial⟩).perm [1, 2, 3, 0], ?_⟩
  generalize hN : r.rise = L at *
  have hL12 : L.length ≤ 12 := by omega
  refine loop_rule (ι := List Int × Fact) 1 (fun i => [(0, .c (.v (.func (.yield l) #[] #[]))), (1, .c (.p 0 0)), (12, .c (.v (.slice A L.length c))), (13, .c (.v (.int .i64 (L.length : Int)))), (14, .c (.v (.int .i64 (i.1.length : Int))))]) (fun _ => [⟨0, ty_ptr_ring_Ring, [.v (ptrR r.b)]⟩]) (fun i => urowF A L c :: i.2 :: R :: onFst i.1 [rgF r] [])
    (fun i => J i.1 i.2 ∧ i.1 = L.take i.1.length ∧ i.1.length ≤ L.length) (fun i => L.length - i.1.length) ([], f0) ⟨hJ0, rfl, Nat.zero_le _⟩ (Ent.same ⟨rfl, rfl, rfl, rfl, rfl, trivial⟩ rfl) g ?_
  rintro ⟨pre, f⟩ ⟨hJ, hpre, hi⟩
  simp only at hJ hpre hi
  have hfo := hJo _ _ hJ
  simp only
  refine BIf.dec (fun hlt => ?_) (fun hge => ?_)
  · have hlt0 : (pre.length : Int) < L.length := hlt
    have hkl : pre.length < L.length := by omega
    obtain ⟨x, hx, _⟩ := at_lt hkl
    obtain ⟨ad, hAd⟩ := hA0 (by omega)
    have hnext : pre ++ [x] = L.take (pre ++ [x]).length := by
      have e : (pre ++ [x]).length = pre.length + 1 := by rw [List.length_append]; rfl
      rw [e, List.take_add_one, hx, ← hpre]
      rfl
    have e : (pre ++ [x]).length = pre.length + 1 := by rw [List.length_append]; rfl
    refine ⟨ad, pre.length, hAd, rfl, hkl, .int .u64 x, fun β w' hs => ?_, ?_⟩
    · have h := row_rd (hs.get 0 rfl)
      rw [hAd] at h
      exact Rd.cell1 h (by simp [hx])
    cases pre with
    | nil =>
      refine yield_own (X := rgF r) (x := x) hY 1 2 3 rfl hJ hfo rfl rfl rfl (by decide) (by decide) (by decide) (fun β => ⟨rfl, rfl, hx⟩) ?_ ?_
      · intro f2 hfo2 hJ2
        refine ⟨1, by rw [wrap_i64 (by omega) (by omega)]; rfl, ?_⟩
        refine ⟨([x], f2), ⟨hJ2, hnext, by show 1 ≤ L.length; exact hkl⟩, by show L.length - 1 < L.length - 0; have : 0 < L.length := hkl; omega, ?_⟩
        exact Ent.mk' ⟨rfl, rfl, rfl, rfl, rfl, trivial⟩ rfl (fun β w' hs => hs.perm [1, 0, 2])
      · intro f2 hfo2 hJ2 β w' hs
        exact (hs.keepB (List.nil_sublist _)).fin [0] ⟨f2, _, rfl, .inr ⟨_, hJ2, rfl⟩⟩ rfl rfl rfl ⟨hfo2, trivial⟩
    | cons y ys =>
      refine yield_ro (X := noF) (x := x) hY 1 2 rfl hJ hfo rfl hRo (by decide) (fun β => ⟨rfl, rfl, hx⟩) rfl (fun β w _ => ⟨trivial, fun k hk => hk.elim, fun k _ h => h.elim⟩) ?_ ?_
      · intro f2 hfo2 hJ2
        refine ⟨(((y :: ys).length + 1 : Nat) : Int), by rw [wrap_i64 (by omega) (by omega)]; rfl, ?_⟩
        refine ⟨(y :: ys ++ [x], f2), ⟨hJ2, hnext, by show (y :: ys ++ [x]).length ≤ _; rw [e]; omega⟩, by show L.length - (y :: ys ++ [x]).length < L.length - (y :: ys).length; rw [e]; omega, ?_⟩
        simp only [e]
        exact Ent.mk' ⟨rfl, rfl, rfl, rfl, rfl, trivial⟩ rfl (fun β w' hs => hs.perm [1, 0, 2])
      · intro f2 hfo2 hJ2 β w' hs
        exact (hs.keepB (List.nil_sublist _)).fin [0] ⟨f2, _, rfl, .inr ⟨_, hJ2, rfl⟩⟩ rfl rfl rfl ⟨hfo2, trivial⟩
  · have hge0 : ¬ (pre.length : Int) < L.length := hge
    have hpl : pre = L := by rw [hpre, List.take_of_length_le (by omega)]
    subst hpl
    cases pre with
    | nil =>
      intro β w' hs
      exact (hs.keepB (List.nil_sublist _)).fin [1, 3] ⟨f, _, rfl, .inl ⟨[], hJ, rfl, rfl⟩⟩ rfl rfl rfl ⟨hfo, rfl, trivial⟩
    | cons y ys =>
      intro β w' hs
      exact (hs.keepB (List.nil_sublist _)).fin [1] ⟨f, _, rfl, .inl ⟨_, hJ, rfl, rfl⟩⟩ rfl rfl rfl ⟨hfo, trivial⟩
def rdCells (A : Option Addr) (c : Nat) (r : Rdr) : List Value := [.slice A r.p.length c, .bool r.bad]
theorem zeros_map : ∀ n : Nat, (List.replicate n (0 : UInt8)).map byte = repl [.int .u8 0] n
  | 0 => rfl
  | k + 1 => by rw [List.replicate_succ, List.map_cons, zeros_map k]; rfl
theorem or_u64 {x y : Nat} (hx : x < 72057594037927936) (hy : y < 256) : bits .or .u64 ((x * 256 : Nat) : Int) (y : Int) = ((x * 256 + y : Nat) : Int) := by
  show IntKind.u64.wrap (((BitVec.ofInt 64 ((x * 256 : Nat) : Int)) ||| (BitVec.ofInt 64 (y : Int))).toNat : Int) = _
  have h1 : (BitVec.ofInt 64 ((x * 256 : Nat) : Int)).toNat = x <<< 8 := by
    rw [BitVec.toNat_ofInt, Nat.shiftLeft_eq]
    omega
  have h2 : (BitVec.ofInt 64 (y : Int)).toNat = y := by
    rw [BitVec.toNat_ofInt]
    omega
  rw [BitVec.toNat_or, h1, h2, ← Nat.shiftLeft_add_eq_or_of_lt (by omega) x, Nat.shiftLeft_eq, wrap_u64]
  omega
theorem shl_u64 (x : Nat) : IntKind.u64.wrap ((x : Int) * 2 ^ (min (8 : Int).toNat IntKind.u64.bits)) = ((x % 72057594037927936 * 256 : Nat) : Int) := by
  rw [show min (8 : Int).toNat IntKind.u64.bits = 8 from rfl, wrap_u64]
  omega
theorem tkTake_c (w : World) (b : Nat) (A : Option Addr) (c : Nat) (r : Rdr) (n : Nat) (hn : n ≤ 255) (hc : r.p.length ≤ c) (hm : Mem w [bkF b ty_ticket_reader (rdCells A c r), bsF A r.p]) :
    Con Tryz.prog n_ticket_reader_take #[.pointer (some ⟨b, 0, none⟩), .int .i64 (n : Int)] w [bkF b ty_ticket_reader (rdCells A c r)] fun v Fs => ∃ A2 A3 c3 F, v = .slice A2 n n ∧ F.own = true ∧ (0 < n → ∃ ad, A2 = some ad) ∧ (r.take n).2.p.length ≤ c3 ∧ Lies A A3 r.p (r.take n).2.p ∧ (∀ w, F.p w → Bs w A r.p → Bs w A2 (r.take n).1) ∧ Fs = [F, bkF b ty_ticket_reader (rdCells A3 c3 (r.take n).2)] := by
  have g := good_ticket_reader_take w (Un [bkF b ty_ticket_reader (rdCells A c r)])
  refine con_go (cx := cx_ticket_reader_take w (Un [bkF b ty_ticket_reader (rdCells A c r)])) g b_ticket_reader_take [.c (.v (.pointer (some ⟨b, 0, none⟩))), .c (.v (.int .i64 (n : Int)))] [bsF A r.p] hm ?_
  have ld : ∀ {β : Va} {m : Nat} {H : List Bk} {F : List Fact} {w' : World} {j : Nat}, Sat (cx_ticket_reader_take w (Un [bkF b ty_ticket_reader (rdCells A c r)])) β m H F w' → nth F j = some (bkF b ty_ticket_reader (rdCells A c r)) → w'.cell? ((⟨b, 0, none⟩ : Addr).add 0) = some (.slice A r.p.length c) := fun hs hj => cell_bk (hs.get _ hj) (o := 0) rfl
  refine ⟨.slice A r.p.length c, fun β w' hs => ld hs (j := 0) rfl, ?_⟩
  refine BIf.dec (fun hlt => ?_) (fun hge => ?_)
  · have hlt0 : (r.p.length : Int) < (n : Int) := hlt
    refine ⟨_, fun β w' hs => hs.bkSet 0 (o := 1) (us := [.bool true]) rfl (by show 2 ≤ 2; decide) (one_mem rfl), ?_⟩
    refine ⟨_, fun β w' hs => hs.bkSet 0 (o := 0) (us := [.slice none 0 0]) rfl (by show 1 ≤ 2; decide) (one_mem rfl), ?_⟩
    refine ⟨n, n, rfl, rfl, Nat.le_refl _, by show 1 * n ≤ _; omega, by rw [maxLen_eq]; omega, ?_⟩
    intro b1
    have h1 : r.take n = (List.replicate n 0, ⟨[], true⟩) := by unfold Rdr.take; rw [if_pos (by omega)]
    rw [h1]
    intro β w' hs
    refine hs.fin [0, 1] ⟨some ⟨b1, 0, none⟩, none, 0, rowF ty_uint8 1 (.slice (some ⟨b1, 0, none⟩) n n) n (repl [.int .u8 0] n), rfl, rfl, fun _ => ⟨_, rfl⟩, Nat.le_refl _, Lies.nil A none r.p, fun w h _ => ?_, rfl⟩
    have h2 := row_rd h
    have e : (List.replicate n (0 : UInt8)).map byte = repl [.int .u8 0] n := zeros_map n
    show Rd 1 _ (List.replicate n (0 : UInt8)).length _ w
    rw [e, List.length_replicate]
    exact h2
  · have hge0 : ¬ (r.p.length : Int) < (n : Int) := hge
    have h1 : r.take n = (r.p.take n, ⟨r.p.drop n, r.bad⟩) := by unfold Rdr.take; rw [if_neg (by omega)]
    refine ⟨.slice A r.p.length c, fun β w' hs => ld hs (j := 0) rfl, ?_⟩
    refine ⟨n, n, 0, n, n, _, rfl, rfl, rfl, by omega, by omega, by omega, rfl, rfl, cutZ, ?_⟩
    refine ⟨_, fun β w' hs => cell_bk (hs.get 0 rfl) (o := 0) rfl, ?_⟩
    refine ⟨c, r.p.length, n, r.p.length - n, c - n, _, rfl, rfl, rfl, by omega, by omega, by omega, rfl, rfl, rfl, ?_⟩
    refine ⟨_, fun β w' hs => hs.bkSet 0 (o := 0) (us := [.slice (cutA A c n 1) (r.p.length - n) (c - n)]) rfl (by show 1 ≤ 2; decide) (one_mem rfl), ?_⟩
    rw [h1]
    have hdl : (r.p.drop n).length = r.p.length - n := List.length_drop
    intro β w' hs
    refine (hs.noMem noO trivial (fun _ h => h)).fin [0, 1] ⟨A, cutA A c n 1, c - n, noO, rfl, rfl, fun h => Bs.addr (hm.fact (bsF A r.p) (by simp)) (by omega), by rw [hdl]; omega, Lies.drop hc (by omega), fun w _ h => (Lies.take A r.p n).rd w h, ?_⟩
    show _ = [noO, bkF b ty_ticket_reader [.slice (cutA A c n 1) (r.p.drop n).length (c - n), .bool r.bad]]
    rw [hdl]
    rfl
theorem numB_take (l : List UInt8) (j : Nat) (x : UInt8) (h : l[j]? = some x) : numB (l.take (j + 1)) = (numB (l.take j) * 256 + x.toNat) % 18446744073709551616 := by
  rw [List.take_add_one, h]
  exact numB_snoc _ _
theorem tkRNum_c (w : World) (b : Nat) (A : Option Addr) (c : Nat) (r : Rdr) (n : Nat) (hn : n ≤ 255) (hc : r.p.length ≤ c) (hm : Mem w [bkF b ty_ticket_reader (rdCells A c r), bsF A r.p]) :
    Con Tryz.prog n_ticket_reader_num #[.pointer (some ⟨b, 0, none⟩), .int .i64 (n : Int)] w [bkF b ty_ticket_reader (rdCells A c r)] fun v Fs => ∃ A3 c3, v = .int .u64 ((r.num n).1 : Int) ∧ (r.num n).2.p.length ≤ c3 ∧ Lies A A3 r.p (r.num n).2.p ∧ Fs = [bkF b ty_ticket_reader (rdCells A3 c3 (r.num n).2)] := by
  have g := good_ticket_reader_num w (Un [bkF b ty_ticket_reader (rdCells A c r)])
  refine con_go (cx := cx_ticket_reader_num w (Un [bkF b ty_ticket_reader (rdCells A c r)])) g b_ticket_reader_num [.c (.v (.pointer (some ⟨b, 0, none⟩))), .c (.v (.int .i64 (n : Int)))] [bsF A r.p] hm ?_
  refine call_con [0] (fun β w' hs => tkTake_c w' b A c r n hn hc (hs.mem.take (js := [0, 1]) rfl)) ?_
  rintro v Fs ⟨A2, A3, c3, F, rfl, hFo, hA2, hc3, hl, hrd, rfl⟩
  have hlen := take_len r n
  generalize hq : r.take n = q at *
  obtain ⟨l, r2⟩ := q
  simp only at hc3 hl hrd hlen
  refine loop_rule (ι := Nat) 0 (fun j => [(10, .c (.v (.slice A2 n n))), (11, .c (.v (.int .i64 (n : Int)))), (12, .c (.v (.int .i64 (j : Int)))), (5, .c (.v (.int .u64 (numB (l.take j) : Int))))]) (fun _ => []) (fun _ => [F, bkF b ty_ticket_reader (rdCells A3 c3 r2), bsF A r.p]) (fun j => j ≤ n) (fun j => n - j) (0 : Nat) (Nat.zero_le _) (Ent.mk' ⟨rfl, rfl, rfl, rfl, trivial⟩ rfl (fun β w' hs => hs)) g ?_
  intro j hj
  refine BIf.dec (fun hlt => ?_) (fun hge => ?_)
  · have hlt0 : (j : Int) < (n : Int) := hlt
    obtain ⟨x, hx, _⟩ := at_lt (l := l) (k := j) (by omega)
    obtain ⟨ad, hAd⟩ := hA2 (by omega)
    refine ⟨ad, j, hAd, rfl, by omega, ?_⟩
    refine ⟨byte x, fun β w' hs => Rd.cell1 (show Rd 1 (some ad) l.length (l.map byte) w' from hAd ▸ hrd w' (hs.get 0 rfl) (hs.get 2 rfl)) (by rw [List.getElem?_map, hx]; rfl), ?_⟩
    refine ⟨by decide, _, shl_u64 _, ?_⟩
    refine ⟨(x.toNat : Int), by rw [wrap_u64]; have := x.toNat_lt; omega, ?_⟩
    refine ⟨_, or_u64 (Nat.mod_lt _ (by decide)) x.toNat_lt, ?_⟩
    have hnx : numB (l.take j) % 72057594037927936 * 256 + x.toNat = numB (l.take (j + 1)) := by rw [numB_take l j x hx]; have := x.toNat_lt; omega
    rw [hnx]
    refine ⟨((j + 1 : Nat) : Int), by rw [wrap_i64 (by omega) (by omega)]; rfl, ?_⟩
    exact ⟨j + 1, by show j + 1 ≤ n; omega, by show n - (j + 1) < n - j; omega, Ent.mk' ⟨rfl, rfl, rfl, rfl, trivial⟩ rfl (fun β w' hs => hs)⟩
  · have hge0 : ¬ (j : Int) < (n : Int) := hge
    have e : l.take j = l := List.take_of_length_le (by omega)
    rw [e]
    intro β w' hs
    exact hs.fin [1] ⟨A3, c3, by unfold Rdr.num; rw [hq]; rfl, by unfold Rdr.num; rw [hq]; exact hc3, by unfold Rdr.num; rw [hq]; exact hl, by unfold Rdr.num; rw [hq]; rfl⟩
theorem tkRTxt_c (w : World) (b : Nat) (A : Option Addr) (c : Nat) (r : Rdr) (hc : r.p.length ≤ c) (hm : Mem w [bkF b ty_ticket_reader (rdCells A c r), bsF A r.p]) :
    Con Tryz.prog n_ticket_reader_text #[.pointer (some ⟨b, 0, none⟩)] w [bkF b ty_ticket_reader (rdCells A c r)] fun v Fs => ∃ A3 c3, v = .string (mkS r.txt.1) ∧ r.txt.2.p.length ≤ c3 ∧ Lies A A3 r.p r.txt.2.p ∧ Fs = [bkF b ty_ticket_reader (rdCells A3 c3 r.txt.2)] := by
  have g := good_ticket_reader_text w (Un [bkF b ty_ticket_reader (rdCells A c r)])
  refine con_go (cx := cx_ticket_reader_text w (Un [bkF b ty_ticket_reader (rdCells A c r)])) g b_ticket_reader_text [.c (.v (.pointer (some ⟨b, 0, none⟩)))] [bsF A r.p] hm ?_
  refine call_con [0] (fun β w' hs => tkRNum_c w' b A c r 1 (by decide) hc (hs.mem.take (js := [0, 1]) rfl)) ?_
  rintro v Fs ⟨A3, c3, rfl, hc3, hl, rfl⟩
  have hlt : (r.num 1).1 < 256 := numB_lt 1 _ (take_len r 1) (by decide)
  unfold Rdr.txt
  generalize r.num 1 = q at *
  obtain ⟨n, r2⟩ := q
  simp only at hc3 hl hlt ⊢
  refine ⟨(n : Int), wrap_i64 (by omega) (by omega), ?_⟩
  refine call_con [0] (fun β w' hs => tkTake_c w' b A3 c3 r2 n (by omega) hc3 ((hs.sub 1 rfl rfl (bsF A3 r2.p) rfl (hl.rd w' (hs.get 1 rfl)) (fun k hk => hl.d k hk)).mem.take (js := [1, 0]) rfl)) ?_
  rintro v Fs ⟨A2, A4, c4, F, rfl, hFo, hA2, hc4, hl2, hrd, rfl⟩
  have hlen := take_len r2 n
  generalize r2.take n = q at *
  obtain ⟨l, r3⟩ := q
  simp only at hc4 hl2 hrd hlen ⊢
  have hrd2 : ∀ w' : World, F.p w' → Bs w' A r.p → Rd 1 A2 n (l.map byte) w' := fun w' h1 h2 => hlen ▸ hrd w' h1 (hl.rd w' h2)
  refine ⟨l, fun β w' hs => hrd2 w' (hs.get 0 rfl) (hs.get 2 rfl), ?_⟩
  intro β w' hs
  exact hs.fin [1] ⟨A4, c4, rfl, hc4, hl.trans hl2, rfl⟩
def numsT (t : Tk) : List Nat := [t.serial, t.fro, t.til, t.gen]
def txtsT (t : Tk) : List (List UInt8) := [t.ten, t.usr, t.rol]
def preT (t : Tk) (j : Nat) : List UInt8 := 1 :: be 4 t.epoch ++ ((numsT t).take j).flatMap (be 8)
def pre2T (t : Tk) (j : Nat) : List UInt8 := preT t 4 ++ ((txtsT t).take j).flatMap txtL
theorem pre_len (t : Tk) (j : Nat) : (preT t j).length ≤ 37 := by
  unfold preT
  rw [List.length_append, List.length_cons, be_length, List.length_flatMap]
  have h : ∀ (l : List Nat), (l.map fun a => (be 8 a).length).sum = 8 * l.length := by
    intro l
    induction l with
    | nil => rfl
    | cons a r ih => rw [List.map_cons, List.sum_cons, ih, be_length, List.length_cons]; omega
  rw [h, List.length_take]
  have : (numsT t).length = 4 := rfl
  omega
open Classical in
theorem tkBody_c (w : World) (t : Tk) (hn : NamT w) (ht : t.Ok) : Con Tryz.prog n_ticket_Ticket_Body #[.agg t.cells.toArray] w [] fun v Fs => (t.Right ∧ ∃ A c, v = .tuple #[.slice A (bodyL t).length c, .int .i64 0] ∧ (bodyL t).length ≤ c ∧ Fs = [browF ty_uint8 A (bodyL t) c]) ∨ (¬ t.Right ∧ v = .tuple #[.slice none 0 0, .int .i64 4] ∧ Fs = []) := by
  have g := good_ticket_Ticket_Body w (Un [])
  have hml := maxLen_eq
  refine con_of_sx (cx := cx_ticket_Ticket_Body w (Un [])) g b_ticket_Ticket_Body rfl rfl (β := Va.z) [.agg (t.cells.map SL.v)] 0 [] [oldF w] rfl rfl (old_sat rfl) ?_
  refine call_pu (v := .bool (decide t.Right)) (fun β w' hs => tkRight_c w' t (hn.old (hs.get 0 rfl)) ht) ?_
  refine BIf.not (BIf.dec (fun hr => ?_) (fun hr => ?_))
  rotate_left
  · intro β w' hs
    exact (hs.keepB (List.nil_sublist _)).fin [] (.inr ⟨hr, rfl, rfl⟩)
  have l1 := plainF_len hr.ten
  have l2 := namedT_len hr.usr
  have l3 := plainF_len hr.rol
  intro b1
  refine call_con [] (fun β w' hs => tnum_c w' t.epoch 4 ht.e (by decide)) ?_
  rintro v Fs ⟨A1, c1, rfl, hc1, rfl⟩
  have hb4 := be_length 4 t.epoch
  have e0 : preT t 0 = [1] ++ be 4 t.epoch := by unfold preT; simp
  refine ⟨1, 1, (preT t 0).length, [Value.int .u8 1], (be 4 t.epoch).map byte, (preT t 0).map byte, rfl, fun β w' hs => row_rd (hs.get 0 rfl), bytes_one _, by rw [e0, List.length_append]; rfl, by rw [e0, List.map_append]; rfl, by have := pre_len t 0; omega, by have := pre_len t 0; show (preT t 0).length * 1 ≤ _; omega, ?_⟩
  intro A2 c2 _ _ _
  intro b2
  refine loop_rule (ι := Nat × Option Addr × Nat) 1 (fun j => [(1, .c (.p 0 0)), (4, .c (.v (.slice j.2.1 (preT t j.1).length j.2.2))), (25, .c (.v (.slice (some ⟨b2, 0, none⟩) 4 4))), (26, .c (.v (.int .i64 4))), (27, .c (.v (.int .i64 (j.1 : Int))))]) (fun _ => [⟨0, ty_ticket_Ticket, t.cells.map SL.v⟩]) (fun j => [rowF ty_uint64 1 (.slice (some ⟨b2, 0, none⟩) 4 4) 4 ((numsT t).map fun n : Nat => Value.int .u64 (n : Int)), browF ty_uint8 j.2.1 (preT t j.1) j.2.2, oldF w])
    (fun j => j.1 ≤ 4) (fun j => 4 - j.1) (0, A2, c2) (Nat.zero_le _) (Ent.mk' ⟨rfl, rfl, rfl, rfl, rfl, trivial⟩ rfl (fun β w' hs => hs.perm [0, 2, 3])) g ?_
  rintro ⟨j, A, c⟩ hj
  simp only at hj
  have hpl := pre_len t j
  refine BIf.dec (fun hlt => ?_) (fun hge => ?_)
  · have hlt0 : (j : Int) < 4 := hlt
    obtain ⟨n, hx, hxm⟩ := at_lt (l := numsT t) (k := j) (by show j < 4; omega)
    have hn8 : n < 18446744073709551616 := by
      simp only [numsT, List.mem_cons, List.not_mem_nil, or_false] at hxm
      rcases hxm with rfl | rfl | rfl | rfl
      · exact ht.s
      · exact ht.f
      · exact ht.l
      · exact ht.g
    refine ⟨⟨b2, 0, none⟩, j, rfl, rfl, by omega, .int .u64 (n : Int), fun β w' hs => Rd.cell1 (show Rd 1 (some ⟨b2, 0, none⟩) 4 ((numsT t).map fun n : Nat => Value.int .u64 (n : Int)) w' from row_rd (hs.get 0 rfl)) (by rw [List.getElem?_map, hx]; rfl), ?_⟩
    refine call_con [] (fun β w' hs => tnum_c w' n 8 hn8 (by decide)) ?_
    rintro v Fs ⟨A3, c3, rfl, hc3, rfl⟩
    have hb8 := be_length 8 n
    have hs1 : preT t (j + 1) = preT t j ++ be 8 n := by
      unfold preT
      rw [List.take_add_one, hx, List.flatMap_append, ← List.append_assoc]
      simp
    have hpl1 := pre_len t (j + 1)
    refine ⟨2, (preT t j).length, (preT t (j + 1)).length, (preT t j).map byte, (be 8 n).map byte, (preT t (j + 1)).map byte, rfl, fun β w' hs => row_rd (hs.get 0 rfl), bytes_one _, by rw [hs1, List.length_append], by rw [hs1, List.map_append], by omega, by show (preT t (j + 1)).length * 1 ≤ _; omega, ?_⟩
    intro A4 c4 _ _ _
    refine ⟨((j + 1 : Nat) : Int), by rw [wrap_i64 (by omega) (by omega)]; rfl, ?_⟩
    exact ⟨(j + 1, A4, c4), by show j + 1 ≤ 4; omega, by show 4 - (j + 1) < 4 - j; omega, Ent.mk' ⟨rfl, rfl, rfl, rfl, rfl, trivial⟩ rfl (fun β w' hs => hs.perm [1, 2, 3])⟩
  · have hge0 : ¬ (j : Int) < 4 := hge
    obtain rfl : j = 4 := by omega
    intro b3
    have p0 : pre2T t 0 = preT t 4 := by unfold pre2T; simp
    have hp2 : ∀ j, (pre2T t j).length ≤ 200 := fun j => by
      unfold pre2T
      rw [List.length_append]
      have h : (((txtsT t).take j).flatMap txtL).length ≤ ((txtsT t).flatMap txtL).length := by
        have e := congrArg (fun l => (l.flatMap txtL).length) (List.take_append_drop j (txtsT t))
        simp only [List.flatMap_append, List.length_append] at e
        omega
      have h2 : ((txtsT t).flatMap txtL).length = t.ten.length + 1 + (t.usr.length + 1 + (t.rol.length + 1)) := by simp [txtsT, txtL]; omega
      omega
    refine loop_rule (ι := Nat × Option Addr × Nat) 1 (fun j => [(4, .c (.v (.slice j.2.1 (pre2T t j.1).length j.2.2))), (45, .c (.v (.slice (some ⟨b3, 0, none⟩) 3 3))), (46, .c (.v (.int .i64 3))), (47, .c (.v (.int .i64 (j.1 : Int))))]) (fun _ => []) (fun j => [rowF ty_string 1 (.slice (some ⟨b3, 0, none⟩) 3 3) 3 ((txtsT t).map fun l => Value.string (mkS l)), browF ty_uint8 j.2.1 (pre2T t j.1) j.2.2, oldF w])
      (fun j => j.1 ≤ 3) (fun j => 3 - j.1) (0, A, c) (Nat.zero_le _) (Ent.mk' ⟨by rw [p0]; rfl, rfl, rfl, rfl, trivial⟩ rfl (fun β w' hs => by rw [p0]; exact (hs.keepB (List.nil_sublist _)).perm [0, 2, 3])) g ?_
    rintro ⟨i, A5, c5⟩ hi
    simp only at hi
    have hpi := hp2 i
    refine BIf.dec (fun hlt2 => ?_) (fun hge2 => ?_)
    · have hlt20 : (i : Int) < 3 := hlt2
      obtain ⟨l, hx, hxm⟩ := at_lt (l := txtsT t) (k := i) (by show i < 3; omega)
      refine ⟨⟨b3, 0, none⟩, i, rfl, rfl, by omega, .string (mkS l), fun β w' hs => Rd.cell1 (show Rd 1 (some ⟨b3, 0, none⟩) 3 ((txtsT t).map fun l => Value.string (mkS l)) w' from row_rd (hs.get 0 rfl)) (by rw [List.getElem?_map, hx]; rfl), ?_⟩
      have hl32 : l.length ≤ 32 := by
        simp only [txtsT, List.mem_cons, List.not_mem_nil, or_false] at hxm
        rcases hxm with rfl | rfl | rfl
        · exact l1
        · exact l2
        · exact l3
      have hs2 : pre2T t (i + 1) = (pre2T t i ++ [UInt8.ofNat l.length]) ++ l := by
        unfold pre2T
        rw [List.take_add_one, hx, List.flatMap_append, ← List.append_assoc]
        simp [txtL]
      have hbl : byte (UInt8.ofNat l.length) = .int .u8 (l.length : Int) := byte_ofNat _ (by omega)
      refine ⟨(l.length : Int), by show IntKind.u8.wrap (l.length : Int) = _; rw [wrap_u8]; omega, ?_⟩
      intro b4
      refine ⟨2, (pre2T t i).length, (pre2T t i ++ [UInt8.ofNat l.length]).length, (pre2T t i).map byte, [Value.int .u8 (l.length : Int)], (pre2T t i ++ [UInt8.ofNat l.length]).map byte, rfl, fun β w' hs => row_rd (hs.get 0 rfl), fun u hu => by obtain rfl := List.mem_singleton.1 hu; rfl, by rw [List.length_append]; rfl, by rw [List.map_append, ← hbl]; rfl, by rw [List.length_append, hml]; show _ + 1 ≤ _; omega, by rw [List.length_append]; show (_ + 1) * 1 ≤ _; omega, ?_⟩
      intro A6 c6 _ _ _
      have hpi1 := hp2 (i + 1)
      refine ⟨2, (pre2T t i ++ [UInt8.ofNat l.length]).length, l.length, (pre2T t (i + 1)).length, (pre2T t i ++ [UInt8.ofNat l.length]).map byte, l.map byte, (pre2T t (i + 1)).map byte, rfl, ⟨rfl, rfl, by rw [mkS_out]⟩, by rw [hs2]; exact List.length_append.symm, by rw [hs2]; exact List.map_append.symm, by omega, by show (pre2T t (i + 1)).length * 1 ≤ _; omega, ?_⟩
      intro A7 c7 _ _ _
      refine ⟨((i + 1 : Nat) : Int), by rw [wrap_i64 (by omega) (by omega)]; rfl, ?_⟩
      exact ⟨(i + 1, A7, c7), by show i + 1 ≤ 3; omega, by show 3 - (i + 1) < 3 - i; omega, Ent.mk' ⟨rfl, rfl, rfl, rfl, trivial⟩ rfl (fun β w' hs => hs.perm [1, 2, 3])⟩
    · have hge20 : ¬ (i : Int) < 3 := hge2
      obtain rfl : i = 3 := by omega
      have e3 : pre2T t 3 = bodyL t := by
        unfold pre2T preT bodyL
        simp [numsT, txtsT]
      rw [e3] at *
      intro β w' hs
      exact hs.fin [1] (.inl ⟨hr, A5, c5, rfl, brow_cap (hs.get 1 rfl), rfl⟩)
def dotA : List UInt8 → List UInt8
  | [] => []
  | c :: r => if c = 46 then [] else c :: dotA r
def dotB : List UInt8 → List UInt8
  | [] => []
  | c :: r => if c = 46 then r else dotB r
theorem dot_at : ∀ {a b : List UInt8}, (46 : UInt8) ∉ a → dotA (a ++ 46 :: b) = a ∧ dotB (a ++ 46 :: b) = b
  | [], b, _ => ⟨if_pos rfl, if_pos rfl⟩
  | c :: r, b, h => by
    have hc : ¬ c = 46 := fun q => h (by rw [q]; exact List.mem_cons_self)
    obtain ⟨e1, e2⟩ := dot_at (a := r) (b := b) (fun q => h (List.mem_cons_of_mem _ q))
    rw [List.cons_append]
    unfold dotA dotB
    rw [if_neg hc, if_neg hc, e1, e2]
    exact ⟨rfl, rfl⟩
theorem dot_split : ∀ {s : List UInt8}, (46 : UInt8) ∈ s → s = dotA s ++ 46 :: dotB s ∧ (46 : UInt8) ∉ dotA s
  | [], h => by cases h
  | c :: r, h => by
    unfold dotA dotB
    by_cases hc : c = 46
    · rw [if_pos hc, if_pos hc, hc]
      exact ⟨rfl, fun q => by cases q⟩
    · rw [if_neg hc, if_neg hc]
      have hr : (46 : UInt8) ∈ r := (List.mem_cons.1 h).resolve_left (fun q => hc q.symm)
      obtain ⟨e1, e2⟩ := dot_split hr
      refine ⟨by rw [List.cons_append, ← e1], fun q => ?_⟩
      rcases List.mem_cons.1 q with q | q
      · exact hc q.symm
      · exact e2 q
open Classical in
noncomputable def splitT (s : List UInt8) : Option (List UInt8 × List UInt8) × Int :=
  if 4096 < s.length then (none, 3) else if (46 : UInt8) ∈ s then match decU (dotA s), decU (dotB s) with
    | some b, some m => if m.length = 32 then (some (b, m), 0) else (none, 4)
    | _, _ => (none, 4)
  else (none, 4)
theorem decU_enc (p : List UInt8) : decU (encS true p) = some p := by
  have hl := b64L_len true p
  show (if (b64L true p).length % 4 = 1 then none else decS true (b64L true p)) = some p
  rw [if_neg (by rw [hl]; omega)]
  exact decS_b64 true p
theorem enc_no46 (p : List UInt8) : (46 : UInt8) ∉ encS true p := fun h => absurd (b64L_run true p 46 h) (by decide)
theorem split_join {b m : List UInt8} (hm : m.length = 32) (hl : (encS true b ++ 46 :: encS true m).length ≤ 4096) : splitT (encS true b ++ 46 :: encS true m) = (some (b, m), 0) := by
  obtain ⟨e1, e2⟩ := dot_at (b := encS true m) (enc_no46 b)
  unfold splitT
  rw [if_neg (by omega), if_pos (List.mem_append_right _ List.mem_cons_self), e1, e2, decU_enc, decU_enc]
  simp only
  rw [if_pos hm]
def libCut (s : List UInt8) : List UInt8 × List UInt8 × Bool := _root_.Go.Lib.cut s [46]
theorem tkCut_c (w : World) (s : List UInt8) (hs : s.length ≤ 1000000) (hm : mlF.p w) : Pu Tryz.prog n_strings_Cut #[.string (mkS s), .string (mkS [46])] w (.tuple #[.string (mkS (libCut s).1), .string (mkS (libCut s).2.1), .bool (libCut s).2.2]) := by
  obtain ⟨m, hm⟩ := hm
  have hsz : (mkS s).size < 4294967281 := by show s.length < _; omega
  refine pu_of (Calls.mono (Tryz.strings_Cut (mkS s) (mkS [46]) m w hsz hm) ?_)
  rintro e w' ⟨rfl, q, rfl⟩
  refine ⟨_, rfl, ?_, ⟨rfl, rfl, rfl, Nat.le_refl _, fun _ _ _ => rfl⟩⟩
  rw [mkS_out, mkS_out]
  rfl
theorem idx_dot : ∀ s : List UInt8, _root_.Go.Lib.index s [46] = if (46 : UInt8) ∈ s then ((dotA s).length : Int) else -1
  | [] => by rw [if_neg (fun h => by cases h)]; rfl
  | c :: r => by
    have ih := idx_dot r
    unfold _root_.Go.Lib.index dotA
    by_cases hc : c = 46
    · subst hc
      rw [if_pos (by simp), if_pos List.mem_cons_self, if_pos rfl]
      rfl
    · rw [if_neg (by simpa using fun h => hc h.symm), if_neg hc, ih]
      by_cases hr : (46 : UInt8) ∈ r
      · rw [if_pos hr, if_pos (List.mem_cons_of_mem _ hr), if_neg (by simp)]
        simp
      · rw [if_neg hr, if_neg (fun q => (List.mem_cons.1 q).elim (fun q => hc q.symm) hr)]
        rfl
theorem libCut_eq (s : List UInt8) : libCut s = if (46 : UInt8) ∈ s then (dotA s, dotB s, true) else (s, [], false) := by
  unfold libCut _root_.Go.Lib.cut
  rw [idx_dot]
  by_cases h : (46 : UInt8) ∈ s
  · obtain ⟨e, _⟩ := dot_split h
    rw [if_pos h, if_pos h, if_pos (Int.natCast_nonneg _), Int.toNat_natCast]
    generalize dotA s = a at e ⊢
    generalize dotB s = b at e ⊢
    subst e
    rw [List.take_left, ← List.drop_drop, List.drop_left]
    rfl
  · rw [if_neg h, if_neg h, if_neg (by decide)]
theorem num_lt8 (r : Rdr) (n : Nat) (h : n ≤ 8) : (r.num n).1 < 18446744073709551616 := by
  have h1 := numB_lt n _ (take_len r n) h
  exact Nat.lt_of_lt_of_le h1 (show 256 ^ n ≤ 256 ^ 8 from Nat.pow_le_pow_right (by decide) h)
theorem txt_ltK (r : Rdr) : r.txt.1.length ≤ 100000 := by
  have h1 : (r.num 1).1 < 256 := numB_lt 1 _ (take_len r 1) (by decide)
  have h2 : r.txt.1.length = (r.num 1).1 := take_len _ _
  omega
theorem ml_old {w w' : World} (h : mlF.p w) (ho : (oldF w).p w') : mlF.p w' := by
  refine mlF.st w w' (fun k hk => ho k ?_) h
  obtain ⟨m, hm⟩ := h
  obtain rfl : k = 0 := hk
  unfold World.cell? at hm
  rcases Nat.lt_or_ge 0 w.heap.size with q | q
  · exact q
  · simp [Array.getElem?_eq_none q] at hm
def readV (p : List UInt8) (v : Value) : Prop := (∃ t, readT p = some t ∧ t.Ok ∧ v = .tuple #[.agg t.cells.toArray, .int .i64 0]) ∨ (readT p = none ∧ v = .tuple #[.agg tk0.cells.toArray, .int .i64 4])
open Classical in
theorem tkRead_c (w : World) (A : Option Addr) (p : List UInt8) (c : Nat) (hc : p.length ≤ c) (hn : NamT w) (hA : Bs w A p) : Con Tryz.prog n_ticket_Read #[.slice A p.length c] w [] fun v Fs => readV p v ∧ Fs = [] := by
  have g := good_ticket_Read w (Un [])
  refine con_of_tri (cx := cx_ticket_Read w (Un [])) g b_ticket_Read rfl rfl (β := Va.z) [.c (.v (.slice A p.length c))] 0 [] [oldF w] rfl rfl (old_sat rfl) ?_
  refine tri_seq g ?_
  refine tri_seq g ?_
  refine reify_tri 1 (fun _ => [.slice A p.length c, .bool false]) rfl rfl (fun _ => rfl) (fun rb => ?_)
  refine tri_of g ?_
  have no : ∀ {r : Rdr} {A1 : Option Addr} {w' : World}, Lies A A1 p r.p → (oldF w).p w' → Bs w' A1 r.p := fun hl h => hl.rd _ (hA.old h)
  have dom : ∀ {r : Rdr} {A1 : Option Addr}, Lies A A1 p r.p → ∀ k, (bsF A1 r.p).D k → (oldF w).D k := fun hl k hk => rd_lt hA k (hl.d k hk)
  obtain ⟨r0, hr0⟩ : ∃ r0 : Rdr, (⟨p, false⟩ : Rdr) = r0 := ⟨_, rfl⟩
  have hrp : r0.p = p := by rw [← hr0]
  have hrc : ([.slice A p.length c, .bool false] : List Value) = rdCells A c r0 := by rw [← hr0]; rfl
  rw [hrc]
  have hl0 : Lies A A p r0.p := hrp ▸ Lies.refl A p
  have hc0 : r0.p.length ≤ c := hrp ▸ hc
  refine call_con [0] (fun β w' hs => tkRNum_c w' rb A c r0 1 (by decide) hc0 ((hs.sub 1 rfl rfl (bsF A r0.p) rfl (no hl0 (hs.get 1 rfl)) (dom hl0)).mem.take (js := [1, 0]) rfl)) ?_
  rintro v Fs ⟨A1, c1, rfl, hc1, hm1, rfl⟩
  have hl1 := hl0.trans hm1
  have b0 := num_lt8 r0 1 (by decide)
  clear hm1
  generalize hq0 : r0.num 1 = q0 at *
  obtain ⟨n0, r1⟩ := q0
  simp only at hc1 hl1 b0
  refine call_con [0] (fun β w' hs => tkRNum_c w' rb A1 c1 r1 4 (by decide) hc1 ((hs.sub 1 rfl rfl (bsF A1 r1.p) rfl (no hl1 (hs.get 1 rfl)) (dom hl1)).mem.take (js := [1, 0]) rfl)) ?_
  rintro v Fs ⟨A2, c2, rfl, hc2, hm2, rfl⟩
  have hl2 := hl1.trans hm2
  have b1 := num_lt8 r1 4 (by decide)
  clear hm2
  generalize hq1 : r1.num 4 = q1 at *
  obtain ⟨n1, r2⟩ := q1
  simp only at hc2 hl2 b1
  refine call_con [0] (fun β w' hs => tkRNum_c w' rb A2 c2 r2 8 (by decide) hc2 ((hs.sub 1 rfl rfl (bsF A2 r2.p) rfl (no hl2 (hs.get 1 rfl)) (dom hl2)).mem.take (js := [1, 0]) rfl)) ?_
  rintro v Fs ⟨A3, c3, rfl, hc3, hm3, rfl⟩
  have hl3 := hl2.trans hm3
  have b2 := num_lt8 r2 8 (by decide)
  clear hm3
  generalize hq2 : r2.num 8 = q2 at *
  obtain ⟨n2, r3⟩ := q2
  simp only at hc3 hl3 b2
  refine call_con [0] (fun β w' hs => tkRNum_c w' rb A3 c3 r3 8 (by decide) hc3 ((hs.sub 1 rfl rfl (bsF A3 r3.p) rfl (no hl3 (hs.get 1 rfl)) (dom hl3)).mem.take (js := [1, 0]) rfl)) ?_
  rintro v Fs ⟨A4, c4, rfl, hc4, hm4, rfl⟩
  have hl4 := hl3.trans hm4
  have b3 := num_lt8 r3 8 (by decide)
  clear hm4
  generalize hq3 : r3.num 8 = q3 at *
  obtain ⟨n3, r4⟩ := q3
  simp only at hc4 hl4 b3
  refine call_con [0] (fun β w' hs => tkRNum_c w' rb A4 c4 r4 8 (by decide) hc4 ((hs.sub 1 rfl rfl (bsF A4 r4.p) rfl (no hl4 (hs.get 1 rfl)) (dom hl4)).mem.take (js := [1, 0]) rfl)) ?_
  rintro v Fs ⟨A5, c5, rfl, hc5, hm5, rfl⟩
  have hl5 := hl4.trans hm5
  have b4 := num_lt8 r4 8 (by decide)
  clear hm5
  generalize hq4 : r4.num 8 = q4 at *
  obtain ⟨n4, r5⟩ := q4
  simp only at hc5 hl5 b4
  refine call_con [0] (fun β w' hs => tkRNum_c w' rb A5 c5 r5 8 (by decide) hc5 ((hs.sub 1 rfl rfl (bsF A5 r5.p) rfl (no hl5 (hs.get 1 rfl)) (dom hl5)).mem.take (js := [1, 0]) rfl)) ?_
  rintro v Fs ⟨A6, c6, rfl, hc6, hm6, rfl⟩
  have hl6 := hl5.trans hm6
  have b5 := num_lt8 r5 8 (by decide)
  clear hm6
  generalize hq5 : r5.num 8 = q5 at *
  obtain ⟨n5, r6⟩ := q5
  simp only at hc6 hl6 b5
  refine call_con [0] (fun β w' hs => tkRTxt_c w' rb A6 c6 r6 hc6 ((hs.sub 1 rfl rfl (bsF A6 r6.p) rfl (no hl6 (hs.get 1 rfl)) (dom hl6)).mem.take (js := [1, 0]) rfl)) ?_
  rintro v Fs ⟨A7, c7, rfl, hc7, hm7, rfl⟩
  have hl7 := hl6.trans hm7
  have b6 := txt_ltK r6
  clear hm7
  generalize hq6 : r6.txt = q6 at *
  obtain ⟨s6, r7⟩ := q6
  simp only at hc7 hl7 b6
  refine call_con [0] (fun β w' hs => tkRTxt_c w' rb A7 c7 r7 hc7 ((hs.sub 1 rfl rfl (bsF A7 r7.p) rfl (no hl7 (hs.get 1 rfl)) (dom hl7)).mem.take (js := [1, 0]) rfl)) ?_
  rintro v Fs ⟨A8, c8, rfl, hc8, hm8, rfl⟩
  have hl8 := hl7.trans hm8
  have b7 := txt_ltK r7
  clear hm8
  generalize hq7 : r7.txt = q7 at *
  obtain ⟨s7, r8⟩ := q7
  simp only at hc8 hl8 b7
  refine call_con [0] (fun β w' hs => tkRTxt_c w' rb A8 c8 r8 hc8 ((hs.sub 1 rfl rfl (bsF A8 r8.p) rfl (no hl8 (hs.get 1 rfl)) (dom hl8)).mem.take (js := [1, 0]) rfl)) ?_
  rintro v Fs ⟨A9, c9, rfl, hc9, hm9, rfl⟩
  have hl9 := hl8.trans hm9
  have b8 := txt_ltK r8
  clear hm9
  generalize hq8 : r8.txt = q8 at *
  obtain ⟨s8, r9⟩ := q8
  simp only at hc9 hl9 b8
  have hall : rdAll p = (n0, ⟨n1, n2, n3, n4, n5, s6, s7, s8⟩, r9) := by
    unfold rdAll
    simp only [hr0, hq0, hq1, hq2, hq3, hq4, hq5, hq6, hq7, hq8]
  refine ⟨.bool r9.bad, fun β w' hs => cell_bk (hs.get 0 rfl) (o := 1) rfl, ?_⟩
  have bad : ¬ (r9.bad = false ∧ r9.p = [] ∧ n0 = 1 ∧ (⟨n1, n2, n3, n4, n5, s6, s7, s8⟩ : Tk).Right) → readT p = none := fun h => by
    unfold readT
    rw [hall, if_neg h]
  cases hb : r9.bad with
  | true =>
    intro β w' hs
    exact (hs.keepB (List.nil_sublist _)).fin [] ⟨.inr ⟨bad (fun h => by rw [hb] at h; cases h.1), rfl⟩, rfl⟩
  | false =>
  refine ⟨.slice A9 r9.p.length c9, fun β w' hs => cell_bk (hs.get 0 rfl) (o := 0) rfl, ?_⟩
  refine BIf.dec (fun h1 => ?_) (fun h1 => ?_)
  · have h10 : (r9.p.length : Int) > 0 := h1
    intro β w' hs
    exact (hs.keepB (List.nil_sublist _)).fin [] ⟨.inr ⟨bad (fun h => by rw [h.2.1] at h10; exact absurd h10 (by decide)), rfl⟩, rfl⟩
  have h10 : ¬ (r9.p.length : Int) > 0 := h1
  refine BIf.not (BIf.dec (fun h2 => ?_) (fun h2 => ?_))
  rotate_left
  · have h20 : ¬ (n0 : Int) = 1 := h2
    intro β w' hs
    exact (hs.keepB (List.nil_sublist _)).fin [] ⟨.inr ⟨bad (fun h => h20 (by rw [h.2.2.1]; rfl)), rfl⟩, rfl⟩
  have h20 : (n0 : Int) = 1 := h2
  have hok : (⟨n1, n2, n3, n4, n5, s6, s7, s8⟩ : Tk).Ok := ⟨b1, b2, b3, b4, b5, b6, b7, b8⟩
  refine call_pu (v := .bool (decide (⟨n1, n2, n3, n4, n5, s6, s7, s8⟩ : Tk).Right)) (fun β w' hs => tkRight_c w' ⟨n1, n2, n3, n4, n5, s6, s7, s8⟩ (hn.old (hs.get 1 rfl)) hok) ?_
  refine BIf.not (BIf.dec (fun h3 => ?_) (fun h3 => ?_))
  rotate_left
  · intro β w' hs
    exact (hs.keepB (List.nil_sublist _)).fin [] ⟨.inr ⟨bad (fun h => h3 h.2.2.2), rfl⟩, rfl⟩
  have h11 : r9.p = [] := List.length_eq_zero_iff.1 (by clear hall; omega)
  have hrd : readT p = some ⟨n1, n2, n3, n4, n5, s6, s7, s8⟩ := by
    unfold readT
    rw [hall]
    exact if_pos ⟨hb, h11, by clear hall; show n0 = 1; omega, h3⟩
  intro β w' hs
  exact (hs.keepB (List.nil_sublist _)).fin [] ⟨.inl ⟨_, hrd, hok, rfl⟩, rfl⟩
theorem split_ok {s b m : List UInt8} (hd : (46 : UInt8) ∈ s) (hl : ¬ 4096 < s.length) (h1 : decU (dotA s) = some b) (h2 : decU (dotB s) = some m) (hm : m.length = 32) : splitT s = (some (b, m), 0) := by
  unfold splitT
  rw [if_neg hl, if_pos hd, h1, h2]
  exact if_pos hm
theorem split_no {s : List UInt8} (hl : ¬ 4096 < s.length) (h : ∀ b m, (46 : UInt8) ∈ s → decU (dotA s) = some b → decU (dotB s) = some m → m.length = 32 → False) : splitT s = (none, 4) := by
  unfold splitT
  rw [if_neg hl]
  by_cases hd : (46 : UInt8) ∈ s
  · rw [if_pos hd]
    cases h1 : decU (dotA s) with
    | none => rfl
    | some b =>
      cases h2 : decU (dotB s) with
      | none => rfl
      | some m => exact if_neg (fun q => h b m hd h1 h2 q)
  · rw [if_neg hd]
def splV (s : List UInt8) (v : Value) (Fs : List Fact) : Prop := (∃ b m A c B d, splitT s = (some (b, m), 0) ∧ b.length ≤ s.length ∧ m.length = 32 ∧ v = .tuple #[.slice A b.length c, .slice B m.length d, .int .i64 0] ∧ b.length ≤ c ∧ m.length ≤ d ∧ Fs = [browF ty_uint8 A b c, browF ty_uint8 B m d]) ∨ (∃ e, splitT s = (none, e) ∧ (e = 3 ∨ e = 4) ∧ v = .tuple #[.slice none 0 0, .slice none 0 0, .int .i64 e] ∧ Fs = [])
open Classical in
theorem tkSplit_c (w : World) (s : List UInt8) (hL : s.length ≤ 1000000) (hm : mlF.p w) : Con Tryz.prog n_ticket_Split #[.string (mkS s)] w [] (splV s) := by
  have g := good_ticket_Split w (Un [])
  refine con_of_sx (cx := cx_ticket_Split w (Un [])) g b_ticket_Split rfl rfl (β := Va.z) [.c (.v (.string (mkS s)))] 0 [] [oldF w] rfl rfl (old_sat rfl) ?_
  have hz := mkS_sz s
  refine BIf.dec (fun h1 => ?_) (fun h1 => ?_)
  · have h10 : ((mkS s).size : Int) > 4096 := h1
    intro β w' hs
    refine hs.fin [] (.inr ⟨3, ?_, .inl rfl, rfl, rfl⟩)
    unfold splitT
    rw [if_pos (by omega)]
  have h10 : ¬ ((mkS s).size : Int) > 4096 := h1
  refine call_pu (fun β w' hs => tkCut_c w' s hL (ml_old hm (hs.get 0 rfl))) ?_
  rw [libCut_eq]
  by_cases hd : (46 : UInt8) ∈ s
  · obtain ⟨e0, _⟩ := dot_split hd
    have hlen : s.length = (dotA s).length + ((dotB s).length + 1) := by conv => lhs; rw [e0, List.length_append, List.length_cons]
    rw [if_pos hd]
    refine call_con [] (fun β w' hs => DecodeURL_c w' (dotA s) (by omega)) ?_
    rintro v Fs ⟨A, b, c, e, rfl, he, hc, rfl⟩
    refine call_con [] (fun β w' hs => DecodeURL_c w' (dotB s) (by omega)) ?_
    rintro v Fs ⟨B, m, d, f, rfl, hf, hdc, rfl⟩
    rcases he with ⟨rfl, he⟩ | ⟨he0, he⟩
    rotate_left
    · refine BIf.not (BIf.dec (fun q => absurd q he0) (fun _ => ?_))
      intro β w' hs
      exact hs.fin [] (.inr ⟨4, split_no (by omega) (fun b m _ q => by rw [he] at q; cases q), .inr rfl, rfl, rfl⟩)
    rcases hf with ⟨rfl, hf⟩ | ⟨hf0, hf⟩
    rotate_left
    · refine BIf.not (BIf.dec (fun q => absurd q hf0) (fun _ => ?_))
      intro β w' hs
      exact hs.fin [] (.inr ⟨4, split_no (by omega) (fun b m _ _ q => by rw [hf] at q; cases q), .inr rfl, rfl, rfl⟩)
    refine BIf.not (BIf.dec (fun h2 => ?_) (fun h2 => ?_))
    · have h20 : (m.length : Int) = 32 := h2
      intro β w' hs
      exact hs.fin [1, 0] (.inl ⟨b, m, A, c, B, d, split_ok hd (by omega) he hf (by omega), by have := decU_len he; omega, by omega, rfl, hc, hdc, rfl⟩) rfl rfl rfl ⟨rfl, rfl, trivial⟩
    · have h20 : ¬ (m.length : Int) = 32 := h2
      intro β w' hs
      exact hs.fin [] (.inr ⟨4, split_no (by omega) (fun b' m' _ _ q h => by rw [hf] at q; injection q with q; subst q; exact h20 (by omega)), .inr rfl, rfl, rfl⟩)
  · rw [if_neg hd]
    refine call_con [] (fun β w' hs => DecodeURL_c w' s (by omega)) ?_
    rintro v Fs ⟨A, b, c, e, rfl, he, hc, rfl⟩
    refine call_con [] (fun β w' hs => DecodeURL_c w' [] (by decide)) ?_
    rintro v Fs ⟨B, m, d, f, rfl, hf, hdc, rfl⟩
    intro β w' hs
    exact hs.fin [] (.inr ⟨4, split_no (by omega) (fun b m q => absurd q hd), .inr rfl, rfl, rfl⟩)
theorem fact_oldR {f : Fact} {W w : World} (h : f.p W) (hD : ∀ k, f.D k → k < W.heap.size) (ho : (oldF W).p w) : f.p w := f.st W w (fun k hk => ho k (hD k hk)) h
theorem zero_slB (w : World) : (zeroValue ty_sl_uint8).run Tryz.prog w = .ok (.slice none 0 0) w := by kernel_rfl
theorem epochs_c (w : World) (r : Rg) : Con Tryz.prog n_ring_Ring_Epochs #[ptrR r.b] w [] (fun v Fs => ∃ bx, v = .func (.func n_ring_Ring_Epochs_1) #[] #[.pointer (some ⟨bx, 0, none⟩)] ∧ Fs = [bkF bx ty_ptr_ring_Ring [ptrR r.b]]) := by
  refine con_of_sx (cx := cx_ring_Ring_Epochs w (Un [])) (good_ring_Ring_Epochs w (Un [])) b_ring_Ring_Epochs rfl rfl (β := Va.z) [.c (.v (ptrR r.b))] 0 [] [] rfl rfl (Sat.start rfl) ?_
  intro β w' hs
  exact hs.ofBk.fin [0] ⟨β 0, rfl, rfl⟩
def Rg.key (r : Rg) (e : Int) : Option RKey := r.ks.find? fun k => decide ((k.e : Int) = e)
theorem key_look (e : Int) : ∀ ks : List RKey, ilook (ks.map fun k => ((k.e : Int), k.v)) e = (ks.find? fun k => decide ((k.e : Int) = e)).map RKey.v
  | [] => rfl
  | k :: t => by
    by_cases h : (k.e : Int) = e
    · simp [ilook, List.find?, h]
    · simp only [List.map_cons, ilook, if_neg h, List.find?, decide_eq_false h]
      exact key_look e t
theorem rg_key {r : Rg} {w : World} (h : (rgF r).p w) {k : RKey} (hk : k ∈ r.ks) : k.f.p w := by
  have h1 : (sepF (r.ks.map RKey.f)).p w := h.1 (sepF (r.ks.map RKey.f)) (by simp)
  exact h1.1 k.f (List.mem_map.2 ⟨k, hk, rfl⟩)
def keyOut (o : Option RKey) (v : Value) (Fs : List Fact) : Prop := match o with
  | none => v = .tuple #[.slice none 0 0, .int .i64 15] ∧ Fs = []
  | some k => ∃ A c, v = .tuple #[.slice A k.p.length c, .int .i64 0] ∧ k.p.length ≤ c ∧ Fs = [browF ty_uint8 A k.p c]
theorem key_c (w : World) (r : Rg) (e : Int) (h : (rgF r).p w) (hl : ∀ k, (rgF r).D k → k < w.heap.size) (hp : ∀ k ∈ r.ks, k.p.length ≤ 1000) : Con Tryz.prog n_ring_Ring_Key #[ptrR r.b, .int .u64 e] w [] (keyOut (r.key e)) := by
  have g := good_ring_Ring_Key w (Un [])
  refine con_of_sx (cx := cx_ring_Ring_Key w (Un [])) g b_ring_Ring_Key rfl rfl (β := Va.z) [.c (.v (ptrR r.b)), .c (.v (.int .u64 e))] 0 [] [oldF w] rfl rfl (old_sat rfl) ?_
  refine ⟨.map (some r.m), fun β w' hs => cell_bk (rg_bk (fact_oldR h hl (hs.get 0 rfl))) (o := 3) rfl, ?_⟩
  refine ⟨rfl, .slice none 0 0, fun w => zero_slB w, r.ml, (r.key e).map RKey.v, fun β w' hs => rg_map (fact_oldR h hl (hs.get 0 rfl)), key_look e r.ks, ?_⟩
  cases hk : r.key e with
  | none =>
    intro β w' hs
    exact hs.fin [] ⟨rfl, rfl⟩
  | some k =>
    have hm : k ∈ r.ks := List.mem_of_find?_eq_some hk
    refine call_con [] (fun β w' hs => clone_c w' k.A k.p k.c (row_rd (rg_key (fact_oldR h hl (hs.get 0 rfl)) hm)) (by have := hp k hm; omega)) ?_
    rintro v Fs ⟨A, c, rfl, hc, _, rfl⟩
    intro β w' hs
    exact hs.fin [0] ⟨A, c, rfl, hc, rfl⟩
end Go.Proofs.YtlhcgofdfhfegaaGreatDoor.Sx

namespace Go.Proofs.YtlhcgofdfhfegaaGreatDoor.Sx
open Go
theorem Sat.mapPutI {cx : Cx} {β : Va} {n : Nat} {H : List Bk} {F : List Fact} {w : World} (h : Sat cx β n H F w) (g : Good cx) (j : Nat) {b : Nat} {l : MLI} {kk : IntKind} (hj : nth F j = some (mapIF kk b l)) {t kt et : TypeId} {i ik : TI} (s : Int) (v : Value) (hi : lk cx.tt t = some i := by rfl) (hd : i.desc = .map kt et := by rfl) (hik : lk cx.tt kt = some ik := by rfl) (hdk : ik.desc = .int kk := by rfl) :
    ∃ w', (Instr.mapUpdate t (.map (some b)) (.int kk s) v).run cx.P w = .ok () w' ∧ Sat cx β n H (putAt F j (mapIF kk b (iput l s v))) w' := by
  obtain ⟨o, e1, e2⟩ := run_putI (P := cx.P) ((g.ti hi).real (d := .map _ _) hd rfl) ((g.ti hik).real (d := .int kk) hdk rfl) (h.get j hj) s v
  exact ⟨_, e1, h.upd hj rfl (chg_put o) e2 (fun k hk => .inl hk)⟩
theorem Sat.mapPutIY {cx : Cx} {β : Va} {n : Nat} {H : List Bk} {F : List Fact} {w : World} (h : Sat cx β n H F w) (g : Good cx) (j : Nat) {b : Nat} {l : MLI} {kk : IntKind} (hj : nth F j = some (mapIF kk b l)) {t kt et : TypeId} {i ik : TI} (s : Int) (v : Value) (hi : lk cx.tt t = some i := by rfl) (hd : i.desc = .map kt et := by rfl) (hik : lk cx.tt kt = some ik := by rfl) (hdk : ik.desc = .int kk := by rfl) :
    ∃ (w' : World) (y : Nat), (Instr.mapUpdate t (.map (some b)) (.int kk s) v).run cx.P w = .ok () w' ∧ Sat cx β n H ((fun _ => putAt F j (mapIF kk b (iput l s v))) y) w' := by
  obtain ⟨w', e1, e2⟩ := h.mapPutI g j hj s v hi hd hik hdk
  exact ⟨w', 0, e1, e2⟩
theorem Sat.mapDelI {cx : Cx} {β : Va} {n : Nat} {H : List Bk} {F : List Fact} {w : World} (h : Sat cx β n H F w) (g : Good cx) (j : Nat) {b : Nat} {l : MLI} {kk : IntKind} (hj : nth F j = some (mapIF kk b l)) {t tk kt et : TypeId} {i ik : TI} (s : Int) (ty : TypeId) (cst : Array Bool) (hi : lk cx.tt t = some i := by rfl) (hd : i.desc = .map kt et := by rfl) (hik : lk cx.tt kt = some ik := by rfl) (hdk : ik.desc = .int kk := by rfl) :
    ∃ w', (builtin .delete #[t, tk] ty cst #[.map (some b), .int kk s]).run cx.P w = .ok (.value (.tuple #[])) w' ∧ Sat cx β n H (putAt F j (mapIF kk b (idel l s))) w' := by
  obtain ⟨o, e1, e2⟩ := run_delI (P := cx.P) (tk := tk) ((g.ti hi).real (d := .map _ _) hd rfl) ((g.ti hik).real (d := .int kk) hdk rfl) (h.get j hj) s ty cst
  exact ⟨_, e1, h.upd hj rfl (chg_put o) e2 (fun k hk => .inl hk)⟩
end Go.Proofs.YtlhcgofdfhfegaaGreatDoor.Sx

namespace Go.Proofs.YtlhcgofdfhfegaaGreatDoor.Sx
open Go
attribute [local irreducible] Calls
def outL (F : Bx.Box → Lay → Fact) (r : List UInt8 × Bx.Box) (v : Value) (Fs : List Fact) : Prop :=
  ∃ A c y', v = .slice A r.1.length c ∧ r.1.length ≤ c ∧ c ≤ maxLen ∧ y'.ts.map (·.1) = r.2.L ∧ Fs = [browF ty_uint8 A r.1 c, F r.2 y']
theorem boxOut_L {b : Nat} {r : List UInt8 × Bx.Box} {v : Value} {Fs : List Fact} (h : r.1.length = 32) (k : boxOut b r v Fs) : outL (bxF b) r v Fs := by
  obtain ⟨A, c, y', rfl, h1, h2, h3, rfl⟩ := k
  exact ⟨A, c, y', by rw [h], by rw [h]; exact h1, h2, h3, rfl⟩
theorem one_part (A : Option Addr) (l : List UInt8) (c : Nat) : partsT [(A, l, c)] = l := by simp [partsT]
theorem macL_c (w : World) (b : Nat) (B : Bx.Box) (y : Lay) (K : Option Addr) (key : List UInt8) (cK : Nat) (b0 : Nat) (A : Option Addr) (l : List UInt8) (c : Nat) (hts : y.ts.map (·.1) = B.L) (hi : BInv B) (hL : B.L.length < 4096) (hk : key.length ≤ 1000000) (hn : l.length ≤ 1000000) (hm : Mem w [bxF b B y, partF (some ⟨b0, 0, none⟩) [(A, l, c)], bsF K key, oddF 4, firstF 1]) :
    Con Tryz.prog n_box_Box_Mac #[ptrB b, .slice K key.length cK, .slice (some ⟨b0, 0, none⟩) 1 1] w [bxF b B y] (outL (bxF b) (macB B key l)) := by
  have k := macP_c w b B y K key cK b0 [(A, l, c)] 1 hts (by omega) hk (by simp) (Nat.le_refl 1) (by show 1 ≤ 1000; decide) (by rw [one_part]; exact hn) hm
  rw [one_part] at k
  exact k.mono fun v Fs h => boxOut_L (mac_good hi hL hk hn).2.1 h
structure RgOk (r : Rg) : Prop where
  rise : (r.ks.map (·.e)).Pairwise (· < ·)
  le : ∀ k ∈ r.ks, k.e ≤ r.epoch
  len : r.ks.length ≤ r.room
  room : r.room ≤ 8
  master : r.master.length ≤ 64
  ep : r.epoch < 98
def keyS : ByteArray := ⟨#[107, 101, 121, 32]⟩
def keyT (e : Nat) : ByteArray := keyS ++ decimS e
def Rg.more (r : Rg) (A : Option Addr) (c : Nat) (p : List UInt8) : Rg := { r with epoch := r.epoch + 1, ks := r.ks ++ [⟨r.epoch + 1, A, c, p⟩] }
def Rg.cut (r : Rg) : Rg := if r.room < r.ks.length then { r with ks := r.ks.tail } else r
theorem decS_size {u : Nat} (hu : u < 100) : (decimS u).size ≤ 2 := by
  have h : ∀ u : _root_.Fin 100, (decimS u.1).size ≤ 2 := by decide +kernel
  exact h ⟨u, hu⟩
theorem more_look {r : Rg} (hok : RgOk r) : ilook r.ml ((r.epoch + 1 : Nat) : Int) = none := by
  rw [Rg.ml, key_look]
  have : (r.ks.find? fun k => decide ((k.e : Int) = ((r.epoch + 1 : Nat) : Int))) = none := by
    refine List.find?_eq_none.2 fun k hk => ?_
    have := hok.le k hk
    simp
    omega
  rw [this]
  rfl
theorem iput_end : ∀ {l : MLI} {s : Int} {v : Value}, ilook l s = none → iput l s v = l ++ [(s, v)]
  | [], _, _, _ => rfl
  | (k, u) :: r, s, v, h => by
    simp only [ilook] at h
    split at h
    · cases h
    · rename_i hne
      simp only [iput, if_neg hne, List.cons_append]
      rw [iput_end h]
theorem more_rise {r : Rg} (hok : RgOk r) {A : Option Addr} {c : Nat} {p : List UInt8} : (r.more A c p).rise = (r.more A c p).es := by
  have h1 : ((r.ks ++ [(⟨r.epoch + 1, A, c, p⟩ : RKey)]).map (·.e)).Pairwise (· < ·) := by
    rw [List.map_append, List.pairwise_append]
    refine ⟨hok.rise, List.pairwise_singleton _ _, fun x hx y hy => ?_⟩
    obtain ⟨k, hk, rfl⟩ := List.mem_map.1 hx
    obtain rfl := List.mem_singleton.1 hy
    have := hok.le k hk
    show k.e < r.epoch + 1
    omega
  have h2 := List.pairwise_map.1 h1
  unfold Rg.rise
  refine List.mergeSort_of_pairwise (List.pairwise_map.2 (h2.imp fun {a b} q => ?_))
  simp
  omega
set_option maxHeartbeats 2000000 in
theorem rotate_c (w : World) (r : Rg) (B : Bx.Box) (y : Lay) (hok : RgOk r) (hts : y.ts.map (·.1) = B.L) (hi : BInv B) (hL : B.L.length < 4000) (hm : Mem w [rgF r, bxF r.bx B y, oddF 4, firstF 1]) :
    Con Tryz.prog n_ring_Ring_Rotate #[ptrR r.b] w [rgF r, bxF r.bx B y] fun v Fs => ∃ A c y', v = .tuple #[.int .u64 ((r.epoch + 1 : Nat) : Int), .int .i64 0] ∧ y'.ts.map (·.1) = (macB B r.master (keyT (r.epoch + 1)).data.toList).2.L ∧
      Fs = [rgF (r.more A c (macB B r.master (keyT (r.epoch + 1)).data.toList).1).cut, bxF r.bx (macB B r.master (keyT (r.epoch + 1)).data.toList).2 y'] := by
  have g := good_ring_Ring_Rotate w (Un [rgF r, bxF r.bx B y])
  have hml := maxLen_eq
  have hs0 : Sat (cx_ring_Ring_Rotate w (Un [rgF r, bxF r.bx B y])) Va.z 0 [] [rgF r, bxF r.bx B y, oddF 4, firstF 1] w := hm.sat0 rfl (ownIn (Gs := [rgF r, bxF r.bx B y]) (fun f hf => by
    simp only [List.mem_cons, List.not_mem_nil, or_false] at hf
    rcases hf with rfl | rfl <;> rfl))
  have hs1 := hs0.unsep 0 rfl
  obtain ⟨e, he⟩ : ∃ e, r.epoch = e := ⟨_, rfl⟩
  have hep := hok.ep
  have hma := hok.master
  refine con_of_sx (cx := cx_ring_Ring_Rotate w (Un [rgF r, bxF r.bx B y])) g b_ring_Ring_Rotate rfl rfl (β := Va.z) [.c (.v (ptrR r.b))] 0 [] _ rfl rfl hs1 ?_
  obtain ⟨x, hx⟩ : ∃ x : Int, (r.epoch : Int) = x := ⟨_, rfl⟩
  obtain ⟨x1, hx1⟩ : ∃ x1 : Int, ((r.epoch + 1 : Nat) : Int) = x1 := ⟨_, rfl⟩
  refine ⟨.int .u64 x, fun β w' hs => by rw [← hx]; exact cell_bk (hs.get 0 rfl) (o := 4) rfl, ?_⟩
  refine BIf.dec (fun h => absurd h (show ¬ (4294967296 : Int) ≤ x by omega)) (fun _ => ?_)
  refine ⟨.int .u64 x, fun β w' hs => by rw [← hx]; exact cell_bk (hs.get 0 rfl) (o := 4) rfl, ?_⟩
  refine ⟨x1, by rw [wrap_u64']; omega, ?_⟩
  refine ⟨_, fun β w' hs => hs.bkSet 0 (o := 4) (us := [.int .u64 x1]) rfl (by show 5 ≤ 5; decide) (one_mem rfl), ?_⟩
  have hds := decS_size (u := r.epoch + 1) (by omega)
  have hks : keyS.size = 4 := rfl
  have hkl : (keyT (r.epoch + 1)).data.toList.length ≤ 10 := by show (keyS ++ decimS (r.epoch + 1)).size ≤ 10; rw [ByteArray.size_append]; omega
  refine draw_rule g p_ring_Ring_Rotate_6 (by kernel_rfl) [⟨0, ty_ptr_ring_Ring, [.v (ptrR r.b)]⟩] [bkF r.b ty_ring_Ring (putAll r.vs 4 [.int .u64 x1])] (subPerm [0]) ?_
  refine ⟨.map (some r.m), fun β w' hs => cell_bk (hs.get 0 rfl) (o := 3) rfl, ?_⟩
  refine ⟨.int .u64 x1, fun β w' hs => cell_bk (hs.get 0 rfl) (o := 4) rfl, ?_⟩
  refine ⟨.pointer (some ⟨r.bx, 0, none⟩), fun β w' hs => cell_bk (hs.get 0 rfl) (o := 0) rfl, ?_⟩
  refine ⟨.slice r.mA r.master.length r.mc, fun β w' hs => cell_bk (hs.get 0 rfl) (o := 1) rfl, ?_⟩
  refine ⟨.int .u64 x1, fun β w' hs => cell_bk (hs.get 0 rfl) (o := 4) rfl, ?_⟩
  refine call_pu (v := .string (decimS (r.epoch + 1))) (fun β w' hs => by rw [← hx1]; exact fmtU_c w' (r.epoch + 1) (by omega)) ?_
  refine ⟨subPerm [0], ?_⟩
  refine ⟨by show keyS.size + (decimS (r.epoch + 1)).size ≤ maxLen; omega, ?_⟩
  intro bb cb hcb _
  refine ⟨subPerm [1], ?_⟩
  intro br
  refine ⟨subPerm [2], ?_⟩
  refine call_con [6] (R := outL (bxF r.bx) (macB B r.master (keyT (r.epoch + 1)).data.toList)) (fun β w' hs => by
    have h2 := (((hs.rowRd 0 rfl).unown 1 rfl).ro 3 rfl).part1 (l := (keyT (r.epoch + 1)).data.toList) [0, 1] rfl
    exact macL_c w' r.bx B y r.mA r.master r.mc br (some ⟨bb, 0, none⟩) (keyT (r.epoch + 1)).data.toList cb hts hi (by omega) (by omega) (by omega) (h2.mem.take (js := [7, 0, 4, 8, 9]) rfl)) ?_
  rintro v Fs ⟨A, c, y1, rfl, q1, q2, hts1, rfl⟩
  refine ⟨subPerm [4], ?_⟩
  generalize macB B r.master (keyT (r.epoch + 1)).data.toList = k at *
  obtain ⟨kp, kB⟩ := k
  simp only at q1 hts1
  refine ⟨_, fun _ => _, fun β w' hs => hs.mapPutIY g 6 rfl (t := ty_map_uint64_sl_uint8) x1 (.slice A kp.length c), fun _ => ?_⟩
  refine ⟨subPerm [4], ?_⟩
  rw [show iput r.ml x1 (.slice A kp.length c) = (r.more A c kp).ml from by rw [iput_end (by rw [← hx1]; exact more_look hok)]; simp [Rg.ml, Rg.more, RKey.v, ← hx1]]
  have hx1' : x1 = ((r.more A c kp).epoch : Int) := hx1.symm
  have e1 : rgF (r.more A c kp) = sepF [bkF r.b ty_ring_Ring (putAll r.vs 4 [.int .u64 x1]), browF ty_uint8 r.mA r.master r.mc, mapIF .u64 r.m (r.more A c kp).ml, sepF (r.ks.map RKey.f ++ [browF ty_uint8 A kp c])] := by
    rw [hx1']
    unfold rgF
    simp [Rg.more, Rg.vs, putAll, putAt_eq, RKey.f]
  refine call_con [] (fun β w' hs => epochs_c w' (r.more A c kp)) ?_
  rintro v Fs ⟨bx2, rfl, rfl⟩
  refine range_rule (α := Int) (ι := Unit) (κ := Unit) g rfl (cv := [.pointer (some ⟨bx2, 0, none⟩)]) rfl (by kernel_rfl) 1 (Nat.le_refl 1)
    (fun pre _ => pre = []) (fun _ => [⟨0, ty_ptr_ring_Ring, [.v (ptrR r.b)]⟩]) (fun _ => [bxF r.bx kB y1]) (fun i => ⟨rfl, trivial⟩)
    (fun e _ _ => e = .exit 1) (fun _ => [⟨0, ty_ptr_ring_Ring, [.v (ptrR r.b)]⟩]) (fun _ => [rgF (r.more A c kp).cut, bxF r.bx kB y1]) (fun _ => ⟨rfl, rfl, trivial⟩)
    [bkF bx2 ty_ptr_ring_Ring [ptrR r.b], rgF (r.more A c kp)] [] [] ⟨rfl, rfl, trivial⟩ (fun g h => by cases h) () rfl
    (fun β w hs => ⟨β, Agr.refl _ _, by
      have h2 := hs.blur 1 8 (A := r.ks.map RKey.f) (B := []) (x := browF ty_uint8 A kp c) rfl (by show some (sepF (r.ks.map RKey.f)) = _; rw [List.append_nil]) rfl (by decide)
      have h3 := h2.sep [5, 6, 7, 0] rfl ⟨rfl, rfl, rfl, rfl, trivial⟩
      rw [e1]
      exact h3.perm [1, 0, 2]⟩) (insE (r.more A c kp) (r.more A c kp).rise)
    (fun xs Fs' => xs = (r.more A c kp).rise ∧ Fs' = onFst (r.more A c kp).rise [rgF (r.more A c kp)] []) (fun _ Fs' => Fs' = [])
    (fun l w f0 R J Jx hJ0 hJo hRo hY hm => (ep_it l w bx2 (r.more A c kp) f0 R J Jx (by have h1 := hok.len; have h2 := hok.room; show (r.ks ++ [_]).length ≤ 12; rw [List.length_append]; show r.ks.length + 1 ≤ 12; omega) hJ0 hJo hRo hY hm).mono fun _ Fs h => by
      obtain ⟨f, Fs', e0, h⟩ := h
      refine ⟨f, Fs', e0, ?_⟩
      rcases h with ⟨xs, a1, a2, a3⟩ | ⟨pre, a1, a2⟩
      · exact .inl ⟨xs, a1, a2, a3⟩
      · exact .inr ⟨pre, a1, a2⟩) ?_ ?_ ?_
  · rintro ⟨⟩ pre x args X W S' lb bs pn pn' hbs rfl ⟨rfl, rfl, hx0⟩
    refine ⟨_, rfl, ?_⟩
    obtain ⟨rm, hrm⟩ : ∃ rm : Int, (r.room : Int) = rm := ⟨_, rfl⟩
    refine draw_rule (rcx_good g) p_ring_Ring_Rotate_9 (by kernel_rfl) [⟨0, ty_ptr_ring_Ring, [.v (ptrR r.b)]⟩] [rgF (r.more A c kp)] (subPerm [0]) ?_
    refine ⟨.map (some r.m), fun β w' hs => cell_bk (rg_bk (hs.get 0 rfl)) (o := 3) rfl, ?_⟩
    refine ⟨(r.more A c kp).ml, fun β w' hs => rg_map (hs.get 0 rfl), ?_⟩
    refine ⟨.int .i64 rm, fun β w' hs => by rw [← hrm]; exact cell_bk (rg_bk (hs.get 0 rfl)) (o := 2) rfl, ?_⟩
    have hmll : (r.more A c kp).ml.length = (r.more A c kp).ks.length := by rw [Rg.ml, List.length_map]
    refine BIf.dec (fun hgt => ?_) (fun hle => ?_)
    · have hgt0 : rm < ((r.more A c kp).ml.length : Int) := hgt
      have hcut : (r.more A c kp).cut = { (r.more A c kp) with ks := (r.more A c kp).ks.tail } := by
        unfold Rg.cut
        rw [if_pos (by show r.room < _; omega)]
      refine ⟨.map (some r.m), fun β w' hs => cell_bk (rg_bk (hs.get 0 rfl)) (o := 3) rfl, ?_⟩
      obtain ⟨k0, t, hkt⟩ : ∃ k0 t, (r.more A c kp).ks = k0 :: t := by
        cases hq : (r.more A c kp).ks with
        | nil =>
          have h2 : (r.more A c kp).ks.length = r.ks.length + 1 := by show (r.ks ++ [_]).length = _; rw [List.length_append]; rfl
          rw [hq] at h2
          cases h2
        | cons k0 t => exact ⟨k0, t, rfl⟩
      have hxk : x = (k0.e : Int) := by
        rw [more_rise hok, Rg.es, hkt] at hx0
        exact (Option.some.inj hx0).symm
      have hdel : idel (r.more A c kp).ml x = (r.more A c kp).cut.ml := by
        rw [hcut, Rg.ml, Rg.ml, hkt, hxk]
        simp [idel]
      refine ⟨[⟨0, ty_ptr_ring_Ring, [.v (ptrR r.b)]⟩], [rgF (r.more A c kp).cut, bxF r.bx kB y1], .c (.v (.tuple #[])), fun β w' ty hs => ?_, trivial, ?_⟩
      · have h1 := Sat.unsep hs 0 rfl
        obtain ⟨w2, f1, f2⟩ := h1.mapDelI (rcx_good g) 2 rfl (t := ty_map_uint64_sl_uint8) (tk := ty_uint64) x ty _
        refine ⟨w2, f1, ?_⟩
        have h3 := f2.fuse [3] (sepF ((r.more A c kp).cut.ks.map RKey.f)) (fun w hm => by
          have h := hm.fact (sepF ((r.more A c kp).ks.map RKey.f)) List.mem_cons_self
          rw [hkt] at h
          rw [hcut, hkt]
          exact ⟨fun f hf => h.1 f (List.mem_cons_of_mem _ hf), (List.pairwise_cons.1 h.2).2⟩) (fun k hk => by
          refine ⟨sepF ((r.more A c kp).ks.map RKey.f), List.mem_cons_self, ?_⟩
          rw [hcut, hkt] at hk
          rw [hkt]
          obtain ⟨f, hf, hk⟩ := hk
          exact ⟨f, List.mem_cons_of_mem _ hf, hk⟩)
        have h4 := h3.sep [1, 2, 3, 0] rfl ⟨rfl, rfl, rfl, rfl, trivial⟩
        have e2 : rgF (r.more A c kp).cut = sepF [bkF (r.more A c kp).b ty_ring_Ring (r.more A c kp).vs, browF ty_uint8 (r.more A c kp).mA (r.more A c kp).master (r.more A c kp).mc, mapIF .u64 (r.more A c kp).m (idel (r.more A c kp).ml x), sepF ((r.more A c kp).cut.ks.map RKey.f)] := by
          rw [hdel]
          unfold rgF
          rw [hcut]
          rfl
        rw [e2]
        exact h4
      · exact ⟨(), rfl, Ent.mk' trivial rfl (fun β w hs => hs)⟩
    · have hle0 : ¬ rm < ((r.more A c kp).ml.length : Int) := hle
      have hcut : (r.more A c kp).cut = r.more A c kp := by
        unfold Rg.cut
        rw [if_neg (by show ¬ r.room < _; omega)]
      exact ⟨(), rfl, Ent.mk' trivial rfl (fun β w hs => by rw [hcut]; exact hs)⟩
  · rintro xs ⟨⟩ Fs rfl ⟨hxs, rfl⟩
    exfalso
    have h1 : (r.more A c kp).rise.length = (r.more A c kp).ks.length := by rw [Rg.rise, List.length_mergeSort, Rg.es, List.length_map]
    rw [← hxs] at h1
    have h2 : (r.more A c kp).ks.length = r.ks.length + 1 := by show (r.ks ++ [_]).length = _; rw [List.length_append]; rfl
    rw [h2] at h1
    cases h1
  · rintro e' pre ⟨⟩ Fs rfl rfl
    have hcb : (r.more A c kp).cut.b = r.b := by unfold Rg.cut; split <;> rfl
    have hcv : (r.more A c kp).cut.vs = (r.more A c kp).vs := by unfold Rg.cut; split <;> rfl
    refine ⟨.int .u64 x1, fun β w' hs => ?_, ?_⟩
    · have h := rg_bk (hs.get 0 rfl)
      rw [hcb, hcv] at h
      rw [← hx1]
      exact cell_bk h (o := 4) rfl
    intro β w' hs
    rw [← hx1] at *
    exact (hs.keepB (List.nil_sublist _)).fin [0, 1] ⟨A, c, y1, rfl, hts1, rfl⟩
theorem more_ok {r : Rg} (hok : RgOk r) (hep : r.epoch + 1 < 98) {A : Option Addr} {c : Nat} {p : List UInt8} : RgOk (r.more A c p).cut := by
  have h1 : ((r.ks ++ [(⟨r.epoch + 1, A, c, p⟩ : RKey)]).map (·.e)).Pairwise (· < ·) := by
    rw [List.map_append, List.pairwise_append]
    refine ⟨hok.rise, List.pairwise_singleton _ _, fun x hx y hy => ?_⟩
    obtain ⟨k, hk, rfl⟩ := List.mem_map.1 hx
    obtain rfl := List.mem_singleton.1 hy
    have := hok.le k hk
    show k.e < r.epoch + 1
    omega
  have h2 : ∀ k ∈ r.ks ++ [(⟨r.epoch + 1, A, c, p⟩ : RKey)], k.e ≤ r.epoch + 1 := by
    intro k hk
    rcases List.mem_append.1 hk with hk | hk
    · have := hok.le k hk
      omega
    · obtain rfl := List.mem_singleton.1 hk
      exact Nat.le_refl _
  have h3 : (r.ks ++ [(⟨r.epoch + 1, A, c, p⟩ : RKey)]).length = r.ks.length + 1 := by rw [List.length_append]; rfl
  have hl := hok.len
  unfold Rg.cut
  split
  · refine ⟨?_, fun k hk => h2 k (List.mem_of_mem_tail hk), ?_, hok.room, hok.master, hep⟩
    · show (((r.ks ++ [(⟨r.epoch + 1, A, c, p⟩ : RKey)]).tail).map (·.e)).Pairwise (· < ·)
      exact h1.sublist ((List.tail_sublist _).map _)
    · show ((r.ks ++ [(⟨r.epoch + 1, A, c, p⟩ : RKey)]).tail).length ≤ r.room
      rw [List.length_tail, h3]
      omega
  · rename_i hn
    have hn2 : ¬ r.room < (r.ks ++ [(⟨r.epoch + 1, A, c, p⟩ : RKey)]).length := hn
    exact ⟨h1, h2, by show (r.ks ++ [(⟨r.epoch + 1, A, c, p⟩ : RKey)]).length ≤ r.room; omega, hok.room, hok.master, hep⟩
def ring0 (b bx : Nat) (mA : Option Addr) (mc : Nat) (master : List UInt8) (room m : Nat) : Rg := ⟨b, bx, mA, mc, master, room, m, [], 0⟩
theorem newR_c (w : World) (bx : Nat) (B : Bx.Box) (y : Lay) (M : Option Addr) (master : List UInt8) (cM room : Nat) (h1 : 1 ≤ master.length) (h2 : master.length ≤ 64) (h3 : 1 ≤ room) (h4 : room ≤ 8) (hts : y.ts.map (·.1) = B.L) (hi : BInv B) (hL : B.L.length < 4000) (hm : Mem w [bxF bx B y, bsF M master, oddF 4, firstF 1]) :
    Con Tryz.prog n_ring_New #[ptrB bx, .slice M master.length cM, .int .i64 (room : Int)] w [bxF bx B y] fun v Fs => ∃ b mA mc m A c y', v = .tuple #[ptrR b, .int .i64 0] ∧ y'.ts.map (·.1) = (macB B master (keyT 1).data.toList).2.L ∧
      Fs = [rgF ((ring0 b bx mA mc master room m).more A c (macB B master (keyT 1).data.toList).1).cut, bxF bx (macB B master (keyT 1).data.toList).2 y'] := by
  have g := good_ring_New w (Un [bxF bx B y])
  have hml := maxLen_eq
  have hs0 : Sat (cx_ring_New w (Un [bxF bx B y])) Va.z 0 [] [bxF bx B y, bsF M master, oddF 4, firstF 1] w := hm.sat0 rfl (ownIn (Gs := [bxF bx B y]) (fun f hf => by
    simp only [List.mem_cons, List.not_mem_nil, or_false] at hf
    rcases hf with rfl | rfl | rfl <;> rfl))
  obtain ⟨rm, hrm⟩ : ∃ rm : Int, (room : Int) = rm := ⟨_, rfl⟩
  rw [hrm]
  refine con_of_tri (cx := cx_ring_New w (Un [bxF bx B y])) g b_ring_New rfl rfl (β := Va.z) [.c (.v (ptrB bx)), .c (.v (.slice M master.length cM)), .c (.v (.int .i64 rm))] 0 [] _ rfl rfl hs0 ?_
  refine tri_seq g ?_
  refine tri_seq g ?_
  refine BIf.dec (fun h => absurd h (show ¬ (master.length : Int) < 1 by omega)) (fun _ => ?_)
  refine BIf.dec (fun h => absurd h (show ¬ (64 : Int) < (master.length : Int) by omega)) (fun _ => ?_)
  refine BIf.dec (fun h => absurd h (show ¬ rm < 1 by omega)) (fun _ => ?_)
  refine BIf.dec (fun h => absurd h (show ¬ (8 : Int) < rm by omega)) (fun _ => ?_)
  refine tri_seq g ?_
  refine call_con [] (fun β w' hs => clone_c w' M master cM (hs.get 1 rfl) (by omega)) ?_
  rintro v Fs ⟨mA, mc, rfl, q1, q2, rfl⟩
  intro m
  refine reify_tri 0 (fun _ => [.pointer (some ⟨bx, 0, none⟩), .slice mA master.length mc, .int .i64 rm, .map (some m), .int .u64 0]) rfl rfl (fun _ => rfl) (fun rb => ?_)
  refine tri_sat (F' := [rgF (ring0 rb bx mA mc master room m), bxF bx B y, oddF 4, firstF 1]) (fun β w' hs => by
    have h1 := (hs.emptyI (kk := .u64) 1 rfl).noMem (sepF []) ⟨fun f hf => (by cases hf), List.Pairwise.nil⟩ (fun k hk => by obtain ⟨f, hf, _⟩ := hk; cases hf)
    have h2 := h1.sep [1, 3, 2, 0] rfl ⟨rfl, rfl, rfl, rfl, trivial⟩
    have e : rgF (ring0 rb bx mA mc master room m) = sepF [bkF rb ty_ring_Ring [.pointer (some ⟨bx, 0, none⟩), .slice mA master.length mc, .int .i64 rm, .map (some m), .int .u64 0], browF ty_uint8 mA master mc, mapIF .u64 m [], sepF []] := by
      rw [← hrm]
      rfl
    rw [e]
    exact h2.perm [0, 1, 3, 4]) ?_
  have hok : RgOk (ring0 rb bx mA mc master room m) := ⟨List.Pairwise.nil, fun k hk => (by cases hk), Nat.zero_le _, h4, h2, by show 0 < 98; decide⟩
  refine tri_seq g ?_
  refine call_con [0, 1] (fun β w' hs => rotate_c w' (ring0 rb bx mA mc master room m) B y hok hts hi hL (hs.mem.take (js := [0, 1, 2, 3]) rfl)) ?_
  rintro v Fs ⟨A, c, y', rfl, hts', rfl⟩
  refine tri_seq g ?_
  refine tri_of g ?_
  intro β w' hs
  exact (hs.keepB (List.nil_sublist _)).fin [0, 1] ⟨rb, mA, mc, m, A, c, y', rfl, hts', rfl⟩
def newestOut (r : Rg) (v : Value) (Fs : List Fact) : Prop := match r.key (r.epoch : Int) with
  | none => v = .tuple #[.int .u64 0, .slice none 0 0, .bool false] ∧ Fs = []
  | some k => ∃ A c, v = .tuple #[.int .u64 (r.epoch : Int), .slice A k.p.length c, .bool true] ∧ k.p.length ≤ c ∧ Fs = [browF ty_uint8 A k.p c]
theorem newest_c (w : World) (r : Rg) (h : (rgF r).p w) (hl : ∀ k, (rgF r).D k → k < w.heap.size) (hp : ∀ k ∈ r.ks, k.p.length ≤ 1000) : Con Tryz.prog n_ring_Ring_Newest #[ptrR r.b] w [] (newestOut r) := by
  have g := good_ring_Ring_Newest w (Un [])
  refine con_of_sx (cx := cx_ring_Ring_Newest w (Un [])) g b_ring_Ring_Newest rfl rfl (β := Va.z) [.c (.v (ptrR r.b))] 0 [] [oldF w] rfl rfl (old_sat rfl) ?_
  refine ⟨.int .u64 (r.epoch : Int), fun β w' hs => cell_bk (rg_bk (fact_oldR h hl (hs.get 0 rfl))) (o := 4) rfl, ?_⟩
  refine call_con [] (fun β w' hs => key_c w' r (r.epoch : Int) (fact_oldR h hl (hs.get 0 rfl)) (fun k hk => Nat.lt_of_lt_of_le (hl k hk) hs.chg.size) hp) ?_
  unfold newestOut
  cases hk : r.key (r.epoch : Int) with
  | none =>
    rintro v Fs ⟨rfl, rfl⟩
    intro β w' hs
    exact hs.fin [] ⟨rfl, rfl⟩
  | some k =>
    rintro v Fs ⟨A, c, rfl, hc, rfl⟩
    refine ⟨.int .u64 (r.epoch : Int), fun β w' hs => cell_bk (rg_bk (fact_oldR h hl (hs.get 1 rfl))) (o := 4) rfl, ?_⟩
    intro β w' hs
    exact hs.fin [0] ⟨A, c, rfl, hc, rfl⟩
def signOut (r : Rg) (B : Bx.Box) (l : List UInt8) (v : Value) (Fs : List Fact) : Prop := match r.key (r.epoch : Int) with
  | none => v = .tuple #[.int .u64 0, .slice none 0 0, .int .i64 15] ∧ ∃ y', y'.ts.map (·.1) = B.L ∧ Fs = [rgF r, bxF r.bx B y']
  | some k => ∃ A c y', v = .tuple #[.int .u64 (r.epoch : Int), .slice A (macB B k.p l).1.length c, .int .i64 0] ∧ (macB B k.p l).1.length ≤ c ∧ y'.ts.map (·.1) = (macB B k.p l).2.L ∧ Fs = [browF ty_uint8 A (macB B k.p l).1 c, rgF r, bxF r.bx (macB B k.p l).2 y']
def verOut (r : Rg) (B : Bx.Box) (e : Int) (s l : List UInt8) (v : Value) (Fs : List Fact) : Prop := match r.key e with
  | none => v = .int .i64 15 ∧ ∃ y', y'.ts.map (·.1) = B.L ∧ Fs = [rgF r, bxF r.bx B y']
  | some k => v = .int .i64 (if (macB B k.p l).1 = s then 0 else 13) ∧ ∃ y', y'.ts.map (·.1) = (macB B k.p l).2.L ∧ Fs = [rgF r, bxF r.bx (macB B k.p l).2 y']
def Rg.drop (r : Rg) (e : Int) : Rg := { r with ks := r.ks.eraseP fun k => decide ((k.e : Int) = e) }
end Go.Proofs.YtlhcgofdfhfegaaGreatDoor.Sx

namespace Go.Proofs.YtlhcgofdfhfegaaGreatDoor.Sx
open Go
structure Pre (B B' : Bx.Box) : Prop where
  sym : B'.sym = B.sym
  full : B'.full = B.full
  terms : ∃ l, B'.L = B.L ++ l
theorem Pre.refl (B : Bx.Box) : Pre B B := ⟨rfl, rfl, [], by simp⟩
theorem Pre.trans {A B C : Bx.Box} (h : Pre A B) (k : Pre B C) : Pre A C := by
  obtain ⟨l, hl⟩ := h.terms
  obtain ⟨m, hm⟩ := k.terms
  exact ⟨k.sym.trans h.sym, k.full.trans h.full, l ++ m, by rw [hm, hl, List.append_assoc]⟩
theorem place_app {t : Bx.Term} : ∀ {L : List Bx.Term} {i : Nat} (l : List Bx.Term), Bx.place t L = some i → Bx.place t (L ++ l) = some i
  | x :: r, i, l, h => by
    simp only [List.cons_append, Bx.place] at h ⊢
    split
    · rename_i q; rw [if_pos q] at h; exact h
    · rename_i q
      rw [if_neg q] at h
      obtain ⟨j, hj, rfl⟩ := Option.map_eq_some_iff.1 h
      rw [place_app l hj]
      rfl
theorem place_new {t : Bx.Term} : ∀ {L : List Bx.Term}, Bx.place t L = none → Bx.place t (L ++ [t]) = some L.length
  | [], _ => by simp [Bx.place]
  | x :: r, h => by
    simp only [List.cons_append, Bx.place] at h ⊢
    split
    · rename_i q; rw [if_pos q] at h; cases h
    · rename_i q
      rw [if_neg q] at h
      have h' : Bx.place t r = none := by simpa using h
      rw [place_new h']
      simp
theorem tag_pre {B : Bx.Box} (hl : B.L.length < 4096) (t : Bx.Term) : Pre B (B.tag t).2 := by
  unfold Bx.Box.tag
  cases Bx.place t B.L with
  | some i => exact Pre.refl B
  | none =>
    simp only
    rw [if_neg (by omega)]
    exact ⟨rfl, rfl, [t], rfl⟩
theorem tag_place {B : Bx.Box} (hl : B.L.length < 4096) (t : Bx.Term) : ∃ i, Bx.place t (B.tag t).2.L = some i ∧ (B.tag t).1 = Bx.handle (i + 1) := by
  unfold Bx.Box.tag
  cases h : Bx.place t B.L with
  | some i => exact ⟨i, h, rfl⟩
  | none =>
    simp only
    rw [if_neg (by omega)]
    exact ⟨B.L.length, place_new h, rfl⟩
theorem tag_again {B B' : Bx.Box} (hl : B.L.length < 4096) (t : Bx.Term) (h : Pre (B.tag t).2 B') : B'.tag t = ((B.tag t).1, B') := by
  obtain ⟨i, h1, h2⟩ := tag_place hl t
  obtain ⟨l, hl2⟩ := h.terms
  have h3 : Bx.place t B'.L = some i := by rw [hl2]; exact place_app l h1
  rw [h2]
  unfold Bx.Box.tag
  rw [h3]
noncomputable def opB (B : Bx.Box) (t : Bx.Term) (raw : List UInt8) : List UInt8 × Bx.Box := if B.sym then B.tag t else (raw, B)
theorem op_pre {B : Bx.Box} (hl : B.L.length < 4096) (t : Bx.Term) (raw : List UInt8) : Pre B (opB B t raw).2 := by
  unfold opB
  split
  · exact tag_pre hl t
  · exact Pre.refl B
theorem op_again {B B' : Bx.Box} (hl : B.L.length < 4096) (t : Bx.Term) (raw : List UInt8) (h : Pre (opB B t raw).2 B') : opB B' t raw = ((opB B t raw).1, B') := by
  cases hs : B.sym with
  | true =>
    have e : opB B t raw = B.tag t := by unfold opB; rw [hs]; rfl
    rw [e] at h ⊢
    have hs' : B'.sym = true := by rw [h.sym, (tag_pre hl t).sym, hs]
    unfold opB
    rw [hs', if_pos rfl]
    exact tag_again hl t h
  | false =>
    have e : opB B t raw = (raw, B) := by unfold opB; rw [hs]; rfl
    rw [e] at h ⊢
    have hs' : B'.sym = false := by rw [h.sym]; exact hs
    unfold opB
    rw [hs']
    rfl
theorem mac_pre {B : Bx.Box} (hl : B.L.length < 4096) (k t : List UInt8) : Pre B (macB B k t).2 := op_pre hl _ _
theorem mac_again {B B' : Bx.Box} (hl : B.L.length < 4096) (k t : List UInt8) (h : Pre (macB B k t).2 B') : macB B' k t = ((macB B k t).1, B') := op_again hl _ _ h
theorem opens_app {h : List UInt8} {r : List Nat × List UInt8} : ∀ (l : List Bx.Term) {B : Bx.Box}, B.opens h = some r → ({ B with L := B.L ++ l } : Bx.Box).opens h = some r
  | [], B, e => by rw [List.append_nil]; exact e
  | t :: l, B, e => by
    have h1 := opens_app l (opens_grow (t := t) e)
    simp only [List.append_assoc, List.cons_append, List.nil_append] at h1
    exact h1
theorem Pre.opens {B B' : Bx.Box} (h : Pre B B') {t : List UInt8} {r : List Nat × List UInt8} (e : B.opens t = some r) : B'.opens t = some r := by
  obtain ⟨l, hl⟩ := h.terms
  have h1 := opens_app l e
  have e2 : B' = { B with L := B.L ++ l } := by
    obtain ⟨s, f, L⟩ := B'
    have a := h.sym
    have b := h.full
    simp only at a b hl
    subst a b hl
    rfl
  rw [e2]
  exact h1
structure Kept (r : Rg) (k t : Nat) (k1 : List UInt8) : Prop where
  ok : RgOk r
  rm : r.room = k
  ep : r.epoch = t + 1
  p32 : ∀ q ∈ r.ks, q.p.length = 32
  lo : t < k → ∃ A c ks, r.ks = ⟨1, A, c, k1⟩ :: ks ∧ ks.length = t
  hi : k ≤ t → r.ks.length = k ∧ ∀ q ∈ r.ks, 1 < q.e
  eslo : t < k → r.ks.map (·.e) = List.range' 1 (t + 1)
  eshi : k ≤ t → r.ks.map (·.e) = List.range' (t + 2 - k) k
theorem Kept.p {r : Rg} {k t : Nat} {k1 : List UInt8} (h : Kept r k t k1) : ∀ q ∈ r.ks, q.p.length ≤ 1000 := fun q hq => by rw [h.p32 q hq]; decide
theorem kept_new {b bx : Nat} {mA : Option Addr} {mc : Nat} {master : List UInt8} {room m : Nat} {A : Option Addr} {c : Nat} {p : List UInt8} (h2 : master.length ≤ 64) (h3 : 1 ≤ room) (h4 : room ≤ 8) (hp : p.length = 32) : Kept ((ring0 b bx mA mc master room m).more A c p).cut room 0 p := by
  have hok : RgOk (ring0 b bx mA mc master room m) := ⟨List.Pairwise.nil, fun k hk => (by cases hk), Nat.zero_le _, h4, h2, by show 0 < 98; decide⟩
  have e : ((ring0 b bx mA mc master room m).more A c p).cut = (ring0 b bx mA mc master room m).more A c p := by
    unfold Rg.cut
    rw [if_neg]
    show ¬ room < 1
    omega
  refine ⟨more_ok hok (by show 0 + 1 < 98; decide), ?_, ?_, ?_, ?_, fun h => absurd h (by omega), fun _ => by rw [e]; rfl, fun h => absurd h (by omega)⟩
  · rw [e]; rfl
  · rw [e]; rfl
  · rw [e]
    intro q hq
    have hq' : q ∈ [(⟨1, A, c, p⟩ : RKey)] := hq
    obtain rfl := List.mem_singleton.1 hq'
    exact hp
  · intro _
    rw [e]
    exact ⟨A, c, [], rfl, rfl⟩
theorem cut_room (r : Rg) : r.cut.room = r.room := by unfold Rg.cut; split <;> rfl
theorem cut_epoch (r : Rg) : r.cut.epoch = r.epoch := by unfold Rg.cut; split <;> rfl
theorem cut_bx (r : Rg) : r.cut.bx = r.bx := by unfold Rg.cut; split <;> rfl
theorem cut_b (r : Rg) : r.cut.b = r.b := by unfold Rg.cut; split <;> rfl
theorem cut_master (r : Rg) : r.cut.master = r.master := by unfold Rg.cut; split <;> rfl
theorem cut_mem {r : Rg} {q : RKey} (h : q ∈ r.cut.ks) : q ∈ r.ks := by
  unfold Rg.cut at h
  split at h
  · exact List.mem_of_mem_tail h
  · exact h
theorem Kept.next {r : Rg} {k t : Nat} {k1 : List UInt8} (h : Kept r k t k1) (hk : 1 ≤ k) (ht : t < 90) {A : Option Addr} {c : Nat} {p : List UInt8} (hp : p.length = 32) : Kept (r.more A c p).cut k (t + 1) k1 := by
  have hrm := h.rm
  have hep := h.ep
  have hlen : (r.more A c p).ks.length = r.ks.length + 1 := by show (r.ks ++ [_]).length = _; rw [List.length_append]; rfl
  have hroom : (r.more A c p).room = k := hrm
  have hme : (r.more A c p).ks.map (·.e) = r.ks.map (·.e) ++ [t + 2] := by show (r.ks ++ [(⟨r.epoch + 1, A, c, p⟩ : RKey)]).map (·.e) = _; rw [List.map_append, hep]; rfl
  refine ⟨more_ok h.ok (by omega), by rw [cut_room]; exact hrm, by rw [cut_epoch]; show r.epoch + 1 = _; omega, ?_, ?_, ?_, ?_, ?_⟩
  · intro q hq
    have hq' : q ∈ r.ks ++ [(⟨r.epoch + 1, A, c, p⟩ : RKey)] := cut_mem hq
    rcases List.mem_append.1 hq' with hq' | hq'
    · exact h.p32 q hq'
    · obtain rfl := List.mem_singleton.1 hq'
      exact hp
  · intro hlt
    obtain ⟨A0, c0, ks, e, hl⟩ := h.lo (by omega)
    have hcut : (r.more A c p).cut = r.more A c p := by
      unfold Rg.cut
      rw [if_neg]
      rw [hlen, e, hroom, List.length_cons]
      omega
    rw [hcut]
    exact ⟨A0, c0, ks ++ [⟨r.epoch + 1, A, c, p⟩], by show r.ks ++ _ = _; rw [e]; rfl, by rw [List.length_append, hl]; rfl⟩
  · intro hge
    have hl : r.ks.length = k := by
      rcases Nat.lt_or_ge t k with hlt | hge2
      · obtain ⟨A0, c0, ks, e, hl⟩ := h.lo hlt
        rw [e, List.length_cons]
        omega
      · exact (h.hi hge2).1
    have hcut : (r.more A c p).cut = { r.more A c p with ks := (r.more A c p).ks.tail } := by
      unfold Rg.cut
      rw [if_pos (by rw [hlen, hroom]; omega)]
    rw [hcut]
    refine ⟨by show (r.more A c p).ks.tail.length = k; rw [List.length_tail, hlen]; omega, fun q hq => ?_⟩
    have hq' : q ∈ (r.ks ++ [(⟨r.epoch + 1, A, c, p⟩ : RKey)]).tail := hq
    have hrise := h.ok.rise
    have hr0 : r.ks ≠ [] := by intro e; rw [e] at hl; simp at hl; omega
    rw [List.tail_append_of_ne_nil hr0] at hq'
    rcases List.mem_append.1 hq' with hq' | hq'
    · rcases Nat.lt_or_ge t k with hlt | hge2
      · obtain ⟨A0, c0, ks, e, hl⟩ := h.lo hlt
        rw [e] at hq' hrise
        rw [List.map_cons, List.pairwise_cons] at hrise
        exact hrise.1 q.e (List.mem_map.2 ⟨q, hq', rfl⟩)
      · exact (h.hi hge2).2 q (List.mem_of_mem_tail hq')
    · obtain rfl := List.mem_singleton.1 hq'
      show 1 < r.epoch + 1
      omega
  · intro hlt
    obtain ⟨A0, c0, ks, e, hl⟩ := h.lo (by omega)
    have hcut : (r.more A c p).cut = r.more A c p := by
      unfold Rg.cut
      rw [if_neg]
      rw [hlen, e, hroom, List.length_cons]
      omega
    rw [hcut, hme, h.eslo (by omega), List.range'_concat (n := t + 1)]
    simp
    omega
  · intro hge
    have hl : r.ks.length = k := by
      rcases Nat.lt_or_ge t k with hlt | hge2
      · obtain ⟨A0, c0, ks, e, hl⟩ := h.lo hlt
        rw [e, List.length_cons]
        omega
      · exact (h.hi hge2).1
    have hcut : (r.more A c p).cut = { r.more A c p with ks := (r.more A c p).ks.tail } := by
      unfold Rg.cut
      rw [if_pos (by rw [hlen, hroom]; omega)]
    rw [hcut]
    show (r.more A c p).ks.tail.map (·.e) = _
    rw [List.map_tail, hme]
    obtain ⟨s, hs, e⟩ : ∃ s, s + k = t + 2 ∧ r.ks.map (·.e) = List.range' s k := by
      rcases Nat.lt_or_ge t k with hlt | hge2
      · obtain rfl : t + 1 = k := by omega
        exact ⟨1, by omega, h.eslo hlt⟩
      · exact ⟨t + 2 - k, by omega, h.eshi hge2⟩
    have e2 : List.range' s k ++ [t + 2] = List.range' s (k + 1) := by
      rw [List.range'_concat]
      simp
      omega
    rw [e, e2, List.range'_succ, List.tail_cons]
    congr 1
    omega
theorem drop_sub {r : Rg} {e : Int} {q : RKey} (h : q ∈ (r.drop e).ks) : q ∈ r.ks := List.mem_of_mem_eraseP h
theorem Kept.key {r : Rg} {k t : Nat} {k1 : List UInt8} (h : Kept r k t k1) (hlt : t < k) : ∃ q, r.key 1 = some q ∧ q.p = k1 := by
  obtain ⟨A, c, ks, e, _⟩ := h.lo hlt
  exact ⟨⟨1, A, c, k1⟩, by unfold Rg.key; rw [e]; rfl, rfl⟩
theorem Kept.gone {r : Rg} {k t : Nat} {k1 : List UInt8} (h : Kept r k t k1) (hge : k ≤ t) : r.key 1 = none := by
  unfold Rg.key
  refine List.find?_eq_none.2 fun q hq => ?_
  have := (h.hi hge).2 q hq
  simp
  omega
end Go.Proofs.YtlhcgofdfhfegaaGreatDoor.Sx

namespace Go.Proofs.YtlhcgofdfhfegaaGreatDoor.Sx
open Go
attribute [local irreducible] Calls
theorem macQ_c (w : World) (b : Nat) (B : Bx.Box) (y : Lay) (K : Option Addr) (key : List UInt8) (cK : Nat) (b0 : Nat) (ps : List Part) (n : Nat) (hn0 : ps.length = n) (hts : y.ts.map (·.1) = B.L) (hi : BInv B) (hL : B.L.length < 4096) (hk : key.length ≤ 1000000) (h0 : ps ≠ []) (hl : ps.length ≤ 1000) (hn : (partsT ps).length ≤ 1000000) (hm : Mem w [bxF b B y, partF (some ⟨b0, 0, none⟩) ps, bsF K key, oddF 4, firstF 1]) :
    Con Tryz.prog n_box_Box_Mac #[ptrB b, .slice K key.length cK, .slice (some ⟨b0, 0, none⟩) n n] w [bxF b B y] (outL (bxF b) (macB B key (partsT ps))) := by
  subst hn0
  exact (macP_c w b B y K key cK b0 ps ps.length hts (by omega) hk h0 (Nat.le_refl _) hl hn hm).mono fun v Fs h => boxOut_L (mac_good hi hL hk hn).2.1 h
theorem signP_c (w : World) (r : Rg) (B : Bx.Box) (y : Lay) (b0 : Nat) (ps : List Part) (n : Nat) (hn0 : ps.length = n) (h0 : ps ≠ []) (hpl : ps.length ≤ 1000) (hp : ∀ k ∈ r.ks, k.p.length ≤ 1000) (hln : (partsT ps).length ≤ 1000000) (hts : y.ts.map (·.1) = B.L) (hi : BInv B) (hL : B.L.length < 4000)
    (hm : Mem w [rgF r, bxF r.bx B y, partF (some ⟨b0, 0, none⟩) ps, oddF 4, firstF 1]) :
    Con Tryz.prog n_ring_Ring_Sign #[ptrR r.b, .slice (some ⟨b0, 0, none⟩) n n] w [rgF r, bxF r.bx B y] (signOut r B (partsT ps)) := by
  have g := good_ring_Ring_Sign w (Un [rgF r, bxF r.bx B y])
  have hs0 : Sat (cx_ring_Ring_Sign w (Un [rgF r, bxF r.bx B y])) Va.z 0 [] [rgF r, bxF r.bx B y, partF (some ⟨b0, 0, none⟩) ps, oddF 4, firstF 1] w := hm.sat0 rfl (ownIn (Gs := [rgF r, bxF r.bx B y]) (fun f hf => by
    simp only [List.mem_cons, List.not_mem_nil, or_false] at hf
    rcases hf with rfl | rfl | rfl <;> rfl))
  refine con_of_sx (cx := cx_ring_Ring_Sign w (Un [rgF r, bxF r.bx B y])) g b_ring_Ring_Sign rfl rfl (β := Va.z) [.c (.v (ptrR r.b)), .c (.v (.slice (some ⟨b0, 0, none⟩) n n))] 0 [] _ rfl rfl hs0 ?_
  refine call_con [] (fun β w' hs => newest_c w' r (hs.get 0 rfl) (hs.getLt 0 rfl) hp) ?_
  unfold newestOut signOut
  cases hk : r.key (r.epoch : Int) with
  | none =>
    rintro v Fs ⟨rfl, rfl⟩
    intro β w' hs
    exact hs.fin [0, 1] ⟨rfl, y, hts, rfl⟩
  | some k =>
    have hm2 : k ∈ r.ks := List.mem_of_find?_eq_some hk
    have hkl := hp k hm2
    rintro v Fs ⟨A, c, rfl, hc, rfl⟩
    refine ⟨.pointer (some ⟨r.bx, 0, none⟩), fun β w' hs => cell_bk (rg_bk (hs.get 1 rfl)) (o := 0) rfl, ?_⟩
    refine call_con [2] (R := outL (bxF r.bx) (macB B k.p (partsT ps))) (fun β w' hs => macQ_c w' r.bx B y A k.p c b0 ps n hn0 hts hi (by omega) (by omega) h0 hpl hln ((hs.ro 0 rfl).mem.take (js := [2, 3, 0, 4, 5]) rfl)) ?_
    rintro v Fs ⟨A2, c2, y2, rfl, q1, q2, hts2, rfl⟩
    intro β w' hs
    exact hs.fin [0, 3, 1] ⟨A2, c2, y2, rfl, q1, hts2, rfl⟩ rfl rfl rfl ⟨rfl, rfl, rfl, trivial⟩
theorem verifyP_c (w : World) (r : Rg) (B : Bx.Box) (y : Lay) (e : Int) (A0 : Option Addr) (s : List UInt8) (cs b0 : Nat) (ps : List Part) (n : Nat) (hn0 : ps.length = n) (h0 : ps ≠ []) (hpl : ps.length ≤ 1000) (hp : ∀ k ∈ r.ks, k.p.length ≤ 1000) (hln : (partsT ps).length ≤ 1000000) (hts : y.ts.map (·.1) = B.L) (hi : BInv B) (hL : B.L.length < 4000)
    (hm : Mem w [rgF r, bxF r.bx B y, partF (some ⟨b0, 0, none⟩) ps, bsF A0 s, oddF 4, firstF 1]) :
    Con Tryz.prog n_ring_Ring_Verify #[ptrR r.b, .int .u64 e, .slice A0 s.length cs, .slice (some ⟨b0, 0, none⟩) n n] w [rgF r, bxF r.bx B y] (verOut r B e s (partsT ps)) := by
  have g := good_ring_Ring_Verify w (Un [rgF r, bxF r.bx B y])
  have hs0 : Sat (cx_ring_Ring_Verify w (Un [rgF r, bxF r.bx B y])) Va.z 0 [] [rgF r, bxF r.bx B y, partF (some ⟨b0, 0, none⟩) ps, bsF A0 s, oddF 4, firstF 1] w := hm.sat0 rfl (ownIn (Gs := [rgF r, bxF r.bx B y]) (fun f hf => by
    simp only [List.mem_cons, List.not_mem_nil, or_false] at hf
    rcases hf with rfl | rfl | rfl | rfl <;> rfl))
  refine con_of_sx (cx := cx_ring_Ring_Verify w (Un [rgF r, bxF r.bx B y])) g b_ring_Ring_Verify rfl rfl (β := Va.z) [.c (.v (ptrR r.b)), .c (.v (.int .u64 e)), .c (.v (.slice A0 s.length cs)), .c (.v (.slice (some ⟨b0, 0, none⟩) n n))] 0 [] _ rfl rfl hs0 ?_
  refine call_con [] (fun β w' hs => key_c w' r e (hs.get 0 rfl) (hs.getLt 0 rfl) hp) ?_
  unfold verOut
  cases hk : r.key e with
  | none =>
    rintro v Fs ⟨rfl, rfl⟩
    intro β w' hs
    exact hs.fin [0, 1] ⟨rfl, y, hts, rfl⟩
  | some k =>
    have hm2 : k ∈ r.ks := List.mem_of_find?_eq_some hk
    have hkl := hp k hm2
    have hG := mac_good hi (by omega) (k := k.p) (t := partsT ps) (by omega) hln
    rintro v Fs ⟨A, c, rfl, hc, rfl⟩
    refine ⟨.pointer (some ⟨r.bx, 0, none⟩), fun β w' hs => cell_bk (rg_bk (hs.get 1 rfl)) (o := 0) rfl, ?_⟩
    refine call_con [2] (R := outL (bxF r.bx) (macB B k.p (partsT ps))) (fun β w' hs => macQ_c w' r.bx B y A k.p c b0 ps n hn0 hts hi (by omega) (by omega) h0 hpl hln ((hs.ro 0 rfl).mem.take (js := [2, 3, 0, 5, 6]) rfl)) ?_
    rintro v Fs ⟨A2, c2, y2, rfl, q1, q2, hts2, rfl⟩
    have hl32 := hG.2.1
    obtain ⟨bb, hbb⟩ : ∃ bb, decide ((macB B k.p (partsT ps)).1 = s) = bb := ⟨_, rfl⟩
    refine call_pu (v := .bool bb) (fun β w' hs => by rw [← hbb]; exact equal_c w' A2 A0 (macB B k.p (partsT ps)).1 s c2 cs (row_rd (hs.get 0 rfl)) (hs.get 5 rfl) (by omega)) ?_
    cases bb with
    | true =>
      have hq := of_decide_eq_true hbb
      intro β w' hs
      exact hs.fin [3, 1] ⟨by rw [if_pos hq]; rfl, y2, hts2, rfl⟩
    | false =>
      have hq := of_decide_eq_false hbb
      intro β w' hs
      exact hs.fin [3, 1] ⟨by rw [if_neg hq]; rfl, y2, hts2, rfl⟩
theorem signB_c (w : World) (bx : Nat) (r : Rg) (hb : r.bx = bx) (q : RKey) (hk : r.key (r.epoch : Int) = some q) (B : Bx.Box) (y : Lay) (b0 : Nat) (ps : List Part) (n : Nat) (hn0 : ps.length = n) (h0 : ps ≠ []) (hpl : ps.length ≤ 1000) (hp : ∀ k ∈ r.ks, k.p.length ≤ 1000) (hln : (partsT ps).length ≤ 1000000) (hts : y.ts.map (·.1) = B.L) (hi : BInv B) (hL : B.L.length < 4000)
    (hm : Mem w [rgF r, bxF bx B y, partF (some ⟨b0, 0, none⟩) ps, oddF 4, firstF 1]) :
    Con Tryz.prog n_ring_Ring_Sign #[ptrR r.b, .slice (some ⟨b0, 0, none⟩) n n] w [rgF r, bxF bx B y] fun v Fs => ∃ A c y', v = .tuple #[.int .u64 (r.epoch : Int), .slice A (macB B q.p (partsT ps)).1.length c, .int .i64 0] ∧ (macB B q.p (partsT ps)).1.length ≤ c ∧ y'.ts.map (·.1) = (macB B q.p (partsT ps)).2.L ∧ Fs = [browF ty_uint8 A (macB B q.p (partsT ps)).1 c, rgF r, bxF bx (macB B q.p (partsT ps)).2 y'] := by
  subst hb
  refine (signP_c w r B y b0 ps n hn0 h0 hpl hp hln hts hi hL hm).mono fun v Fs h => ?_
  unfold signOut at h
  rw [hk] at h
  exact h
theorem verB_c (w : World) (bx : Nat) (r : Rg) (hb : r.bx = bx) (e : Int) (q : RKey) (hk : r.key e = some q) (B : Bx.Box) (y : Lay) (A0 : Option Addr) (s : List UInt8) (cs b0 : Nat) (ps : List Part) (n : Nat) (code : Int) (hn0 : ps.length = n) (h0 : ps ≠ []) (hpl : ps.length ≤ 1000) (hp : ∀ k ∈ r.ks, k.p.length ≤ 1000) (hln : (partsT ps).length ≤ 1000000) (hts : y.ts.map (·.1) = B.L) (hi : BInv B) (hL : B.L.length < 4000)
    (hcode : (if (macB B q.p (partsT ps)).1 = s then 0 else 13) = code)
    (hm : Mem w [rgF r, bxF bx B y, partF (some ⟨b0, 0, none⟩) ps, bsF A0 s, oddF 4, firstF 1]) :
    Con Tryz.prog n_ring_Ring_Verify #[ptrR r.b, .int .u64 e, .slice A0 s.length cs, .slice (some ⟨b0, 0, none⟩) n n] w [rgF r, bxF bx B y] fun v Fs => v = .int .i64 code ∧ ∃ y', y'.ts.map (·.1) = (macB B q.p (partsT ps)).2.L ∧ Fs = [rgF r, bxF bx (macB B q.p (partsT ps)).2 y'] := by
  subst hb
  refine (verifyP_c w r B y e A0 s cs b0 ps n hn0 h0 hpl hp hln hts hi hL hm).mono fun v Fs h => ?_
  unfold verOut at h
  rw [← hcode]
  rw [hk] at h
  exact h
theorem verNo_c (w : World) (bx : Nat) (r : Rg) (hb : r.bx = bx) (e : Int) (hk : r.key e = none) (B : Bx.Box) (y : Lay) (A0 : Option Addr) (s : List UInt8) (cs b0 : Nat) (ps : List Part) (n : Nat) (hn0 : ps.length = n) (h0 : ps ≠ []) (hpl : ps.length ≤ 1000) (hp : ∀ k ∈ r.ks, k.p.length ≤ 1000) (hln : (partsT ps).length ≤ 1000000) (hts : y.ts.map (·.1) = B.L) (hi : BInv B) (hL : B.L.length < 4000)
    (hm : Mem w [rgF r, bxF bx B y, partF (some ⟨b0, 0, none⟩) ps, bsF A0 s, oddF 4, firstF 1]) :
    Con Tryz.prog n_ring_Ring_Verify #[ptrR r.b, .int .u64 e, .slice A0 s.length cs, .slice (some ⟨b0, 0, none⟩) n n] w [rgF r, bxF bx B y] fun v Fs => v = .int .i64 15 ∧ ∃ y', y'.ts.map (·.1) = B.L ∧ Fs = [rgF r, bxF bx B y'] := by
  subst hb
  refine (verifyP_c w r B y e A0 s cs b0 ps n hn0 h0 hpl hp hln hts hi hL hm).mono fun v Fs h => ?_
  unfold verOut at h
  rw [hk] at h
  exact h
theorem two_parts (A B : Option Addr) (l m : List UInt8) (c d : Nat) : partsT [(A, l, c), (B, m, d)] = l ++ m := by simp [partsT]
structure Dk where
  b : Nat
  rb : Nat
  life : Nat
  serial : Nat
  m1 : Nat
  m2 : Nat
  to : MLI
  rv : MLI
def Dk.vs (d : Dk) : List Value := [ptrR d.rb, .int .u64 (d.life : Int), .int .u64 (d.serial : Int), .map (some d.m1), .map (some d.m2)]
def dkF (d : Dk) : Fact := sepF [bkF d.b ty_ticket_Desk d.vs, mapIF .u64 d.m1 d.to, mapIF .u64 d.m2 d.rv]
def ptrD (b : Nat) : Value := .pointer (some ⟨b, 0, none⟩)
theorem dk_bk {d : Dk} {w : World} (h : (dkF d).p w) : (bkF d.b ty_ticket_Desk d.vs).p w := h.1 _ (by simp)
theorem dk_to {d : Dk} {w : World} (h : (dkF d).p w) : mapIP .u64 d.m1 d.to w := h.1 (mapIF .u64 d.m1 d.to) (by simp)
theorem dk_rv {d : Dk} {w : World} (h : (dkF d).p w) : mapIP .u64 d.m2 d.rv w := h.1 (mapIF .u64 d.m2 d.rv) (by simp)
theorem newDesk_c (w : World) (rb life : Nat) : Con Tryz.prog n_ticket_NewDesk #[ptrR rb, .int .u64 (life : Int)] w [] fun v Fs => (1 ≤ life ∧ life ≤ 1099511627776 ∧ ∃ b m1 m2, v = .tuple #[ptrD b, .int .i64 0] ∧ Fs = [dkF ⟨b, rb, life, 0, m1, m2, [], []⟩]) ∨ (¬ (1 ≤ life ∧ life ≤ 1099511627776) ∧ v = .tuple #[.pointer none, .int .i64 1] ∧ Fs = []) := by
  have g := good_ticket_NewDesk w (Un [])
  refine con_of_sx (cx := cx_ticket_NewDesk w (Un [])) g b_ticket_NewDesk rfl rfl (β := Va.z) [.c (.v (ptrR rb)), .c (.v (.int .u64 (life : Int)))] 0 [] [] rfl rfl (Sat.start rfl) ?_
  refine BIf.dec (fun h1 => ?_) (fun h1 => ?_)
  · have h10 : (life : Int) < 1 := h1
    intro β w' hs
    exact hs.fin [] (.inr ⟨by omega, rfl, rfl⟩)
  have h10 : ¬ (life : Int) < 1 := h1
  refine BIf.dec (fun h2 => ?_) (fun h2 => ?_)
  · have h20 : (life : Int) > 1099511627776 := h2
    intro β w' hs
    exact hs.fin [] (.inr ⟨by omega, rfl, rfl⟩)
  have h20 : ¬ (life : Int) > 1099511627776 := h2
  intro b1 b2 β w' hs
  have k1 := (((hs.emptyI (kk := .u64) 0 rfl).emptyI (kk := .u64) 1 rfl).ofBk).sep [0, 2, 1] rfl ⟨rfl, rfl, rfl, trivial⟩
  exact k1.fin [0] (.inl ⟨by omega, by omega, β 0, b1, b2, rfl, rfl⟩)
def revD (d : Dk) (s : Int) : Int × Dk := if ilook d.to s = none then (6, d) else if ilook d.rv s = none then (0, { d with rv := iput d.rv s (.bool true) }) else (10, d)
theorem zeroU64 (w : World) : (zeroValue ty_uint64).run Tryz.prog w = .ok (.int .u64 0) w := by kernel_rfl
theorem zeroBoo (w : World) : (zeroValue ty_bool).run Tryz.prog w = .ok (.bool false) w := by kernel_rfl
theorem tkRevoke_c (w : World) (d : Dk) (s : Nat) (hrv : ∀ v, ilook d.rv (s : Int) = some v → v = .bool true) (hm : Mem w [dkF d]) : Con Tryz.prog n_ticket_Desk_Revoke #[ptrD d.b, .int .u64 (s : Int)] w [dkF d] fun v Fs => v = .int .i64 (revD d s).1 ∧ Fs = [dkF (revD d s).2] := by
  have g := good_ticket_Desk_Revoke w (Un [dkF d])
  refine con_go (cx := cx_ticket_Desk_Revoke w (Un [dkF d])) g b_ticket_Desk_Revoke [.c (.v (ptrD d.b)), .c (.v (.int .u64 (s : Int)))] [] hm ?_
  refine ⟨.map (some d.m1), fun β w' hs => cell_bk (dk_bk (hs.get 0 rfl)) (o := 3) rfl, ?_⟩
  refine ⟨rfl, .int .u64 0, zeroU64, d.to, ilook d.to (s : Int), fun β w' hs => dk_to (hs.get 0 rfl), rfl, ?_⟩
  unfold revD
  cases h1 : ilook d.to (s : Int) with
  | none =>
    intro β w' hs
    exact hs.fin [0] ⟨rfl, rfl⟩
  | some v1 =>
  refine ⟨.map (some d.m2), fun β w' hs => cell_bk (dk_bk (hs.get 0 rfl)) (o := 4) rfl, ?_⟩
  refine ⟨rfl, .bool false, zeroBoo, d.rv, ilook d.rv (s : Int), fun β w' hs => dk_rv (hs.get 0 rfl), rfl, ?_⟩
  cases h2 : ilook d.rv (s : Int) with
  | some v2 =>
    obtain rfl := hrv v2 h2
    intro β w' hs
    exact hs.fin [0] ⟨rfl, rfl⟩
  | none =>
  refine ⟨.map (some d.m2), fun β w' hs => cell_bk (dk_bk (hs.get 0 rfl)) (o := 4) rfl, ?_⟩
  refine ⟨[], fun _ => [dkF { d with rv := iput d.rv (s : Int) (.bool true) }], fun β w' hs => ?_, fun _ => ?_⟩
  · obtain ⟨w2, f1, f2⟩ := (hs.unsep 0 rfl).mapPutI g 2 rfl (t := ty_map_uint64_bool) (s : Int) (.bool true)
    exact ⟨w2, 0, f1, f2.sep [0, 1, 2] rfl ⟨rfl, rfl, rfl, trivial⟩⟩
  · intro β w' hs
    exact hs.fin [0] ⟨rfl, rfl⟩
def labL : List UInt8 := [116, 105, 99, 107, 101, 116, 32]
def Tk.v (t : Tk) : Value := .agg t.cells.toArray
noncomputable def openT (ky : Int → Option (List UInt8)) (gone : Int → Bool) (B : Bx.Box) (s : List UInt8) (now : Nat) : Tk × Int × Bx.Box :=
  match splitT s with
  | (none, e) => (tk0, e, B)
  | (some (b, m), _) => match readT b with
    | none => (tk0, 4, B)
    | some t => match ky (t.epoch : Int) with
      | none => (tk0, 15, B)
      | some k => if (macB B k (labL ++ b)).1 = m then (if now < t.fro ∨ t.til ≤ now then (tk0, 9, (macB B k (labL ++ b)).2) else if gone (t.serial : Int) = true then (tk0, 16, (macB B k (labL ++ b)).2) else (t, 0, (macB B k (labL ++ b)).2)) else (tk0, 13, (macB B k (labL ++ b)).2)
def Rg.ky (r : Rg) (e : Int) : Option (List UInt8) := (r.key e).map (·.p)
def Dk.gone (d : Dk) (s : Int) : Bool := (ilook d.rv s).isSome
def opnOut (r : Rg) (d : Dk) (q : Tk × Int × Bx.Box) (v : Value) (Fs : List Fact) : Prop := ∃ y', y'.ts.map (·.1) = q.2.2.L ∧ v = .tuple #[q.1.v, .int .i64 q.2.1] ∧ Fs = [dkF d, rgF r, bxF r.bx q.2.2 y']
def q_opn_8 : Plan := .take 0 (.take 1 (.take 2 (.take 3 (.take 4 (.take 5 (.take 6 (.take 9 (.exec 7 (.exec 8 (.exec 10 (.exec 11 (.take 12 (.done)))))))))))))
theorem tkOpen_c (w : World) (d : Dk) (r : Rg) (B : Bx.Box) (y : Lay) (s : List UInt8) (now : Nat) (hL : s.length ≤ 100000) (hrb : d.rb = r.b) (hp : ∀ k ∈ r.ks, k.p.length ≤ 1000) (hts : y.ts.map (·.1) = B.L) (hi : BInv B) (hBL : B.L.length < 4000) (hrv : ∀ k v, ilook d.rv k = some v → v = .bool true) 
    (hm : Mem w [dkF d, rgF r, bxF r.bx B y, oddF 4, firstF 1, mlF, namF]) :
    Con Tryz.prog n_ticket_Desk_Open #[ptrD d.b, .string (mkS s), .int .u64 (now : Int)] w [dkF d, rgF r, bxF r.bx B y] (opnOut r d (openT r.ky d.gone B s now)) := by
  have g := good_ticket_Desk_Open w (Un [dkF d, rgF r, bxF r.bx B y])
  refine con_go (cx := cx_ticket_Desk_Open w (Un [dkF d, rgF r, bxF r.bx B y])) g b_ticket_Desk_Open [.c (.v (ptrD d.b)), .c (.v (.string (mkS s))), .c (.v (.int .u64 (now : Int)))] [oddF 4, firstF 1, mlF, namF] hm ?_
  refine call_con [] (fun β w' hs => tkSplit_c w' s (by omega) (hs.get 5 rfl)) ?_
  unfold openT
  rintro v Fs (⟨b, m, A, c, M, dm, hsp, hbl, hm32, rfl, hc, hdm, rfl⟩ | ⟨e, hsp, he, rfl, rfl⟩)
  rotate_left
  · rw [hsp]
    have he0 : ¬ e = 0 := by omega
    refine BIf.not (BIf.dec (fun q => absurd q he0) (fun _ => ?_))
    intro β w' hs
    exact (hs.keepB (List.nil_sublist _)).fin [0, 1, 2] ⟨y, hts, rfl, rfl⟩ rfl rfl rfl ⟨rfl, rfl, rfl, trivial⟩
  rw [hsp]
  refine call_con [] (fun β w' hs => tkRead_c w' A b c hc (namF_T (hs.get 8 rfl)) (row_rd (hs.get 0 rfl))) ?_
  rintro v Fs ⟨⟨t, hrd, hok, rfl⟩ | ⟨hrd, rfl⟩, rfl⟩
  rotate_left
  · simp only [hrd]
    intro β w' hs
    exact (hs.keepB (List.nil_sublist _)).fin [2, 3, 4] ⟨y, hts, rfl, rfl⟩ rfl rfl rfl ⟨rfl, rfl, rfl, trivial⟩
  simp only [hrd]
  refine draw_rule g q_opn_8 (by kernel_rfl) [⟨1, ty_ticket_Ticket, t.cells.map SL.v⟩, ⟨0, ty_ticket_Ticket, tk0.cells.map SL.v⟩] [dkF d] (subPerm [2]) ?_
  refine ⟨ptrR d.rb, fun β w' hs => cell_bk (dk_bk (hs.get 0 rfl)) (o := 0) rfl, ?_⟩
  intro b1
  refine ⟨subPerm [3], ?_⟩
  refine ⟨0, labL.map byte, rfl, ?_⟩
  refine ⟨subPerm [3], ?_⟩
  intro b2
  refine ⟨subPerm [4], ?_⟩
  have hkk : r.ky (t.epoch : Int) = (r.key (t.epoch : Int)).map (·.p) := rfl
  rw [hkk]
  have hlb : (labL ++ b).length ≤ 1000000 := by rw [List.length_append]; show 7 + _ ≤ _; omega
  cases hk : r.key (t.epoch : Int) with
  | none =>
    refine call_con [5, 6] (fun β w' hs => by
      have h := (((hs.rowRd 0 rfl).rowRd 2 rfl).rowRd 3 rfl).part2 (P := some ⟨b2, 0, none⟩) (A := some ⟨b1, 0, none⟩) (l := labL) (c := 7) (B := A) (m := b) (d := c) [0, 1, 2] rfl
      have h2 := verNo_c w' r.bx r rfl (t.epoch : Int) hk B y M m dm b2 [(some ⟨b1, 0, none⟩, labL, 7), (A, b, c)] 2 rfl (by simp) (by show 2 ≤ 1000; decide) hp (by rw [two_parts]; exact hlb) hts hi (by omega) (h.mem.take (js := [6, 7, 0, 4, 8, 9]) rfl)
      rw [← hrb] at h2
      exact h2) ?_
    rintro v Fs ⟨rfl, y2, hy2, rfl⟩
    refine ⟨subPerm [6], ?_⟩
    intro β w' hs
    exact (hs.keepB (List.nil_sublist _)).fin [6, 0, 1] ⟨y2, hy2, rfl, rfl⟩ rfl rfl rfl ⟨rfl, rfl, rfl, trivial⟩
  | some k =>
  have hop : Option.map (fun x : RKey => x.p) (some k) = some k.p := rfl
  rw [hop]
  simp only
  by_cases hq : (macB B k.p (labL ++ b)).1 = m
  · rw [if_pos hq]
    refine call_con [5, 6] (fun β w' hs => by
      have h := (((hs.rowRd 0 rfl).rowRd 2 rfl).rowRd 3 rfl).part2 (P := some ⟨b2, 0, none⟩) (A := some ⟨b1, 0, none⟩) (l := labL) (c := 7) (B := A) (m := b) (d := c) [0, 1, 2] rfl
      have h2 := verB_c w' r.bx r rfl (t.epoch : Int) k hk B y M m dm b2 [(some ⟨b1, 0, none⟩, labL, 7), (A, b, c)] 2 0 rfl (by simp) (by show 2 ≤ 1000; decide) hp (by rw [two_parts]; exact hlb) hts hi (by omega) (by rw [two_parts]; exact if_pos hq) (h.mem.take (js := [6, 7, 0, 4, 8, 9]) rfl)
      rw [← hrb, two_parts] at h2
      exact h2) ?_
    rintro v Fs ⟨rfl, y2, hy2, rfl⟩
    refine ⟨subPerm [6], ?_⟩
    refine BIf.dec (fun h1 => ?_) (fun h1 => ?_)
    · have h10 : (now : Int) < (t.fro : Int) := h1
      rw [if_pos (.inl (by omega))]
      intro β w' hs
      exact (hs.keepB (List.nil_sublist _)).fin [6, 0, 1] ⟨y2, hy2, rfl, rfl⟩ rfl rfl rfl ⟨rfl, rfl, rfl, trivial⟩
    have h10 : ¬ (now : Int) < (t.fro : Int) := h1
    refine BIf.dec (fun h2 => ?_) (fun h2 => ?_)
    · have h20 : (now : Int) ≥ (t.til : Int) := h2
      rw [if_pos (.inr (by omega))]
      intro β w' hs
      exact (hs.keepB (List.nil_sublist _)).fin [6, 0, 1] ⟨y2, hy2, rfl, rfl⟩ rfl rfl rfl ⟨rfl, rfl, rfl, trivial⟩
    have h20 : ¬ (now : Int) ≥ (t.til : Int) := h2
    rw [if_neg (by omega)]
    refine draw_rule g p_ticket_Desk_Open_13 (by kernel_rfl) [⟨1, ty_ticket_Ticket, t.cells.map SL.v⟩, ⟨0, ty_ticket_Ticket, tk0.cells.map SL.v⟩] [dkF d] (subPerm [6]) ?_
    refine ⟨.map (some d.m2), fun β w' hs => cell_bk (dk_bk (hs.get 0 rfl)) (o := 4) rfl, ?_⟩
    refine ⟨rfl, .bool false, zeroBoo, d.rv, ilook d.rv (t.serial : Int), fun β w' hs => dk_rv (hs.get 0 rfl), rfl, ?_⟩
    unfold Dk.gone
    cases h3 : ilook d.rv (t.serial : Int) with
    | some v2 =>
      obtain rfl := hrv _ v2 h3
      intro β w' hs
      exact (hs.keepB (List.nil_sublist _)).fin [6, 0, 1] ⟨y2, hy2, rfl, rfl⟩ rfl rfl rfl ⟨rfl, rfl, rfl, trivial⟩
    | none =>
      intro β w' hs
      exact (hs.keepB (List.nil_sublist _)).fin [6, 0, 1] ⟨y2, hy2, rfl, rfl⟩ rfl rfl rfl ⟨rfl, rfl, rfl, trivial⟩
  · rw [if_neg hq]
    refine call_con [5, 6] (fun β w' hs => by
      have h := (((hs.rowRd 0 rfl).rowRd 2 rfl).rowRd 3 rfl).part2 (P := some ⟨b2, 0, none⟩) (A := some ⟨b1, 0, none⟩) (l := labL) (c := 7) (B := A) (m := b) (d := c) [0, 1, 2] rfl
      have h2 := verB_c w' r.bx r rfl (t.epoch : Int) k hk B y M m dm b2 [(some ⟨b1, 0, none⟩, labL, 7), (A, b, c)] 2 13 rfl (by simp) (by show 2 ≤ 1000; decide) hp (by rw [two_parts]; exact hlb) hts hi (by omega) (by rw [two_parts]; exact if_neg hq) (h.mem.take (js := [6, 7, 0, 4, 8, 9]) rfl)
      rw [← hrb, two_parts] at h2
      exact h2) ?_
    rintro v Fs ⟨rfl, y2, hy2, rfl⟩
    refine ⟨subPerm [6], ?_⟩
    intro β w' hs
    exact (hs.keepB (List.nil_sublist _)).fin [6, 0, 1] ⟨y2, hy2, rfl, rfl⟩ rfl rfl rfl ⟨rfl, rfl, rfl, trivial⟩
def insTri (A : Option Addr) (p : List UInt8) (pre : List (List UInt8)) (x : List UInt8) (args : Array Value) (X : Fact) : Prop := ∃ A', args = #[.slice A' x.length x.length] ∧ X = noF ∧ Lies A A' p x ∧ (triL p)[pre.length]? = some x
def triEnd (L : List (List UInt8)) (J Jx : List (List UInt8) → Fact → Prop) (Fs : List Fact) : Prop :=
  ∃ f Fs', Fs = f :: Fs' ∧ ((∃ xs, J xs f ∧ xs = L ∧ Fs' = []) ∨ (∃ pre, Jx pre f ∧ Fs' = []))
theorem tri_it (l : Nat) (w : World) (bs : Nat) (A : Option Addr) (p : List UInt8) (c : Nat) (hc : p.length ≤ c) (hL : p.length ≤ 1000000) (f0 R : Fact) (J Jx : List (List UInt8) → Fact → Prop) (hJ0 : J [] f0) (hJo : ∀ pre f, J pre f → f.own = true) (hRo : R.own = false) (hY : Yc Tryz.prog l J Jx R (insTri A p))
    (hm : Mem w (f0 :: R :: [bkF bs ty_sl_uint8 [.slice A p.length c]])) :
    Con Tryz.prog n_b64_triples_1 #[.func (.yield l) #[] #[], .pointer (some ⟨bs, 0, none⟩)] w [f0, bkF bs ty_sl_uint8 [.slice A p.length c]] (fun _ Fs => triEnd (triL p) J Jx Fs) := by
  have g := good_b64_triples_1 w (Un [f0, bkF bs ty_sl_uint8 [.slice A p.length c]]) [bs]
  have hs0 : Sat (cx_b64_triples_1 w (Un [f0, bkF bs ty_sl_uint8 [.slice A p.length c]]) [bs]) (Va.of fun i => [bs].getD i 0) 1 [] (f0 :: R :: [bkF bs ty_sl_uint8 [.slice A p.length c]]) w := by
    refine hm.sat rfl (fun f hf ho k hk => ?_) ⟨Nat.le_refl 1, fun i _ => rfl⟩
    simp only [List.mem_cons, List.not_mem_nil, or_false] at hf
    rcases hf with rfl | rfl | rfl
    · exact ⟨_, by simp, hk⟩
    · rw [hRo] at ho; cases ho
    · exact ⟨bkF bs ty_sl_uint8 [.slice A p.length c], by simp, hk⟩
  have hs1 := hs0.toBk 2 rfl 0 (by decide) rfl
  refine con_of_sx (cx := cx_b64_triples_1 w (Un [f0, bkF bs ty_sl_uint8 [.slice A p.length c]]) [bs]) g b_b64_triples_1 rfl rfl (β := Va.of fun i => [bs].getD i 0) [.c (.v (.func (.yield l) #[] #[])), .c (.p 0 0)] 1 _ _ rfl rfl hs1 ?_
  refine loop_rule (ι := (List UInt8 × Option Addr × Nat) × List (List UInt8) × Fact) 1 (fun i => [(0, .c (.v (.func (.yield l) #[] #[]))), (1, .c (.p 0 0))]) (fun i => [⟨0, ty_sl_uint8, [.v (.slice i.1.2.1 i.1.1.length i.1.2.2)]⟩]) (fun i => [i.2.2, R])
    (fun i => J i.2.1 i.2.2 ∧ triL p = i.2.1 ++ triL i.1.1 ∧ Lies A i.1.2.1 p i.1.1 ∧ i.1.1.length ≤ i.1.2.2 ∧ i.1.1.length ≤ 1000000) (fun i => i.1.1.length) ((p, A, c), [], f0) ⟨hJ0, rfl, Lies.refl A p, hc, hL⟩ (Ent.mk' ⟨rfl, rfl, trivial⟩ rfl (fun β w' hs => hs)) g ?_
  rintro ⟨⟨r, B, d⟩, pre, f⟩ ⟨hJ, hpre, hin, hrd, hrl⟩
  simp only at hJ hpre hin hrd hrl
  have hfo := hJo _ _ hJ
  simp only
  by_cases hr : r = []
  · subst hr
    rw [show triL [] = [] from rfl, List.append_nil] at hpre
    intro β w' hs
    exact (hs.keepB (List.nil_sublist _)).fin [0] ⟨f, _, rfl, .inl ⟨pre, hJ, hpre.symm, rfl⟩⟩ rfl rfl rfl ⟨hfo, trivial⟩
  have hr0 : 0 < r.length := List.length_pos_iff.2 hr
  obtain ⟨m, hm⟩ : ∃ m : Nat, m = min r.length 3 := ⟨_, rfl⟩
  have hmt : r.take m = r.take 3 := by
    rcases Nat.le_total r.length 3 with h | h
    · rw [hm, Nat.min_eq_left h, List.take_length, List.take_of_length_le h]
    · rw [hm, Nat.min_eq_right h]
  have hmd : r.drop m = r.drop 3 := by
    rcases Nat.le_total r.length 3 with h | h
    · rw [hm, Nat.min_eq_left h, List.drop_length, List.drop_of_length_le h]
    · rw [hm, Nat.min_eq_right h]
  have hml : (r.take 3).length = m := by rw [← hmt, List.length_take]; omega
  have hdl : (r.drop 3).length = r.length - m := by rw [← hmd, List.length_drop]
  refine BIf.dec (fun _ => ?_) (fun h => absurd (show (0 : Int) < (r.length : Int) by omega) h)
  refine ⟨(m : Int), by show min _ _ = _; omega, ?_⟩
  refine ⟨m, m, 0, m, m, B, rfl, rfl, rfl, by omega, by omega, Nat.zero_le _, rfl, rfl, cutZ, ?_⟩
  have hLx : (triL p)[pre.length]? = some (r.take 3) := by
    rw [hpre, tri_next hr, List.getElem?_append_right (Nat.le_refl _), Nat.sub_self]
    rfl
  refine yield_ro (X := noF) (x := r.take 3) hY 0 1 rfl hJ hfo rfl hRo (by decide) (fun β => ⟨B, by rw [hml]; rfl, rfl, hin.trans (hmt ▸ Lies.take B r m), hLx⟩) rfl (fun β w _ => ⟨trivial, fun k hk => hk.elim, fun k _ h => h.elim⟩) ?_ ?_
  · intro f2 hfo2 hJ2
    refine ⟨d, r.length, m, r.length - m, d - m, _, rfl, rfl, rfl, by omega, by omega, by omega, rfl, rfl, rfl, ?_⟩
    refine ⟨((r.drop 3, cutA B d m 1, d - m), pre ++ [r.take 3], f2), ⟨hJ2, ?_, hin.trans (hmd ▸ Lies.drop hrd (by omega)), by show (r.drop 3).length ≤ d - m; omega, by show (r.drop 3).length ≤ _; omega⟩, by show (r.drop 3).length < r.length; omega, ?_⟩
    · show triL p = (pre ++ [r.take 3]) ++ triL (r.drop 3)
      rw [hpre, tri_next hr, List.append_assoc]
      rfl
    · simp only [hdl]
      exact Ent.mk' ⟨rfl, rfl, trivial⟩ rfl (fun β w' hs => hs.perm [0, 1])
  · intro f2 hfo2 hJ2 β w' hs
    exact (hs.keepB (List.nil_sublist _)).fin [0] ⟨f2, _, rfl, .inr ⟨_, hJ2, rfl⟩⟩ rfl rfl rfl ⟨hfo2, trivial⟩
theorem triples_c (w : World) (A : Option Addr) (n c : Nat) : Con Tryz.prog n_b64_triples #[.slice A n c] w [] (fun v Fs => ∃ bs, v = .func (.func n_b64_triples_1) #[] #[.pointer (some ⟨bs, 0, none⟩)] ∧ Fs = [bkF bs ty_sl_uint8 [.slice A n c]]) := by
  refine con_of_sx (cx := cx_b64_triples w (Un [])) (good_b64_triples w (Un [])) b_b64_triples rfl rfl (β := Va.z) [.c (.v (.slice A n c))] 0 [] [] rfl rfl (Sat.start rfl) ?_
  intro β w' hs
  exact hs.ofBk.fin [0] ⟨β 0, rfl, rfl⟩
theorem sizeB : (Tryz.prog.info? ty_strings_Builder).map (·.size) = some 2 := by kernel_rfl
theorem liesB : liesAt Tryz.prog Tryz.prog.depth ty_strings_Builder (2 / Tryz.prog.cellsOf ty_strings_Builder) 0 ty_strings_Builder 1 = true := by kernel_rfl
set_option maxHeartbeats 1000000 in
set_option maxRecDepth 100000 in
theorem cck_used (b : Nat) (w : World) (h0 : w.cell? ⟨b, 0, none⟩ = some (.pointer (some ⟨b, 0, none⟩))) :
    Calls Tryz.prog 140 #[.pointer (some ⟨b, 0, none⟩)] w fun e w' => e = .returned (.tuple #[]) ∧ w' = w := by
  obtain ⟨j, hj, _⟩ := Option.map_eq_some_iff.1 sizeB
  have t70 := Tryz.underlying182
  go_enter Tryz.func140, Tryz.ntmps140
  go_wp2
  rw [Lib.run_neq_ptr_same w _ t70 hj]
  go_wp2
  go_end0
  exact ⟨rfl, rfl⟩
set_option maxHeartbeats 1000000 in
set_option maxRecDepth 100000 in
theorem cck_fresh (b : Nat) (w : World) (h0 : w.cell? ⟨b, 0, none⟩ = some (.pointer none)) (hsh : w.shape? b = some (ty_strings_Builder, 2)) (hfz : w.frozen? ⟨b, 0, none⟩ = false) :
    Calls Tryz.prog 140 #[.pointer (some ⟨b, 0, none⟩)] w fun e w' => e = .returned (.tuple #[]) ∧ w' = w.setCell ⟨b, 0, none⟩ (.pointer (some ⟨b, 0, none⟩)) := by
  obtain ⟨j, hj, hjs⟩ := Option.map_eq_some_iff.1 sizeB
  have t70 := Tryz.underlying182
  have t164 := Tryz.underlying252
  go_enter Tryz.func140, Tryz.ntmps140
  go_wp2
  rw [Lib.run_to_unsafe w ⟨b, 0, none⟩ t70 t164 hj (by rw [hjs]; decide) hsh (Nat.zero_lt_succ 1)]
  simp only [Result.andThen]
  rw [Oper.upon_value]
  go_wp2
  rw [run_callFunc_extern Tryz.func176 (by kernel_rfl) (by kernel_rfl) (by kernel_rfl) (e := Extern.AbiNoEscape.same) (by kernel_rfl)]
  rw [Lib.run_noEscape]
  simp only [Result.andThen]
  rw [Oper.upon_value]
  go_wp2
  rw [Lib.run_from_unsafe w ⟨b, 0, none⟩ t164 t70 hj hsh liesB]
  simp only [Result.andThen]
  rw [Oper.upon_value]
  go_wp2
  go_end0
  exact ⟨rfl, rfl⟩
theorem copyCheckW_c (w : World) (b : Nat) (p x : Value) (hp : p = .pointer none ∨ p = selfV b) (h : (bkF b ty_strings_Builder [p, x]).p w) :
    Con Tryz.prog n_strings_Builder_copyCheck #[selfV b] w [bkF b ty_strings_Builder [p, x]] fun v Fs => v = .tuple #[] ∧ Fs = [bkF b ty_strings_Builder [selfV b, x]] := by
  have hb : w.heap[b]? = some (.cells #[p, x] ty_strings_Builder (0, 0)) := h
  have hlt : b < w.heap.size := (Array.getElem?_eq_some_iff.1 hb).1
  have h0 : w.cell? ⟨b, 0, none⟩ = some p := by rw [cell_of_row w b 0 _ _ _ hb]; rfl
  rcases hp with rfl | rfl
  · refine con_of_calls (Calls.mono (cck_fresh b w h0 (by simp [World.shape?, hb]) (by simp [World.frozen?, hb])) ?_)
    rintro e w' ⟨rfl, rfl⟩
    have h2 := heap_setCell_same w b 0 #[.pointer none, x] ty_strings_Builder (selfV b) hb
    refine ⟨_, rfl, fin_one (f' := bkF b ty_strings_Builder [selfV b, x]) ⟨rfl, rfl⟩ ⟨rfl, rfl, rfl, by simp [World.setCell], fun k _ hk => heap_setCell_other w _ k _ hk⟩ h2 rfl (fun k hk => ⟨hk, ?_⟩)⟩
    obtain rfl : k = b := hk
    simpa [World.setCell] using hlt
  · refine con_of_calls (Calls.mono (cck_used b w h0) ?_)
    rintro e w' ⟨rfl, rfl⟩
    refine ⟨_, rfl, fin_one (f' := bkF b ty_strings_Builder [selfV b, x]) ⟨rfl, rfl⟩ (Chg.refl _ _) h rfl (fun k hk => ⟨hk, ?_⟩)⟩
    obtain rfl : k = b := hk
    exact hlt
theorem bWrite_c (w : World) (b : Nat) (p : Value) (A : Option Addr) (l : List UInt8) (c : Nat) (X : Option Addr) (xs : List UInt8) (cX : Nat) (hp : p = .pointer none ∨ p = selfV b) (hl : l.length ≤ 10000000) (hx : xs.length ≤ 10000000) (hm : Mem w (bldF b p A l c ++ [bsF X xs])) :
    Con Tryz.prog n_strings_Builder_Write #[selfV b, .slice X xs.length cX] w (bldF b p A l c) fun v Fs => v = .tuple #[.int .i64 (xs.length : Int), .nilIface] ∧ ∃ A' c', Fs = bldF b (selfV b) A' (l ++ xs) c' := by
  have g := good_strings_Builder_Write w (Un (bldF b p A l c))
  have hml := maxLen_eq
  refine con_go (cx := cx_strings_Builder_Write w (Un (bldF b p A l c))) g b_strings_Builder_Write [.c (.v (selfV b)), .c (.v (.slice X xs.length cX))] [bsF X xs] hm ?_
  refine call_con [0] (fun β w' hs => copyCheckW_c w' b p _ hp (hs.get 0 rfl)) ?_
  rintro v Fs ⟨rfl, rfl⟩
  refine ⟨.slice A l.length c, fun β w' hs => cell_bk (hs.get 0 rfl) (o := 1) rfl, ?_⟩
  refine ⟨1, l.length, (l ++ xs).length, l.map byte, xs.map byte, (l ++ xs).map byte, rfl, fun β w' hs => hs.get 2 rfl, bytes_one xs, by rw [List.length_append], by rw [List.map_append], by rw [List.length_append]; omega, by rw [List.length_append]; show _ * 1 ≤ _; omega, ?_⟩
  intro A' c' _ _ _
  refine ⟨_, fun β w' hs => hs.bkSet 0 (o := 1) (us := [.slice A' (l ++ xs).length c']) rfl (by show 2 ≤ 2; decide) (one_mem rfl), ?_⟩
  intro β w' hs
  exact hs.fin [0, 1] ⟨rfl, A', c', rfl⟩
structure BdS where
  v : Value
  A : Option Addr
  l : List UInt8
  c : Nat
theorem tri_count : ∀ p : List UInt8, (triL p).length ≤ p.length
  | [] => Nat.le_refl _
  | [_] => Nat.le_refl _
  | [_, _] => by simp [triL]
  | a :: b :: c :: r => by
    have := tri_count r
    simp only [triL, List.length_cons]
    omega
structure BdS.Ok (i : BdS) (b : Nat) (url : Bool) (p : List UInt8) (pre : List (List UInt8)) : Prop where
  eq : pre = (triL p).take pre.length
  l : i.l = pre.flatMap (b64L url)
  n : i.l.length ≤ 4 * pre.length
  v : i.v = .pointer none ∨ i.v = selfV b
theorem b64all_c (w : World) (al : ByteArray) (url : Bool) (hal : AlphE al url) (A : Option Addr) (p : List UInt8) (c : Nat) (h0 : p ≠ []) (hc : p.length ≤ c) (hL : p.length ≤ 1000000) (hm : Mem w [bsF A p]) :
    Con Tryz.prog n_b64_all #[.string al, .slice A p.length c, .bool false] w [] fun v Fs => v = .string (mkS (b64L url p)) ∧ Fs = [] := by
  have g := good_b64_all w (Un [])
  have hml := maxLen_eq
  refine con_go (cx := cx_b64_all w (Un [])) g b_b64_all [.c (.v (.string al)), .c (.v (.slice A p.length c)), .c (.v (.bool false))] [bsF A p] hm ?_
  refine call_con [] (fun β w' hs => triples_c w' A p.length c) ?_
  rintro v Fs ⟨bs, rfl, rfl⟩
  refine reify_rule g 2 (fun _ => [.pointer none, .slice none 0 0]) rfl rfl (fun _ => rfl) (fun b => ?_)
  refine range_rule (α := List UInt8) (ι := BdS) (κ := Unit) g rfl (cv := [.pointer (some ⟨bs, 0, none⟩)]) rfl (by kernel_rfl) 3 (Nat.le_refl 3)
    (fun pre i => i.Ok b url p pre) (fun i => [⟨1, ty_bool, [.v (.bool false)]⟩, ⟨0, ty_string, [.v (.string al)]⟩]) (fun i => bldF b i.v i.A (i.l) i.c) (fun i => ⟨rfl, rfl, trivial⟩)
    (fun _ _ _ => False) (fun _ => []) (fun _ => []) (fun _ => trivial)
    [bkF bs ty_sl_uint8 [.slice A p.length c]] [] [bsF A p] ⟨rfl, trivial⟩ (fun g h => by obtain rfl := List.mem_singleton.1 h; rfl) ⟨.pointer none, none, [], 0⟩ ⟨rfl, rfl, Nat.le_refl _, .inl rfl⟩
    (fun β w hs => ⟨β, Agr.refl _ _, (hs.nilRow ty_uint8 1).perm [2, 1, 0, 3]⟩) (insTri A p)
    (fun xs Fs' => xs = triL p ∧ Fs' = []) (fun _ Fs' => Fs' = [])
    (fun l w f0 R J Jx hJ0 hJo hRo hY hm => tri_it l w bs A p c hc hL f0 R J Jx hJ0 hJo hRo hY hm) ?_ ?_ ?_
  · rintro ⟨v, A1, l1, c1⟩ pre x args X W S' lb bs' pn pn' hbs hok ⟨A', rfl, rfl, hin, hx⟩
    obtain ⟨q1, q3⟩ := tri_len p x (List.mem_of_getElem? hx)
    have hv := hok.v
    have hl1 := hok.l
    have hn1 := hok.n
    have hpl : pre.length < (triL p).length := (List.getElem?_eq_some_iff.1 hx).1
    have hpc := tri_count p
    have hxl : (b64L url x).length = (8 * x.length + 5) / 6 := b64L_len url x
    simp only at hv hl1 hn1
    refine ⟨_, rfl, ?_⟩
    refine call_con [] (fun β w' hs => encode_c w' al url hal A' x x.length q1 q3 ((hs.sub 3 rfl rfl (bsF A' x) rfl (hin.rd w' (hs.get 3 rfl)) (fun k hk => hin.d k hk)).mem.take (js := [0]) rfl)) ?_
    rintro v2 Fs ⟨A2, c2, rfl, hc2, rfl⟩
    refine call_con [2, 3] (fun β w' hs => bWrite_c w' b v A1 l1 c1 A2 (b64L url x) c2 hv (by omega) (by omega) ((hs.rowRd 0 rfl).mem.take (js := [2, 3, 0]) rfl)) ?_
    rintro v3 Fs ⟨rfl, A3, c3, rfl⟩
    refine ⟨⟨selfV b, A3, l1 ++ b64L url x, c3⟩, ⟨?_, ?_, ?_, .inr rfl⟩, Ent.mk' trivial rfl (fun β w' hs => hs.perm [0, 1])⟩
    · rw [List.length_append, List.length_singleton, List.take_add_one, hx, ← hok.eq]
      rfl
    · show l1 ++ b64L url x = _
      rw [List.flatMap_append, ← hl1]
      simp
    · show (l1 ++ b64L url x).length ≤ _
      rw [List.length_append, List.length_append, List.length_singleton]
      omega
  · rintro xs ⟨v, A1, l1, c1⟩ Fs hok ⟨rfl, rfl⟩
    have hl1 : l1 = b64L url p := by rw [b64_tri]; exact hok.l
    subst hl1
    have hv := hok.v
    simp only at hv
    have hne : b64L url p ≠ [] := fun e => by
      have h := b64L_len url p
      rw [e] at h
      have := List.length_pos_iff.2 h0
      simp only [List.length_nil] at h
      omega
    refine call_con [0, 1] (fun β w' hs => text_c w' b v A1 (b64L url p) c1 hne (hs.mem.take (js := [0, 1]) rfl)) ?_
    rintro v3 Fs ⟨rfl, rfl⟩
    intro β w' hs
    exact (hs.keepB (List.nil_sublist _)).fin [] ⟨rfl, rfl⟩
  · rintro e pre j Fs h
    exact h.elim
theorem alphE_url : AlphE (mkS [65, 66, 67, 68, 69, 70, 71, 72, 73, 74, 75, 76, 77, 78, 79, 80, 81, 82, 83, 84, 85, 86, 87, 88, 89, 90, 97, 98, 99, 100, 101, 102, 103, 104, 105, 106, 107, 108, 109, 110, 111, 112, 113, 114, 115, 116, 117, 118, 119, 120, 121, 122, 48, 49, 50, 51, 52, 53, 54, 55, 56, 57, 45, 95]) true := by
  have key : ∀ n : _root_.Fin 64, (mkS [65, 66, 67, 68, 69, 70, 71, 72, 73, 74, 75, 76, 77, 78, 79, 80, 81, 82, 83, 84, 85, 86, 87, 88, 89, 90, 97, 98, 99, 100, 101, 102, 103, 104, 105, 106, 107, 108, 109, 110, 111, 112, 113, 114, 115, 116, 117, 118, 119, 120, 121, 122, 48, 49, 50, 51, 52, 53, 54, 55, 56, 57, 45, 95]).data.toList[n.1]? = some (letA true n.1) := by decide +kernel
  exact fun n h => key ⟨n, h⟩
theorem EncodeURL_c (w : World) (A : Option Addr) (p : List UInt8) (c : Nat) (h0 : p ≠ []) (hc : p.length ≤ c) (hL : p.length ≤ 1000000) (hm : Mem w [bsF A p]) :
    Con Tryz.prog n_b64_EncodeURL #[.slice A p.length c] w [] fun v Fs => v = .string (mkS (encS true p)) ∧ Fs = [] := by
  have g := good_b64_EncodeURL w (Un [])
  refine con_go (cx := cx_b64_EncodeURL w (Un [])) g b_b64_EncodeURL [.c (.v (.slice A p.length c))] [bsF A p] hm ?_
  refine call_con [] (fun β w' hs => b64all_c w' _ true alphE_url A p c h0 hc hL (hs.mem.take (js := [0]) rfl)) ?_
  rintro v Fs ⟨rfl, rfl⟩
  intro β w' hs
  exact hs.fin [] ⟨rfl, rfl⟩
def tkTxt (t : Tk) (m : List UInt8) : List UInt8 := encS true (bodyL t) ++ 46 :: encS true m
def Dk.more (d : Dk) (t : Tk) : Dk := { d with serial := d.serial + 1, to := iput d.to (t.serial : Int) (.int .u64 (t.til : Int)) }
open Classical in
def mntOut (r : Rg) (d : Dk) (B : Bx.Box) (t : Tk) (v : Value) (Fs : List Fact) : Prop :=
  (∃ k y', t.Right ∧ r.ky (r.epoch : Int) = some k ∧ v = .tuple #[.string (mkS (tkTxt t (macB B k (labL ++ bodyL t)).1)), t.v, .int .i64 0] ∧ y'.ts.map (·.1) = (macB B k (labL ++ bodyL t)).2.L ∧ Fs = [dkF (d.more t), rgF r, bxF r.bx (macB B k (labL ++ bodyL t)).2 y']) ∨
  (∃ e y', ((¬ t.Right ∧ e = 4) ∨ (t.Right ∧ r.ky (r.epoch : Int) = none ∧ e = 15)) ∧ v = .tuple #[.string (mkS []), tk0.v, .int .i64 e] ∧ y'.ts.map (·.1) = B.L ∧ Fs = [dkF d, rgF r, bxF r.bx B y'])
def Rg.ep (r : Rg) : Nat := match r.key (r.epoch : Int) with | some _ => r.epoch | none => 1
def q_mnt_14 : Plan := .take 0 (.take 1 (.take 2 (.take 3 (.take 4 (.take 5 (.take 6 (.take 7 (.brk 8 .done))))))))
open Classical in
theorem tkMint_c (w : World) (d : Dk) (r : Rg) (B : Bx.Box) (y : Lay) (ten usr rol : List UInt8) (gen now : Nat) (ht : ten.length ≤ 100000) (hu : usr.length ≤ 100000) (hr : rol.length ≤ 100000) (hg : gen < 18446744073709551616) (hnw : now < 18446744073709551616) (hrb : d.rb = r.b) (hds : d.serial ≤ 1000000) (hep : r.epoch < 18446744073709551616) (hp : ∀ k ∈ r.ks, k.p.length ≤ 1000) (hts : y.ts.map (·.1) = B.L) (hi : BInv B) (hBL : B.L.length < 4000)
    (hm : Mem w [dkF d, rgF r, bxF r.bx B y, oddF 4, firstF 1, namF]) :
    Con Tryz.prog n_ticket_Desk_Mint #[ptrD d.b, .agg #[.string (mkS ten), .string (mkS usr), .string (mkS rol)], .int .u64 (gen : Int), .int .u64 (now : Int)] w [dkF d, rgF r, bxF r.bx B y] (mntOut r d B ⟨r.ep, d.serial + 1, now, addT now d.life, gen, ten, usr, rol⟩) := by
  have g := good_ticket_Desk_Mint w (Un [dkF d, rgF r, bxF r.bx B y])
  refine con_goT (cx := cx_ticket_Desk_Mint w (Un [dkF d, rgF r, bxF r.bx B y])) g b_ticket_Desk_Mint [.c (.v (ptrD d.b)), .agg [.v (.string (mkS ten)), .v (.string (mkS usr)), .v (.string (mkS rol))], .c (.v (.int .u64 (gen : Int))), .c (.v (.int .u64 (now : Int)))] [oddF 4, firstF 1, namF] hm ?_
  refine tri_seq g ?_
  refine tri_seq g ?_
  refine tri_seqJ (ι := Int × Bool) g (fun i => i = (if (r.key (r.epoch : Int)).isSome then ((r.epoch : Int), true) else (0, false))) 2 (fun i => [(0, .c (.v (ptrD d.b))), (2, .c (.v (.int .u64 (gen : Int)))), (3, .c (.v (.int .u64 (now : Int)))), (5, .c (.p 0 0)), (9, .c (.p 1 0)), (11, .c (.v (.int .u64 i.1))), (13, .c (.v (.bool i.2)))])
    (fun _ => [⟨1, ty_ticket_Ticket, tk0.cells.map SL.v⟩, ⟨0, ty_api_Who, [.v (.string (mkS ten)), .v (.string (mkS usr)), .v (.string (mkS rol))]⟩]) (fun _ => [dkF d, rgF r, bxF r.bx B y, oddF 4, firstF 1, namF]) ?_ ?_
  rotate_left
  · refine ⟨ptrR d.rb, fun β w' hs => cell_bk (dk_bk (hs.get 0 rfl)) (o := 0) rfl, ?_⟩
    refine call_con [] (fun β w' hs => by
      have h := newest_c w' r (hs.get 1 rfl) (hs.getLt 1 rfl) hp
      rw [← hrb] at h
      exact h) ?_
    unfold newestOut
    cases hk : r.key (r.epoch : Int) with
    | none =>
      rintro v Fs ⟨rfl, rfl⟩
      exact EntX.of (0, false) (by rfl) (Ent.mk' ⟨rfl, rfl, rfl, rfl, rfl, rfl, rfl, trivial⟩ rfl (fun β w' hs => hs))
    | some k =>
      rintro v Fs ⟨A, c, rfl, hc, rfl⟩
      exact EntX.of ((r.epoch : Int), true) (by rfl) (Ent.mk' ⟨rfl, rfl, rfl, rfl, rfl, rfl, rfl, trivial⟩ rfl (fun β w' hs => hs.perm [1, 2, 3, 4, 5, 6]))
  rintro ⟨e0, b0⟩ he0
  refine tri_seqJ (ι := Unit) g (fun _ => True) 2 (fun _ => [(0, .c (.v (ptrD d.b))), (2, .c (.v (.int .u64 (gen : Int)))), (3, .c (.v (.int .u64 (now : Int)))), (5, .c (.p 0 0)), (9, .c (.p 1 0)), (11, .c (.v (.int .u64 (r.ep : Int))))])
    (fun _ => [⟨1, ty_ticket_Ticket, tk0.cells.map SL.v⟩, ⟨0, ty_api_Who, [.v (.string (mkS ten)), .v (.string (mkS usr)), .v (.string (mkS rol))]⟩]) (fun _ => [dkF d, rgF r, bxF r.bx B y, oddF 4, firstF 1, namF]) ?_ ?_
  rotate_left
  · unfold Rg.ep
    cases hk : r.key (r.epoch : Int) with
    | none =>
      rw [hk] at he0
      injection he0 with q1 q2
      subst q1 q2
      exact EntX.of () trivial (Ent.mk' ⟨rfl, rfl, rfl, rfl, rfl, rfl, trivial⟩ rfl (fun β w' hs => hs))
    | some k =>
      rw [hk] at he0
      injection he0 with q1 q2
      subst q1 q2
      exact EntX.of () trivial (Ent.mk' ⟨rfl, rfl, rfl, rfl, rfl, rfl, trivial⟩ rfl (fun β w' hs => hs))
  rintro ⟨⟩ -
  refine tri_seqJ (ι := Unit) g (fun _ => True) 3 (fun _ => [(0, .c (.v (ptrD d.b))), (9, .c (.p 1 0)), (14, .c (.p 2 0))])
    (fun _ => [⟨2, ty_ticket_Ticket, (Tk.cells ⟨r.ep, d.serial + 1, now, addT now d.life, gen, ten, usr, rol⟩).map SL.v⟩, ⟨1, ty_ticket_Ticket, tk0.cells.map SL.v⟩]) (fun _ => [dkF d, rgF r, bxF r.bx B y, oddF 4, firstF 1, namF]) ?_ ?_
  rotate_left
  · refine draw_rule g p_ticket_Desk_Mint_6 (by kernel_rfl) [⟨1, ty_ticket_Ticket, tk0.cells.map SL.v⟩, ⟨0, ty_api_Who, [.v (.string (mkS ten)), .v (.string (mkS usr)), .v (.string (mkS rol))]⟩] [dkF d] (subPerm [0]) ?_
    have hs1 : IntKind.u64.wrap ((d.serial : Int) + 1) = ((d.serial + 1 : Nat) : Int) := by rw [wrap_u64]; omega
    refine ⟨.int .u64 (d.serial : Int), fun β w' hs => cell_bk (dk_bk (hs.get 0 rfl)) (o := 2) rfl, ?_⟩
    refine ⟨_, hs1, ?_⟩
    refine ⟨.int .u64 (d.life : Int), fun β w' hs => cell_bk (dk_bk (hs.get 0 rfl)) (o := 1) rfl, ?_⟩
    have go1 : ∀ w', Pu Tryz.prog n_span_Add #[.int .u64 (now : Int), .int .u64 (d.life : Int)] w' (.int .u64 ((addT now d.life : Nat) : Int)) := fun w' => spanAdd_c w' now d.life
    refine ⟨?_, ?_⟩
    · refine call_pu (fun β w' hs => go1 w') ?_
      refine ⟨subPerm [0], ?_⟩
      refine ⟨Sub.of (List.sublist_cons_self _ _) (List.Sublist.cons_cons _ (List.nil_sublist _)), ?_⟩
      refine ⟨Sub.of (List.sublist_cons_self _ _) (List.Sublist.cons_cons _ (List.nil_sublist _)), ?_⟩
      exact EntX.of () trivial (Ent.mk' ⟨rfl, rfl, rfl, trivial⟩ rfl (fun β w' hs => hs.keepB (List.Sublist.cons_cons _ (List.Sublist.cons_cons _ (List.nil_sublist _)))))
    · refine ⟨Sub.of (List.sublist_cons_self _ _) (List.Sublist.cons_cons _ (List.nil_sublist _)), ?_⟩
      refine call_pu (fun β w' hs => go1 w') ?_
      refine ⟨Sub.of (List.sublist_cons_self _ _) (List.Sublist.cons_cons _ (List.nil_sublist _)), ?_⟩
      refine ⟨Sub.of (List.sublist_cons_self _ _) (List.Sublist.cons_cons _ (List.nil_sublist _)), ?_⟩
      exact EntX.of () trivial (Ent.mk' ⟨rfl, rfl, rfl, trivial⟩ rfl (fun β w' hs => hs.keepB (List.Sublist.cons_cons _ (List.Sublist.cons_cons _ (List.nil_sublist _)))))
  rintro ⟨⟩ -
  have hok : (⟨r.ep, d.serial + 1, now, addT now d.life, gen, ten, usr, rol⟩ : Tk).Ok := by
    have h1 : r.ep < 18446744073709551616 := by unfold Rg.ep; split; exact hep; decide
    have h2 : addT now d.life < 18446744073709551616 := by unfold addT; omega
    exact ⟨h1, by show d.serial + 1 < _; omega, hnw, h2, hg, ht, hu, hr⟩
  have hse : (⟨r.ep, d.serial + 1, now, addT now d.life, gen, ten, usr, rol⟩ : Tk).serial = d.serial + 1 := rfl
  generalize (⟨r.ep, d.serial + 1, now, addT now d.life, gen, ten, usr, rol⟩ : Tk) = t at *
  refine tri_of g ?_
  refine call_con [] (fun β w' hs => tkBody_c w' t (namF_T (hs.get 5 rfl)) hok) ?_
  rintro v Fs (⟨hR, A, c, rfl, hc, rfl⟩ | ⟨hR, rfl, rfl⟩)
  rotate_left
  · intro β w' hs
    exact (hs.keepB (List.nil_sublist _)).fin [0, 1, 2] (.inr ⟨4, y, .inl ⟨hR, rfl⟩, rfl, hts, rfl⟩) rfl rfl rfl ⟨rfl, rfl, rfl, trivial⟩
  have l1 := plainF_len hR.ten
  have l2 := namedT_len hR.usr
  have l3 := plainF_len hR.rol
  have hbl : (bodyL t).length ≤ 1000 := by
    unfold bodyL txtL
    simp only [List.length_cons, List.length_append, be_length]
    omega
  have hlb : (labL ++ bodyL t).length ≤ 1000000 := by rw [List.length_append]; show 7 + _ ≤ _; omega
  refine ⟨ptrR d.rb, fun β w' hs => cell_bk (dk_bk (hs.get 1 rfl)) (o := 0) rfl, ?_⟩
  intro b1
  refine ⟨0, labL.map byte, rfl, ?_⟩
  intro b2
  unfold mntOut Rg.ky
  cases hk : r.key (r.epoch : Int) with
  | none =>
    refine call_con [4, 5] (fun β w' hs => by
      have h := (((hs.rowRd 0 rfl).rowRd 2 rfl).part2 (P := some ⟨b2, 0, none⟩) (A := some ⟨b1, 0, none⟩) (l := labL) (c := 7) (B := A) (m := bodyL t) (d := c) [0, 1, 2] rfl)
      have h2 := (signP_c w' r B y b2 [(some ⟨b1, 0, none⟩, labL, 7), (A, bodyL t, c)] 2 rfl (by simp) (by show 2 ≤ 1000; decide) hp (by rw [two_parts]; exact hlb) hts hi (by omega) (h.mem.take (js := [5, 6, 0, 7, 8]) rfl)).mono (fun v Fs h => show v = .tuple #[.int .u64 0, .slice none 0 0, .int .i64 15] ∧ ∃ y', y'.ts.map (·.1) = B.L ∧ Fs = [rgF r, bxF r.bx B y'] by unfold signOut at h; rw [hk] at h; exact h)
      rw [← hrb] at h2
      exact h2) ?_
    rintro v Fs ⟨rfl, y2, hy2, rfl⟩
    intro β w' hs
    exact (hs.keepB (List.nil_sublist _)).fin [5, 0, 1] (.inr ⟨15, y2, .inr ⟨hR, rfl, rfl⟩, rfl, hy2, rfl⟩) rfl rfl rfl ⟨rfl, rfl, rfl, trivial⟩
  | some k =>
    refine call_con [4, 5] (fun β w' hs => by
      have h := (((hs.rowRd 0 rfl).rowRd 2 rfl).part2 (P := some ⟨b2, 0, none⟩) (A := some ⟨b1, 0, none⟩) (l := labL) (c := 7) (B := A) (m := bodyL t) (d := c) [0, 1, 2] rfl)
      have h2 := signB_c w' r.bx r rfl k hk B y b2 [(some ⟨b1, 0, none⟩, labL, 7), (A, bodyL t, c)] 2 rfl (by simp) (by show 2 ≤ 1000; decide) hp (by rw [two_parts]; exact hlb) hts hi (by omega) (h.mem.take (js := [5, 6, 0, 7, 8]) rfl)
      rw [← hrb, two_parts] at h2
      exact h2) ?_
    rintro v Fs ⟨M, dm, y2, rfl, hdm, hy2, rfl⟩
    have hq32 : (macB B k.p (labL ++ bodyL t)).1.length = 32 := (mac_good hi (by omega) (k := k.p) (t := labL ++ bodyL t) (by have := hp k (List.mem_of_find?_eq_some hk); omega) hlb).2.1
    obtain ⟨q, hq⟩ : ∃ q, macB B k.p (labL ++ bodyL t) = q := ⟨_, rfl⟩
    obtain ⟨m, B2⟩ := q
    rw [hq] at hq32 hdm hy2 ⊢
    simp only at hq32 hdm hy2 ⊢
    have hs1 : IntKind.u64.wrap ((d.serial : Int) + 1) = ((d.serial + 1 : Nat) : Int) := by rw [wrap_u64]; omega
    refine ⟨.int .u64 (d.serial : Int), fun β w' hs => cell_bk (dk_bk (hs.get 6 rfl)) (o := 2) rfl, ?_⟩
    refine ⟨_, hs1, ?_⟩
    refine ⟨[dkF { d with serial := d.serial + 1 }, browF ty_uint8 M m dm, rgF r, bxF r.bx B2 y2, browF ty_uint8 A (bodyL t) c], fun β w' hs => by
      obtain ⟨w2, f1, f2⟩ := (hs.unsep 6 rfl).bkSet 0 (o := 2) (us := [.int .u64 ((d.serial + 1 : Nat) : Int)]) rfl (by show 3 ≤ 5; decide) (one_mem rfl)
      exact ⟨w2, f1, (f2.sep [0, 1, 2] rfl ⟨rfl, rfl, rfl, trivial⟩).perm [0, 1, 2, 3, 6]⟩, ?_⟩
    refine draw_rule g q_mnt_14 (by kernel_rfl) [⟨2, ty_ticket_Ticket, t.cells.map SL.v⟩, ⟨1, ty_ticket_Ticket, tk0.cells.map SL.v⟩] [dkF { d with serial := d.serial + 1 }] (subPerm [0]) ?_
    refine ⟨.map (some d.m1), fun β w' hs => cell_bk (dk_bk (hs.get 0 rfl)) (o := 3) rfl, ?_⟩
    refine ⟨[⟨2, ty_ticket_Ticket, t.cells.map SL.v⟩, ⟨1, ty_ticket_Ticket, tk0.cells.map SL.v⟩], fun _ => [dkF (d.more t), browF ty_uint8 M m dm, rgF r, bxF r.bx B2 y2, browF ty_uint8 A (bodyL t) c], fun β w' hs => ?_, fun _ => ?_⟩
    · obtain ⟨w2, f1, f2⟩ := (hs.unsep 0 rfl).mapPutI g 1 rfl (t := ty_map_uint64_uint64) (t.serial : Int) (.int .u64 (t.til : Int))
      exact ⟨w2, 0, f1, (f2.sep [0, 1, 2] rfl ⟨rfl, rfl, rfl, trivial⟩)⟩
    refine draw_rule g p_ticket_Desk_Mint_15 (by kernel_rfl) [⟨2, ty_ticket_Ticket, t.cells.map SL.v⟩] [] (Sub.of (List.Sublist.cons_cons _ (List.nil_sublist _)) (List.nil_sublist _)) ?_
    have hbn : bodyL t ≠ [] := by unfold bodyL; simp
    have hmn : m ≠ [] := fun e => by rw [e] at hq32; cases hq32
    refine call_con [] (fun β w' hs => EncodeURL_c w' A (bodyL t) c hbn hc (by omega) ((hs.rowRd 4 rfl).mem.take (js := [4]) rfl)) ?_
    rintro v Fs ⟨rfl, rfl⟩
    refine ⟨(Sub.of (List.Sublist.cons_cons _ (List.nil_sublist _)) (List.nil_sublist _)), ?_⟩
    have e1 : (encS true (bodyL t)).length = (8 * (bodyL t).length + 5) / 6 := b64L_len true (bodyL t)
    have e2 : (encS true m).length = (8 * m.length + 5) / 6 := b64L_len true m
    have hml := maxLen_eq
    refine ⟨by rw [mkS_sz]; show _ + 1 ≤ maxLen; omega, ?_⟩
    refine call_con [] (fun β w' hs => EncodeURL_c w' M m dm hmn hdm (by omega) ((hs.rowRd 1 rfl).mem.take (js := [1]) rfl)) ?_
    rintro v Fs ⟨rfl, rfl⟩
    refine ⟨(Sub.of (List.Sublist.cons_cons _ (List.nil_sublist _)) (List.nil_sublist _)), ?_⟩
    have htx : (mkS (encS true (bodyL t)) ++ ⟨#[46]⟩ : ByteArray) ++ mkS (encS true m) = mkS (tkTxt t m) := by
      unfold tkTxt
      apply ByteArray.ext
      simp [mkS]
    have hsz : ((mkS (encS true (bodyL t)) ++ ⟨#[46]⟩ : ByteArray)).size + (mkS (encS true m)).size ≤ maxLen := by
      rw [ByteArray.size_append, mkS_sz, mkS_sz]
      show _ + 1 + _ ≤ maxLen
      omega
    refine ⟨hsz, ?_⟩
    refine ⟨(Sub.of (List.Sublist.cons_cons _ (List.nil_sublist _)) (List.nil_sublist _)), ?_⟩
    intro β w' hs
    refine (hs.keepB (List.nil_sublist _)).fin [0, 2, 3] (.inl ⟨k.p, y2, hR, rfl, ?_, by rw [hq]; exact hy2, by rw [hq]; rfl⟩) rfl rfl rfl ⟨rfl, rfl, rfl, trivial⟩
    rw [hq]
    show Value.tuple #[.string ((mkS (encS true (bodyL t)) ++ ⟨#[46]⟩ : ByteArray) ++ mkS (encS true m)), t.v, .int .i64 0] = _
    rw [htx]
theorem box0i (sym : Bool) : BInv ⟨sym, false, []⟩ := ⟨fun _ q => (by cases q), List.nodup_nil, fun _ q => (by cases q), fun _ => rfl, Nat.zero_le _⟩
theorem keyT_len {e : Nat} (he : e < 100) : (keyT e).data.toList.length ≤ 10 := by
  have hds := decS_size he
  have hks : keyS.size = 4 := rfl
  show (keyS ++ decimS e).size ≤ 10
  rw [ByteArray.size_append]
  omega
theorem newK_c (w : World) (bx : Nat) (B : Bx.Box) (y : Lay) (M : Option Addr) (master : List UInt8) (cM room : Nat) (h1 : 1 ≤ master.length) (h2 : master.length ≤ 64) (h3 : 1 ≤ room) (h4 : room ≤ 8) (hts : y.ts.map (·.1) = B.L) (hi : BInv B) (hL : B.L.length < 4000) (hm : Mem w [bxF bx B y, bsF M master, oddF 4, firstF 1]) :
    Con Tryz.prog n_ring_New #[ptrB bx, .slice M master.length cM, .int .i64 (room : Int)] w [bxF bx B y] fun v Fs => ∃ (r : Rg) (y' : Lay), v = .tuple #[ptrR r.b, .int .i64 0] ∧ r.bx = bx ∧ r.master = master ∧ Kept r room 0 (macB B master (keyT 1).data.toList).1 ∧ GoodT B (macB B master (keyT 1).data.toList) ∧ y'.ts.map (·.1) = (macB B master (keyT 1).data.toList).2.L ∧
      Fs = [rgF r, bxF bx (macB B master (keyT 1).data.toList).2 y'] := by
  have hg := mac_good hi (by omega) (k := master) (t := (keyT 1).data.toList) (by omega) (Nat.le_trans (keyT_len (by decide)) (by decide))
  refine (newR_c w bx B y M master cM room h1 h2 h3 h4 hts hi hL hm).mono fun v Fs h => ?_
  obtain ⟨b, mA, mc, m, A, c, y', rfl, hy, rfl⟩ := h
  exact ⟨_, y', by rw [cut_b]; rfl, by rw [cut_bx]; rfl, by rw [cut_master]; rfl, kept_new h2 h3 h4 hg.2.1, hg, hy, rfl⟩
theorem rotateK_c (w : World) (bx : Nat) (r : Rg) (k t : Nat) (k1 : List UInt8) (hk : Kept r k t k1) (hk1 : 1 ≤ k) (ht : t < 90) (hb : r.bx = bx) (B : Bx.Box) (y : Lay) (hts : y.ts.map (·.1) = B.L) (hi : BInv B) (hL : B.L.length < 4000) (hm : Mem w [rgF r, bxF bx B y, oddF 4, firstF 1]) :
    Con Tryz.prog n_ring_Ring_Rotate #[ptrR r.b] w [rgF r, bxF bx B y] fun v Fs => ∃ (r' : Rg) (y' : Lay), v = .tuple #[.int .u64 ((r.epoch + 1 : Nat) : Int), .int .i64 0] ∧ r'.b = r.b ∧ r'.bx = bx ∧ r'.master = r.master ∧ Kept r' k (t + 1) k1 ∧ GoodT B (macB B r.master (keyT (r.epoch + 1)).data.toList) ∧ y'.ts.map (·.1) = (macB B r.master (keyT (r.epoch + 1)).data.toList).2.L ∧
      Fs = [rgF r', bxF bx (macB B r.master (keyT (r.epoch + 1)).data.toList).2 y'] := by
  subst hb
  have hep := hk.ok.ep
  have hma := hk.ok.master
  have hg := mac_good hi (by omega) (k := r.master) (t := (keyT (r.epoch + 1)).data.toList) (by omega) (Nat.le_trans (keyT_len (by omega)) (by decide))
  refine (rotate_c w r B y hk.ok hts hi hL hm).mono fun v Fs h => ?_
  obtain ⟨A, c, y', rfl, hy, rfl⟩ := h
  exact ⟨_, y', rfl, by rw [cut_b]; rfl, by rw [cut_bx]; rfl, by rw [cut_master]; rfl, hk.next hk1 ht hg.2.1, hg, hy, rfl⟩
structure RR where
  b : Nat
  bx : Nat
  mA : Option Addr
  mc : Nat
  master : List UInt8
  room : Nat
  LA : Option Addr
  Lc : Nat
  es : List Int
  epoch : Nat
def RR.vs (x : RR) : List Value := [.pointer (some ⟨x.bx, 0, none⟩), .slice x.mA x.master.length x.mc, .int .i64 (x.room : Int), .slice x.LA x.es.length x.Lc, .int .u64 (x.epoch : Int)]
def RR.fs (x : RR) : List Fact := [bkF x.b ty_ostiaryref17_Ring x.vs, browF ty_uint8 x.mA x.master x.mc, rdoF 1 x.LA x.es.length (x.es.map (Value.int .u64))]
end Go.Proofs.YtlhcgofdfhfegaaGreatDoor.Sx

namespace Go.Proofs.YtlhcgofdfhfegaaGreatDoor.Sx
open Go
attribute [local irreducible] Calls
section
variable {cx : Cx} {β : Va} {n : Nat} {H : List Bk} {w : World} {f1 f2 : Fact}
end
def RR.more (x : RR) : RR := { x with epoch := x.epoch + 1 }
def moreL (es : List Int) (e : Int) (room : Nat) : List Int := if room < (es ++ [e]).length then (es ++ [e]).tail else es ++ [e]
end Go.Proofs.YtlhcgofdfhfegaaGreatDoor.Sx

namespace Go.Proofs.YtlhcgofdfhfegaaGreatDoor.Sx
open Go
attribute [local irreducible] Calls
def rr0 (b bx : Nat) (mA : Option Addr) (mc : Nat) (master : List UInt8) (room : Nat) : RR := ⟨b, bx, mA, mc, master, room, none, 0, [], 0⟩
structure RI (r : Rg) (x : RR) (B : Bx.Box) (n : Nat) : Prop where
  ok : RgOk r
  rm : 1 ≤ r.room
  m : x.master = r.master
  room : x.room = r.room
  ep : x.epoch = r.epoch
  es : x.es = r.es
  lc : x.es.length ≤ x.Lc
  inv : BInv B
  len : B.L.length ≤ n
  epn : r.epoch ≤ n
  keys : ∀ k ∈ r.ks, k.p.length = 32 ∧ macB B r.master (keyT k.e).data.toList = (k.p, B)
theorem RI.p {r : Rg} {x : RR} {B : Bx.Box} {n : Nat} (h : RI r x B n) : ∀ q ∈ r.ks, q.p.length ≤ 1000 := fun q hq => by rw [(h.keys q hq).1]; decide
theorem RI.ma {r : Rg} {x : RR} {B : Bx.Box} {n : Nat} (h : RI r x B n) : x.master.length ≤ 64 := by rw [h.m]; exact h.ok.master
theorem RI.grow {r : Rg} {x : RR} {B B' : Bx.Box} {n n' : Nat} (h : RI r x B n) (hL : B.L.length < 4000) (hp : Pre B B') (hi : BInv B') (hl : B'.L.length ≤ n') (hn : n ≤ n') : RI r x B' n' :=
  ⟨h.ok, h.rm, h.m, h.room, h.ep, h.es, h.lc, hi, hl, Nat.le_trans h.epn hn, fun k hk => by
    obtain ⟨k1, k2⟩ := h.keys k hk
    have := mac_again (B := B) (B' := B') (by omega) r.master (keyT k.e).data.toList (by rw [k2]; exact hp)
    rw [k2] at this
    exact ⟨k1, this⟩⟩
theorem cut_es (r : Rg) : r.cut.es = if r.room < r.es.length then r.es.tail else r.es := by
  unfold Rg.cut Rg.es
  rw [List.length_map]
  split
  · simp [List.map_tail]
  · rfl
theorem RI.rot {r : Rg} {x x' : RR} {B : Bx.Box} {n : Nat} (h : RI r x B n) (hn : n < 90) (A : Option Addr) (c : Nat) (h3 : x'.master = x.master) (h4 : x'.room = x.room) (h5 : x'.epoch = x.epoch + 1) (h6 : x'.es = moreL x.es ((x.epoch + 1 : Nat) : Int) x.room) (h7 : x'.es.length ≤ x'.Lc) :
    RI (r.more A c (macB B r.master (keyT (r.epoch + 1)).data.toList).1).cut x' (macB B r.master (keyT (r.epoch + 1)).data.toList).2 (n + 1) := by
  have hl := h.len
  have hep := h.epn
  have hma := h.ok.master
  have hg := mac_good h.inv (by omega) (k := r.master) (t := (keyT (r.epoch + 1)).data.toList) (by omega) (Nat.le_trans (keyT_len (by omega)) (by decide))
  have hp := mac_pre (B := B) (by omega) r.master (keyT (r.epoch + 1)).data.toList
  have hag := mac_again (B := B) (B' := (macB B r.master (keyT (r.epoch + 1)).data.toList).2) (by omega) r.master (keyT (r.epoch + 1)).data.toList (Pre.refl _)
  have hgl := hg.1.len
  have hg2 := h.grow (by omega) hp hg.1.inv (by omega) (Nat.le_succ n)
  generalize macB B r.master (keyT (r.epoch + 1)).data.toList = q at *
  refine ⟨more_ok h.ok (by omega), by rw [cut_room]; exact h.rm, by rw [h3, cut_master]; exact h.m, by rw [h4, cut_room]; exact h.room, by rw [h5, cut_epoch, h.ep]; rfl, ?_, h7, hg.1.inv, by omega, by rw [cut_epoch]; show r.epoch + 1 ≤ n + 1; omega, ?_⟩
  · rw [h6, cut_es, h.es, h.ep, h.room]
    have e : (r.more A c q.1).es = r.es ++ [((r.epoch + 1 : Nat) : Int)] := by show (r.ks ++ [_]).map _ = _; rw [List.map_append]; rfl
    rw [e]
    rfl
  · intro k hk
    rw [cut_master]
    rcases List.mem_append.1 (show k ∈ r.ks ++ [(⟨r.epoch + 1, A, c, q.1⟩ : RKey)] from cut_mem hk) with hk | hk
    · exact hg2.keys k hk
    · obtain rfl := List.mem_singleton.1 hk
      exact ⟨hg.2.1, hag⟩
theorem erase_es (e : Int) : ∀ ks : List RKey, (ks.map (·.e)).Pairwise (· < ·) → (ks.eraseP fun k => decide ((k.e : Int) = e)).map (fun k => (k.e : Int)) = (ks.map fun k => (k.e : Int)).filter (fun y => !decide (y = e))
  | [], _ => rfl
  | k :: t, h => by
    rw [List.map_cons, List.pairwise_cons] at h
    by_cases hk : (k.e : Int) = e
    · rw [List.eraseP_cons_of_pos (by simpa using hk), List.map_cons, List.filter_cons_of_neg (by simpa using hk)]
      symm
      refine List.filter_eq_self.2 fun y hy => ?_
      obtain ⟨q, hq, rfl⟩ := List.mem_map.1 hy
      have := h.1 q.e (List.mem_map.2 ⟨q, hq, rfl⟩)
      simp
      omega
    · rw [List.eraseP_cons_of_neg (by simpa using hk), List.map_cons, List.map_cons, List.filter_cons_of_pos (by simpa using hk), erase_es e t h.2]
theorem RI.ret {r : Rg} {x x' : RR} {B : Bx.Box} {n : Nat} (h : RI r x B n) (e : Int) (h3 : x'.master = x.master) (h4 : x'.room = x.room) (h5 : x'.epoch = x.epoch) (h6 : x'.es = x.es.filter (fun y => !decide (y = e))) (h7 : x'.es.length ≤ x'.Lc) : RI (r.drop e) x' B n := by
  have hsub : ((r.drop e).ks).Sublist r.ks := List.eraseP_sublist
  refine ⟨⟨h.ok.rise.sublist (hsub.map _), fun k hk => h.ok.le k (drop_sub hk), Nat.le_trans hsub.length_le h.ok.len, h.ok.room, h.ok.master, h.ok.ep⟩, h.rm, h3.trans h.m, h4.trans h.room, h5.trans h.ep, ?_, h7, h.inv, h.len, h.epn, fun k hk => h.keys k (drop_sub hk)⟩
  rw [h6, h.es]
  exact (erase_es e r.ks h.ok.rise).symm
theorem RI.first {b bx : Nat} {mA : Option Addr} {mc : Nat} {master : List UInt8} {room m : Nat} {A : Option Addr} {c : Nat} {x : RR} {B : Bx.Box} (h1 : 1 ≤ master.length) (h2 : master.length ≤ 64) (h3 : 1 ≤ room) (h4 : room ≤ 8) (hi : BInv B) (hL : B.L.length ≤ 0) (hxm : x.master = master) (hxr : x.room = room) (hxe : x.epoch = 1) (hxl : x.es = moreL [] 1 room) (hxc : x.es.length ≤ x.Lc) :
    RI ((ring0 b bx mA mc master room m).more A c (macB B master (keyT 1).data.toList).1).cut x (macB B master (keyT 1).data.toList).2 1 := by
  have h0 : RI (ring0 b bx mA mc master room m) (rr0 b bx mA mc master room) B 0 := ⟨⟨List.Pairwise.nil, fun k hk => (by cases hk), Nat.zero_le _, h4, h2, by show 0 < 98; decide⟩, h3, rfl, rfl, rfl, rfl, Nat.le_refl _, hi, hL, Nat.le_refl _, fun k hk => (by cases hk)⟩
  exact h0.rot (by decide) A c (x' := x) hxm hxr hxe hxl hxc
end Go.Proofs.YtlhcgofdfhfegaaGreatDoor.Sx
