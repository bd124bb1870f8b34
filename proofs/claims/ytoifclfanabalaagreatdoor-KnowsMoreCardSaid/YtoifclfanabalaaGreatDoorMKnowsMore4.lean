/- Texts joined: Bk6, Bk7, Bk8, Bk9, Xor, Hm2, Hm3, Hsh, Hsh2, Hsh3, Mac, Pie, Pie2, Str, Trn, Turn, Ak5, Ak6, BxP, Rf5, Rt1, Rt2, Rt3, Rt4, Rt5, Tl2, Tl3, TlG, Flip, Tl1, Tl4, Tl5, LenX, Tl7, Tl8, Tl10. -/
import Derived.Test.YtoifclfanabalaaGreatDoorMKnowsMore3
import Derived.Test.YtoifclfanabalaaGreatDoorMKnowsMore2
set_option linter.unusedVariables false
set_option linter.unusedSimpArgs false
namespace Go.Proofs.YtoifclfanabalaaGreatDoor.Sx
open Go
attribute [local irreducible] Calls
def str (l : List UInt8) : ByteArray := ⟨l.toArray⟩
theorem str_inj {l m : List UInt8} : str l = str m ↔ l = m := by
  constructor
  · intro h
    have := congrArg (fun s : ByteArray => s.data.toList) h
    simpa [str] using this
  · rintro rfl; rfl
def numV (n : Nat) : Value := .int .i64 (n : Int)
def mapL : List Bx.Term → Nat → ML
  | [], _ => []
  | t :: r, k => (str (Bx.print t), numV (k + 1)) :: mapL r (k + 1)
theorem mapL_look (t : Bx.Term) : ∀ (L : List Bx.Term) (k : Nat), mlook (mapL L k) (str (Bx.print t)) = (Bx.place t L).map fun i => numV (i + k + 1)
  | [], _ => rfl
  | x :: r, k => by
    simp only [mapL, mlook, Bx.place]
    by_cases h : x = t
    · subst h
      simp
    · have h' : ¬ str (Bx.print x) = str (Bx.print t) := fun q => h (Bx.print_inj (str_inj.1 q))
      rw [if_neg h', if_neg h, mapL_look t r (k + 1), Option.map_map]
      congr 1
      funext i
      simp only [Function.comp]
      rw [show i + (k + 1) + 1 = i + 1 + k + 1 by omega]
theorem mput_new : ∀ {l : ML} {s : ByteArray} {v : Value}, mlook l s = none → mput l s v = l ++ [(s, v)]
  | [], _, _, _ => rfl
  | (k, u) :: r, s, v, h => by
    simp only [mlook] at h
    split at h
    · cases h
    · rename_i hne
      simp only [mput, if_neg hne, List.cons_append]
      rw [mput_new h]
theorem mapL_snoc (t : Bx.Term) : ∀ (L : List Bx.Term) (k : Nat), mapL (L ++ [t]) k = mapL L k ++ [(str (Bx.print t), numV (L.length + k + 1))]
  | [], k => by simp [mapL]
  | x :: r, k => by
    simp only [List.cons_append, mapL, List.length_cons]
    rw [mapL_snoc t r (k + 1), show r.length + (k + 1) + 1 = r.length + 1 + k + 1 by omega]
def TD_ (t : Bx.Term) (a : TA) (k : Nat) : Prop := (bsF a.k t.key).D k ∨ (bsF a.t t.text).D k ∨ (rdF 1 a.l t.list.length (ints t.list)).D k ∨ (bsF a.m t.mask).D k
theorem TRd.st {t : Bx.Term} {a : TA} {w w' : World} (hs : ∀ k, TD_ t a k → w'.heap[k]? = w.heap[k]?) (h : TRd t a w) : TRd t a w' :=
  ⟨(bsF a.k t.key).st w w' (fun k hk => hs k (.inl hk)) h.hk, (bsF a.t t.text).st w w' (fun k hk => hs k (.inr (.inl hk))) h.ht, (rdF 1 a.l t.list.length (ints t.list)).st w w' (fun k hk => hs k (.inr (.inr (.inl hk)))) h.hl, (bsF a.m t.mask).st w w' (fun k hk => hs k (.inr (.inr (.inr hk)))) h.hm⟩
def trdF (t : Bx.Term) (a : TA) : Fact where
  own := false
  D := TD_ t a
  p := TRd t a
  st := fun w w' hs h => TRd.st hs h
def partsF (ts : List (Bx.Term × TA)) : Fact where
  own := true
  D := fun k => ∃ p ∈ ts, TD_ p.1 p.2 k
  p := fun w => ∀ p ∈ ts, TRd p.1 p.2 w
  st := fun w w' hs h p hp => TRd.st (fun k hk => hs k ⟨p, hp, hk⟩) (h p hp)
structure Lay where
  A : Option Addr
  c : Nat
  m : Nat
  ts : List (Bx.Term × TA)
def boxCells (B : Bx.Box) (y : Lay) : List Value := [.bool B.sym, .bool B.full, .slice y.A B.L.length y.c, .map (some y.m)]
def termsV (ts : List (Bx.Term × TA)) : List Value := ts.flatMap fun p => termV p.1 p.2
def bxFs (b : Nat) (B : Bx.Box) (y : Lay) : List Fact := [bkF b ty_box_Box (boxCells B y), rowF ty_box_Term 6 (.slice y.A B.L.length y.c) B.L.length (termsV y.ts), mapF y.m (mapL B.L 0), partsF y.ts]
def bxF (b : Nat) (B : Bx.Box) (y : Lay) : Fact := sepF (bxFs b B y)
theorem box_cell {b : Nat} {B : Bx.Box} {y : Lay} {w : World} (h : (bkF b ty_box_Box (boxCells B y)).p w) {o : Nat} {v : Value} (ho : (boxCells B y)[o]? = some v) : w.cell? ⟨b, o, none⟩ = some v := by
  have hb : w.heap[b]? = some (.cells (boxCells B y).toArray ty_box_Box (0, 0)) := h
  rw [cell_of_row w b o _ _ _ hb]
  simpa using ho
theorem bk_cell {b ty : Nat} {cs : List Value} {w : World} (h : (bkF b ty cs).p w) {o : Nat} {v : Value} (ho : cs[o]? = some v) : w.cell? ⟨b, o, none⟩ = some v := by
  have hb : w.heap[b]? = some (.cells cs.toArray ty (0, 0)) := h
  rw [cell_of_row w b o _ _ _ hb]
  simpa using ho
theorem termV_one (t : Bx.Term) (a : TA) : ∀ u ∈ termV t a, u.oneCell' = true := by
  intro u hu
  simp only [termV, List.mem_cons, List.not_mem_nil, or_false] at hu
  rcases hu with rfl | rfl | rfl | rfl | rfl | rfl <;> rfl
theorem one_mem {v : Value} (h : v.oneCell' = true) : ∀ u ∈ [v], u.oneCell' = true := fun u hu => by obtain rfl := List.mem_singleton.1 hu; exact h
def tagOut (b : Nat) (B : Bx.Box) (t : Bx.Term) (v : Value) (Fs : List Fact) : Prop :=
  ∃ A c y', v = .slice A 32 c ∧ 32 ≤ c ∧ c ≤ maxLen ∧ y'.ts.map (·.1) = (B.tag t).2.L ∧ Fs = [browF ty_uint8 A (B.tag t).1 c, bxF b (B.tag t).2 y']
theorem zero_int (w : World) : (zeroValue ty_int).run Tryz.prog w = .ok (.int .i64 0) w := by kernel_rfl
theorem tag_c (w : World) (b : Nat) (B : Bx.Box) (y : Lay) (t : Bx.Term) (a : TA) (hts : y.ts.map (·.1) = B.L) (hL : B.L.length ≤ 4096) (hs : TSz t) (hm : Mem w [bxF b B y, trdF t a]) :
    Con Tryz.prog n_box_Box_tag #[.pointer (some ⟨b, 0, none⟩), .agg (termV t a).toArray] w [bxF b B y] (tagOut b B t) := by
  have g := good_box_Box_tag w (Un [bxF b B y])
  have hs0 : Sat (cx_box_Box_tag w (Un [bxF b B y])) Va.z 0 [] [bxF b B y, trdF t a] w := hm.sat0 rfl (fun f hf ho k hk => by
    simp only [List.mem_cons, List.not_mem_nil, or_false] at hf
    rcases hf with rfl | rfl
    · exact ⟨_, List.mem_singleton.2 rfl, hk⟩
    · cases ho)
  have hs1 := hs0.unsep 0 rfl
  refine con_of_sx (cx := cx_box_Box_tag w (Un [bxF b B y])) g b_box_Box_tag rfl rfl (β := Va.z) [.c (.v (.pointer (some ⟨b, 0, none⟩))), .agg (termS t a)] 0 [] (bxFs b B y ++ [trdF t a]) rfl rfl hs1 ?_
  refine call_pu (fun β w' hs' => print_c w' t a (hs'.get 4 rfl) hs) ?_
  refine ⟨.map (some y.m), fun β w' hs' => box_cell (hs'.get 0 rfl) (o := 3) rfl, ?_⟩
  have hlook := mapL_look t B.L 0
  cases hpl : Bx.place t B.L with
  | some i =>
    rw [hpl] at hlook
    refine ⟨.int .i64 0, zero_int, mapL B.L 0, some (numV (i + 1)), fun β w' hs' => hs'.get 2 rfl, hlook, ?_⟩
    refine call_con [] (fun β w' hs' => handle_c w' (i + 1)) ?_
    rintro v Fs ⟨A1, c1, rfl, q1, q2, rfl⟩
    have htag : B.tag t = (Bx.handle (i + 1), B) := by unfold Bx.Box.tag; rw [hpl]
    intro β w' hs'
    have hs2 := (hs'.keepB (List.nil_sublist _)).sep [1, 2, 3, 4] rfl ⟨rfl, rfl, rfl, rfl, trivial⟩
    exact hs2.fin [1, 0] ⟨A1, c1, y, rfl, q1, q2, by rw [htag]; exact hts, by rw [htag]; rfl⟩
  | none =>
    rw [hpl] at hlook
    refine ⟨.int .i64 0, zero_int, mapL B.L 0, none, fun β w' hs' => hs'.get 2 rfl, hlook, ?_⟩
    refine ⟨.slice y.A B.L.length y.c, fun β w' hs' => box_cell (hs'.get 0 rfl) (o := 2) rfl, ?_⟩
    refine BIf.dec (fun hge => ?_) (fun hlt => ?_)
    · have hge0 : (4096 : Int) ≤ (B.L.length : Int) := hge
      have hge1 : 4096 ≤ B.L.length := by omega
      refine ⟨_, fun β w' hs' => hs'.bkSet 0 (o := 1) (us := [.bool true]) rfl (by show 2 ≤ 4; decide) (one_mem rfl), ?_⟩
      refine ⟨32, 32, rfl, rfl, Nat.le_refl _, by decide, by decide, ?_⟩
      intro b2
      have htag : B.tag t = (Bx.noughts, { B with full := true }) := by unfold Bx.Box.tag; rw [hpl]; simp only; rw [if_pos hge1]
      intro β w' hs'
      have hs2 := (hs'.keepB (List.nil_sublist _)).sep [1, 2, 3, 4] rfl ⟨rfl, rfl, rfl, rfl, trivial⟩
      exact hs2.fin [1, 0] ⟨some ⟨b2, 0, none⟩, 32, y, rfl, Nat.le_refl _, by decide, by rw [htag]; exact hts, by rw [htag]; rfl⟩
    · have hlt0 : ¬ (4096 : Int) ≤ (B.L.length : Int) := hlt
      have hlt1 : ¬ 4096 ≤ B.L.length := by omega
      have htag : B.tag t = (Bx.handle (B.L.length + 1), { B with L := B.L ++ [t] }) := by unfold Bx.Box.tag; rw [hpl]; simp only; rw [if_neg hlt1]
      refine draw_rule g p_box_Box_tag_8 (by kernel_rfl) [⟨0, ty_box_Term, termS t a⟩] [bkF b ty_box_Box (boxCells B y)] (subPerm [0]) ?_
      refine ⟨.slice y.A B.L.length y.c, fun β w' hs' => box_cell (hs'.get 0 rfl) (o := 2) rfl, ?_⟩
      refine call_con [] (fun β w' hs' => copyOf_c w' t a (hs'.get 4 rfl) hs) ?_
      rintro v Fs ⟨a', rfl, rfl⟩
      refine ⟨subPerm [4], ?_⟩
      intro b7
      refine ⟨subPerm [5], ?_⟩
      refine ⟨6, B.L.length, B.L.length + 1, termsV y.ts, termV t a', termsV (y.ts ++ [(t, a')]), rfl, fun β w' hs' => row_rd (hs'.get 0 rfl), termV_one t a', rfl, by simp [termsV], by rw [maxLen_eq]; omega, by show (B.L.length + 1) * 112 ≤ _; omega, ?_⟩
      intro A' c' q1 q2 q3
      refine ⟨subPerm [5], ?_⟩
      refine ⟨subPerm [5], ?_⟩
      refine ⟨_, fun β w' hs' => hs'.bkSet 5 (o := 2) (us := [.slice A' (B.L.length + 1) c']) rfl (by show 3 ≤ 4; decide) (one_mem rfl), ?_⟩
      have hbx : putAll (boxCells B y) 2 [.slice A' (B.L.length + 1) c'] = [.bool B.sym, .bool B.full, .slice A' (B.L.length + 1) c', .map (some y.m)] := rfl
      rw [hbx]
      refine draw_rule g p_box_Box_tag_9 (by kernel_rfl) [⟨0, ty_box_Term, termS t a⟩] [bkF b ty_box_Box [.bool B.sym, .bool B.full, .slice A' (B.L.length + 1) c', .map (some y.m)]] (subPerm [5]) ?_
      refine ⟨.map (some y.m), fun β w' hs' => bk_cell (hs'.get 0 rfl) (o := 3) rfl, ?_⟩
      refine ⟨.slice A' (B.L.length + 1) c', fun β w' hs' => bk_cell (hs'.get 0 rfl) (o := 2) rfl, ?_⟩
      refine ⟨_, fun _ => _, fun β w' hs' => hs'.mapPutY g 7 rfl (t := ty_map_string_int) (str (Bx.print t)) (numV (B.L.length + 1)), fun _ => ?_⟩
      refine ⟨subPerm [5], ?_⟩
      refine ⟨.slice A' (B.L.length + 1) c', fun β w' hs' => bk_cell (hs'.get 5 rfl) (o := 2) rfl, ?_⟩
      refine call_con [] (fun β w' hs' => handle_c w' (B.L.length + 1)) ?_
      rintro v Fs ⟨A9, c9, rfl, r1, r2, rfl⟩
      have hmap : mput (mapL B.L 0) (str (Bx.print t)) (numV (B.L.length + 1)) = mapL (B.L ++ [t]) 0 := by rw [mput_new hlook, mapL_snoc]
      have hbF : bxF b { B with L := B.L ++ [t] } ⟨A', c', y.m, y.ts ++ [(t, a')]⟩ = sepF [bkF b ty_box_Box [.bool B.sym, .bool B.full, .slice A' (B.L.length + 1) c', .map (some y.m)], rowF ty_box_Term 6 (.slice A' (B.L.length + 1) c') (B.L.length + 1) (termsV (y.ts ++ [(t, a')])), mapF y.m (mapL (B.L ++ [t]) 0), partsF (y.ts ++ [(t, a')])] := by
        simp [bxF, bxFs, boxCells]
      intro β w' hs'
      have hs2 := (hs'.keepB (List.nil_sublist _)).fuse [2, 3, 4, 5, 9] (partsF (y.ts ++ [(t, a')])) (fun w hm => ?_) (fun k hk => ?_) rfl ⟨rfl, rfl, rfl, rfl, rfl, trivial⟩
      · have hs3 := hs2.sep [3, 4, 5, 0] rfl ⟨rfl, rfl, rfl, rfl, trivial⟩
        refine hs3.fin [1, 0] ⟨A9, c9, ⟨A', c', y.m, y.ts ++ [(t, a')]⟩, rfl, r1, r2, ?_, ?_⟩
        · rw [htag]
          show (y.ts ++ [(t, a')]).map (·.1) = B.L ++ [t]
          rw [List.map_append, hts]
          rfl
        · rw [htag]
          show _ = [browF ty_uint8 A9 (Bx.handle (B.L.length + 1)) c9, bxF b { B with L := B.L ++ [t] } ⟨A', c', y.m, y.ts ++ [(t, a')]⟩]
          rw [hbF, ← hmap]
          rfl
      · have hm' : Mem w [browF ty_uint8 a'.m t.mask a'.mc, irowF a'.l t.list a'.lc, browF ty_uint8 a'.t t.text a'.tc, browF ty_uint8 a'.k t.key a'.kc, partsF y.ts] := hm
        intro p hp
        rcases List.mem_append.1 hp with hp | hp
        · exact hm'.fact (partsF y.ts) (by simp) p hp
        · obtain rfl := List.mem_singleton.1 hp
          exact ⟨row_rd (hm'.fact (browF ty_uint8 a'.k t.key a'.kc) (by simp)), row_rd (hm'.fact (browF ty_uint8 a'.t t.text a'.tc) (by simp)), row_rd (hm'.fact (irowF a'.l t.list a'.lc) (by simp)), row_rd (hm'.fact (browF ty_uint8 a'.m t.mask a'.mc) (by simp))⟩
      · show Un [browF ty_uint8 a'.m t.mask a'.mc, irowF a'.l t.list a'.lc, browF ty_uint8 a'.t t.text a'.tc, browF ty_uint8 a'.k t.key a'.kc, partsF y.ts] k
        obtain ⟨p, hp, hk⟩ := hk
        rcases List.mem_append.1 hp with hp | hp
        · exact ⟨partsF y.ts, by simp, p, hp, hk⟩
        · obtain rfl := List.mem_singleton.1 hp
          have hrow : ∀ {size e n c : Nat} {A : Option Addr} {xs : List Value}, (rdF size A n xs).D k → (rowF e size (.slice A n c) n xs).D k := by
            rintro size e n c A xs ⟨_, ad, rfl, rfl⟩
            rfl
          rcases hk with hk | hk | hk | hk
          · exact ⟨browF ty_uint8 a'.k t.key a'.kc, by simp, hrow hk⟩
          · exact ⟨browF ty_uint8 a'.t t.text a'.tc, by simp, hrow hk⟩
          · exact ⟨irowF a'.l t.list a'.lc, by simp, hrow hk⟩
          · exact ⟨browF ty_uint8 a'.m t.mask a'.mc, by simp, hrow hk⟩
theorem bx_bk {b : Nat} {B : Bx.Box} {y : Lay} {w : World} (h : (bxF b B y).p w) : (bkF b ty_box_Box (boxCells B y)).p w := h.1 _ (by simp [bxFs])
theorem bx_rd {b : Nat} {B : Bx.Box} {y : Lay} {w : World} (h : (bxF b B y).p w) : Rd 6 y.A B.L.length (termsV y.ts) w := row_rd (h.1 (rowF ty_box_Term 6 (.slice y.A B.L.length y.c) B.L.length (termsV y.ts)) (by simp [bxFs]))
theorem bx_parts {b : Nat} {B : Bx.Box} {y : Lay} {w : World} (h : (bxF b B y).p w) : (partsF y.ts).p w := h.1 (partsF y.ts) (by simp [bxFs])
def hashT (l : List UInt8) : Bx.Term := ⟨1, [], l, 0, [], []⟩
theorem hashT_sz {l : List UInt8} (hl : l.length ≤ 1000000) : TSz (hashT l) := ⟨by show 1 < 1000; decide, by show 0 < 1000; decide, Nat.zero_le _, hl, Nat.zero_le _, fun _ h => (by cases h), Nat.zero_le _⟩
theorem rd_nil (w : World) (A : Option Addr) : Rd 1 A 0 [] w := ⟨rfl, fun h => by cases h⟩
theorem beq_c (w : World) (A B : Option Addr) (l m : List UInt8) (c d : Nat) (hl : Bs w A l) (hm : Bs w B m) : Pu Tryz.prog n_bytes_Equal #[.slice A l.length c, .slice B m.length d] w (.bool (decide (l = m))) := by
  refine pu_of (calls_of_sx (cx := cx_bytes_Equal w None_) (good_bytes_Equal w None_) b_bytes_Equal rfl rfl (β := Va.z) [.c (.v (.slice A l.length c)), .c (.v (.slice B m.length d))] 0 [] [oldF w] rfl rfl (old_sat rfl) ?_)
  refine ⟨l, fun β w hs => Rd.old hl (hs.get 0 rfl), ?_⟩
  refine ⟨m, fun β w hs => Rd.old hm (hs.get 0 rfl), ?_⟩
  intro β w' hs
  refine ⟨?_, hs.chg⟩
  show Value.bool (decide ((⟨l.toArray⟩ : ByteArray) = ⟨m.toArray⟩)) = _
  congr 1
  simp
theorem or_i64 {x y : Nat} (hx : x < 36028797018963968) (hy : y < 256) : bits .or .i64 ((x * 256 : Nat) : Int) (y : Int) = ((x * 256 + y : Nat) : Int) := by
  show IntKind.i64.wrap (((BitVec.ofInt 64 ((x * 256 : Nat) : Int)) ||| (BitVec.ofInt 64 (y : Int))).toNat : Int) = _
  have h1 : (BitVec.ofInt 64 ((x * 256 : Nat) : Int)).toNat = x <<< 8 := by
    rw [BitVec.toNat_ofInt, Nat.shiftLeft_eq]
    omega
  have h2 : (BitVec.ofInt 64 (y : Int)).toNat = y := by
    rw [BitVec.toNat_ofInt]
    omega
  rw [BitVec.toNat_or, h1, h2, ← Nat.shiftLeft_add_eq_or_of_lt (by omega) x, Nat.shiftLeft_eq, wrap_i64 (by omega) (by omega)]
theorem shl_i64 {x : Nat} (hx : x < 36028797018963968) : IntKind.i64.wrap ((x : Int) * 2 ^ (min (8 : Int).toNat IntKind.i64.bits)) = ((x * 256 : Nat) : Int) := by
  have h1 : min (8 : Int).toNat IntKind.i64.bits = 8 := rfl
  rw [h1, wrap_i64 (by omega) (by omega)]
  omega
def numberV (l : List UInt8) : Value := match Bx.looks l with
  | some n => .tuple #[.int .i64 (n : Int), .bool (decide ((0 : Int) < (n : Int)))]
  | none => .tuple #[.int .i64 0, .bool false]
theorem num_snoc (l : List UInt8) (x : UInt8) : Bx.num (l ++ [x]) = Bx.num l * 256 + x.toNat := by simp [Bx.num]
theorem num_lt : ∀ (l : List UInt8), Bx.num l < 256 ^ l.length := by
  intro l
  have key : ∀ (l : List UInt8) (a : Nat), List.foldl (fun n (b : UInt8) => n * 256 + b.toNat) a l < (a + 1) * 256 ^ l.length := by
    intro l
    induction l with
    | nil => intro a; simp
    | cons x r ih =>
      intro a
      have := ih (a * 256 + x.toNat)
      have hx := x.toNat_lt
      have h1 : (a * 256 + x.toNat + 1) * 256 ^ r.length ≤ ((a + 1) * 256) * 256 ^ r.length := Nat.mul_le_mul_right _ (by omega)
      rw [List.foldl_cons, List.length_cons, Nat.pow_succ]
      have h2 : (a + 1) * (256 ^ r.length * 256) = ((a + 1) * 256) * 256 ^ r.length := by rw [Nat.mul_comm (256 ^ r.length) 256, ← Nat.mul_assoc]
      rw [h2]
      omega
  have := key l 0
  simpa [Bx.num] using this
theorem number_c (w : World) (A : Option Addr) (l : List UInt8) (c : Nat) (hr : Bs w A l) (hc : l.length ≤ c) (hn : l.length ≤ 1000000000) : Pu Tryz.prog n_box_Number #[.slice A l.length c] w (numberV l) := by
  have g := good_box_Number w (Un [])
  refine con_of_sx (cx := cx_box_Number w (Un [])) g b_box_Number rfl rfl (β := Va.z) [.c (.v (.slice A l.length c))] 0 [] [oldF w] rfl rfl (old_sat rfl) ?_
  refine draw_rule g p_box_Number_1 (by kernel_rfl) [] [oldF w] Sub.refl ?_
  have none_ : (Bx.looks l = none) → ∀ (n : Nat) (H : List Bk) (F : List Fact), ∀ β w', Sat (cx_box_Number w (Un [])) β n H F w' → Fin w [] (fun u Fs => u = numberV l ∧ Fs = []) (.tuple #[.int .i64 0, .bool false]) w' := fun h n H F β w' hs => hs.fin [] ⟨by unfold numberV; rw [h], rfl⟩
  refine BIf.not (BIf.dec (fun h32 => ?_) (fun h32 => ?_))
  · have hl : l.length = 32 := by omega
    refine ⟨c, 28, 0, 28, c, _, rfl, rfl, rfl, by omega, by omega, Nat.zero_le _, rfl, rfl, rfl, ?_⟩
    refine call_con [] (fun β w' hs => mark_c w') ?_
    rintro v Fs ⟨b, rfl, rfl⟩
    refine ⟨subPerm [1], ?_⟩
    have e28 : (l.take 28).length = 28 := by simp; omega
    refine call_pu (v := .bool (decide (l.take 28 = Bx.front))) (fun β w' hs => by
      have h := beq_c w' (cutA A c 0 1) (some ⟨b, 0, none⟩) (l.take 28) Bx.front c 28 (Bs.cutB (Rd.old hr (hs.get 1 rfl)) hc (Nat.zero_le 28) (by omega) (by simp)) (row_rd (hs.get 0 rfl))
      rw [e28] at h
      exact h) ?_
    refine ⟨subPerm [1], ?_⟩
    refine BIf.not (BIf.dec (fun hf => ?_) (fun hf => ?_))
    · have hlk : Bx.looks l = some (Bx.num (l.drop 28)) := by unfold Bx.looks; rw [if_pos ⟨hl, hf⟩]
      refine ⟨c, 32, 28, 4, c - 28, _, rfl, hl.symm, rfl, by omega, by omega, by omega, rfl, rfl, rfl, ?_⟩
      have hd : (l.drop 28).length = 4 := by simp; omega
      have hrd : ∀ w', (oldF w).p w' → Bs w' (cutA A c 28 1) (l.drop 28) := fun w' ho => Bs.cutB (Rd.old hr ho) hc (show 28 ≤ 32 by decide) (by omega) (by rw [List.take_of_length_le (by omega)])
      refine loop_rule 0 (fun k : Nat => [(18, .c (.v (.slice (cutA A c 28 1) 4 (c - 28)))), (19, .c (.v (.int .i64 4))), (20, .c (.v (.int .i64 k))), (4, .c (.v (.int .i64 (Bx.num ((l.drop 28).take k)))))]) (fun _ => []) (fun _ => [oldF w])
        (fun k => k ≤ 4) (fun k => 4 - k) 0 (Nat.zero_le _) (Ent.mk' ⟨rfl, rfl, rfl, rfl, trivial⟩ rfl (fun β w' hs => hs.perm [1])) g ?_
      intro k hk
      refine BIf.dec (fun hlt => ?_) (fun hge => ?_)
      · have hk4 : k < (l.drop 28).length := by omega
        obtain ⟨x, hx, _⟩ := at_lt hk4
        obtain ⟨ad, hA⟩ := Bs.addr (hrd w (fun _ _ => rfl)) (by omega)
        have hnum : Bx.num ((l.drop 28).take k) < 36028797018963968 := by
          have h1 := num_lt ((l.drop 28).take k)
          have h2 : ((l.drop 28).take k).length ≤ 4 := by rw [List.length_take]; omega
          have h3 : 256 ^ ((l.drop 28).take k).length ≤ 256 ^ 4 := Nat.pow_le_pow_right (by decide) h2
          have h4 : 256 ^ 4 < 36028797018963968 := by decide
          omega
        have hxl := x.toNat_lt
        refine ⟨ad, k, hA, rfl, by omega, byte x, fun β w' hs => by
          have h := hrd w' (hs.get 0 rfl)
          rw [hA] at h
          exact Rd.cell1 h (by rw [List.getElem?_map, hx]; rfl), ?_⟩
        refine ⟨by decide, _, shl_i64 hnum, ?_⟩
        refine ⟨((x.toNat : Nat) : Int), wrap_i64 (by omega) (by omega), ?_⟩
        refine ⟨_, or_i64 hnum hxl, ?_⟩
        refine ⟨((k + 1 : Nat) : Int), by rw [wrap_i64 (by omega) (by omega)]; rfl, ?_⟩
        have e : Bx.num ((l.drop 28).take (k + 1)) = Bx.num ((l.drop 28).take k) * 256 + x.toNat := by
          rw [List.take_add_one, hx]
          exact num_snoc _ _
        refine ⟨k + 1, by omega, by omega, Ent.same ⟨rfl, rfl, rfl, ?_, trivial⟩ rfl⟩
        rw [e]
        rfl
      · have hk4 : k = 4 := by omega
        subst hk4
        intro β w' hs
        refine hs.fin [] ⟨?_, rfl⟩
        unfold numberV
        rw [hlk]
        have e : (l.drop 28).take 4 = l.drop 28 := List.take_of_length_le (by omega)
        rw [e]
        rfl
    · exact none_ (by unfold Bx.looks; rw [if_neg (fun q => hf q.2)]) _ _ _
  · exact ⟨Sub.refl, Sub.refl, none_ (by unfold Bx.looks; rw [if_neg (fun q => h32 (by have := q.1; omega))]) _ _ _⟩
theorem fact_old {f : Fact} {W w : World} (h : f.p W) (hD : ∀ k, f.D k → k < W.heap.size) (ho : (oldF W).p w) : f.p w := f.st W w (fun k hk => ho k (hD k hk)) h
def sumV (A1 : Option Addr) (l : List Nat) (c1 : Nat) (A2 : Option Addr) (m : List UInt8) (c2 : Nat) : Value := .agg #[.slice A1 l.length c1, .slice A2 m.length c2]
def openOut (B : Bx.Box) (tag : List UInt8) (v : Value) (Fs : List Fact) : Prop := match B.opens tag with
  | none => v = .tuple #[.agg #[.slice none 0 0, .slice none 0 0], .bool false] ∧ Fs = []
  | some (l, m) => ∃ A1 c1 A2 c2, v = .tuple #[sumV A1 l c1 A2 m c2, .bool true] ∧ m.length ≤ c2 ∧ Fs = [irowF A1 l c1, browF ty_uint8 A2 m c2]
theorem openOut_none {B : Bx.Box} {tag : List UInt8} (h : B.opens tag = none) : openOut B tag = fun v Fs => v = .tuple #[.agg #[.slice none 0 0, .slice none 0 0], .bool false] ∧ Fs = [] := by funext v Fs; unfold openOut; rw [h]
theorem openOut_some {B : Bx.Box} {tag : List UInt8} {l : List Nat} {m : List UInt8} (h : B.opens tag = some (l, m)) : openOut B tag = fun v Fs => ∃ A1 c1 A2 c2, v = .tuple #[sumV A1 l c1 A2 m c2, .bool true] ∧ m.length ≤ c2 ∧ Fs = [irowF A1 l c1, browF ty_uint8 A2 m c2] := by funext v Fs; unfold openOut; rw [h]
theorem number_v (l : List UInt8) : ∃ (n : Nat) (ok : Bool), numberV l = .tuple #[.int .i64 (n : Int), .bool ok] ∧ (l.length = 32 → l.take 28 = Bx.front → n = Bx.num (l.drop 28)) := by
  by_cases h : l.length = 32 ∧ l.take 28 = Bx.front
  · exact ⟨Bx.num (l.drop 28), decide ((0 : Int) < ((Bx.num (l.drop 28) : Nat) : Int)), by unfold numberV Bx.looks; rw [if_pos h], fun _ _ => rfl⟩
  · exact ⟨0, false, by unfold numberV Bx.looks; rw [if_neg h]; rfl, fun h1 h2 => (h ⟨h1, h2⟩).elim⟩
theorem open_c (w : World) (b : Nat) (B : Bx.Box) (y : Lay) (A : Option Addr) (l : List UInt8) (c : Nat) (hts : y.ts.map (·.1) = B.L) (hL : B.L.length ≤ 4096) (hsz : ∀ t ∈ B.L, TSz t) (hb : (bxF b B y).p w) (hbD : ∀ k, (bxF b B y).D k → k < w.heap.size) (hr : Bs w A l) (hc : l.length ≤ c) (hl : l.length ≤ 1000000) :
    Con Tryz.prog n_box_Box_open #[.pointer (some ⟨b, 0, none⟩), .slice A l.length c] w [] (openOut B l) := by
  have g := good_box_Box_open w (Un [])
  refine con_of_sx (cx := cx_box_Box_open w (Un [])) g b_box_Box_open rfl rfl (β := Va.z) [.c (.v (.pointer (some ⟨b, 0, none⟩))), .c (.v (.slice A l.length c))] 0 [] [oldF w] rfl rfl (old_sat rfl) ?_
  refine ⟨32, 32, rfl, rfl, Nat.le_refl _, by decide, by decide, ?_⟩
  intro b1
  obtain ⟨n, ok, hnv, hnn⟩ := number_v l
  refine call_pu (v := .tuple #[.int .i64 (n : Int), .bool ok]) (fun β w' hs => by
    have h := number_c w' A l c (Rd.old hr (hs.get 1 rfl)) hc (by omega)
    rw [hnv] at h
    exact h) ?_
  have hbx : ∀ w', (oldF w).p w' → (bxF b B y).p w' := fun w' ho => fact_old hb hbD ho
  refine BIf.not (BIf.dec (fun h32 => ?_) (fun h32 => ?_))
  · have hl32 : l.length = 32 := by omega
    -- what isn't taken for a handle
    have raw : ¬ (B.sym = true ∧ l.take 28 = Bx.front) → ∀ {A2 : Option Addr} {c2 : Nat}, l.length ≤ c2 → ∀ {n : Nat} {H : List Bk} {F : List Fact} (j : Nat) (_ : nth F j = some (browF ty_uint8 A2 l c2)) (β : Va) (w' : World), Sat (cx_box_Box_open w (Un [])) β n H F w' → Fin w [] (openOut B l) (.tuple #[sumV none [] 0 A2 l c2, .bool true]) w' := by
      intro hno A2 c2 hc2 n H F j hj β w' hs
      rw [openOut_some (Bx.opens_raw hl32 hno)]
      have hs2 := ((hs.keepB (List.nil_sublist _)).perm [j]).nilRow ty_int 1
      have e : takeIx F [j] = [browF ty_uint8 A2 l c2] := by simp only [takeIx, hj]
      rw [e] at hs2
      exact hs2.fin [0, 1] ⟨none, 0, A2, c2, rfl, hc2, rfl⟩
    cases hsym : B.sym with
    | false =>
      refine draw_rule g p_box_Box_open_5 (by kernel_rfl) [] [oldF w] (Sub.of (List.nil_sublist _) (List.sublist_cons_self _ _)) ?_
      refine ⟨.bool false, fun β w' hs => box_cell (bx_bk (hbx w' (hs.get 0 rfl))) (o := 0) (by simp [boxCells, hsym]), ?_⟩
      refine ⟨Sub.of (List.nil_sublist _) (List.sublist_cons_self _ _), Sub.of (List.nil_sublist _) (List.sublist_cons_self _ _), ?_⟩
      refine call_con [] (fun β w' hs => clone_c w' A l c (Rd.old hr (hs.get 1 rfl)) (by omega)) ?_
      rintro v Fs ⟨A2, c2, rfl, q1, _, rfl⟩
      exact fun β w' hs => raw (fun q => by rw [hsym] at q; cases q.1) q1 0 rfl β w' hs
    | true =>
      refine draw_rule g p_box_Box_open_5 (by kernel_rfl) [] [oldF w] (Sub.of (List.nil_sublist _) (List.sublist_cons_self _ _)) ?_
      refine ⟨.bool true, fun β w' hs => box_cell (bx_bk (hbx w' (hs.get 0 rfl))) (o := 0) (by simp [boxCells, hsym]), ?_⟩
      refine ⟨c, 28, 0, 28, c, _, rfl, rfl, rfl, by omega, by omega, Nat.zero_le _, rfl, rfl, rfl, ?_⟩
      refine call_con [] (fun β w' hs => mark_c w') ?_
      rintro v Fs ⟨b2, rfl, rfl⟩
      have hSS : ∀ {n : Nat} {H : List Bk} {f1 f2 : Fact}, Sub (cx_box_Box_open w (Un [])) n H [f1, f2, oldF w] [] [oldF w] := fun {n H f1 f2} => Sub.of (List.nil_sublist _) ((List.sublist_cons_self _ _).trans (List.sublist_cons_self _ _))
      refine ⟨hSS, ?_⟩
      have e28 : (l.take 28).length = 28 := by simp; omega
      refine call_pu (v := .bool (decide (l.take 28 = Bx.front))) (fun β w' hs => by
        have h := beq_c w' (cutA A c 0 1) (some ⟨b2, 0, none⟩) (l.take 28) Bx.front c 28 (Bs.cutB (Rd.old hr (hs.get 2 rfl)) hc (Nat.zero_le 28) (by omega) (by simp)) (row_rd (hs.get 0 rfl))
        rw [e28] at h
        exact h) ?_
      refine ⟨hSS, ?_⟩
      refine BIf.not (BIf.dec (fun hf => ?_) (fun hf => ?_))
      · have hn := hnn hl32 hf
        have out_ : (n < 1 ∨ B.L.length < n) → ∀ {m : Nat} {H : List Bk} {F : List Fact} (β : Va) (w' : World), Sat (cx_box_Box_open w (Un [])) β m H F w' → Fin w [] (openOut B l) (.tuple #[.agg #[.slice none 0 0, .slice none 0 0], .bool false]) w' := by
          intro ho m H F β w' hs
          rw [openOut_none (Bx.opens_out hl32 hsym hf hn.symm ho)]
          exact (hs.keepB (List.nil_sublist _)).fin [] ⟨rfl, rfl⟩
        refine BIf.dec (fun hn1 => ?_) (fun hn1 => ?_)
        · have hn1' : (n : Int) < 1 := hn1
          exact fun β w' hs => out_ (.inl (by omega)) β w' hs
        have hn1' : ¬ (n : Int) < 1 := hn1
        refine ⟨.slice y.A B.L.length y.c, fun β w' hs => box_cell (bx_bk (hbx w' (hs.get 2 rfl))) (o := 2) rfl, ?_⟩
        refine BIf.dec (fun hgt => ?_) (fun hgt => ?_)
        · have hgt' : (B.L.length : Int) < (n : Int) := hgt
          exact fun β w' hs => out_ (.inr (by omega)) β w' hs
        have hgt' : ¬ (B.L.length : Int) < (n : Int) := hgt
        have hlen : y.ts.length = B.L.length := by rw [← hts, List.length_map]
        obtain ⟨q, hq, hqm⟩ := at_lt (l := y.ts) (k := n - 1) (by omega)
        have hqL : B.L[n - 1]? = some q.1 := by rw [← hts, List.getElem?_map, hq]; rfl
        have hqB : q.1 ∈ B.L := List.mem_of_getElem? hqL
        have hqs := hsz _ hqB
        have hin := Bx.opens_in hl32 hsym hf hn.symm (by omega) hqL
        obtain ⟨ad, hA, _⟩ := (bx_rd hb).2 (by omega)
        refine ⟨.slice y.A B.L.length y.c, fun β w' hs => box_cell (bx_bk (hbx w' (hs.get 2 rfl))) (o := 2) rfl, ?_⟩
        refine ⟨((n - 1 : Nat) : Int), by rw [wrap_i64 (by omega) (by omega)]; omega, ?_⟩
        refine ⟨ad, n - 1, hA, rfl, by omega, ?_⟩
        refine ⟨termV q.1 q.2, rfl, fun β w' hs => ?_, ?_⟩
        · have h := bx_rd (hbx w' (hs.get 2 rfl))
          rw [← hlen] at h
          obtain ⟨hil, hie⟩ := List.getElem?_eq_some_iff.1 hq
          have h2 := Rd.elem (f := fun p : Bx.Term × TA => termV p.1 p.2) (fun _ => rfl) h hA hil
          rw [hie] at h2
          exact h2
        have hpt : ∀ w', (oldF w).p w' → TRd q.1 q.2 w' := fun w' ho => bx_parts (hbx w' ho) q hqm
        have hkey := hqs.mask
        have hlst := hqs.list
        refine BIf.dec (fun hk => ?_) (fun hk => ?_)
        · have hk' : ((q.1.kind : Nat) : Int) = 4 := hk
          have hk4 : q.1.kind = 4 := by omega
          rw [if_pos hk4] at hin
          rw [openOut_some hin]
          have hH : ∀ {n : Nat} {H : List Bk} {F : List Fact}, Sub (cx_box_Box_open w (Un [])) n (⟨1, ty_box_Term, termS q.1 q.2⟩ :: H) F [⟨1, ty_box_Term, termS q.1 q.2⟩] [] := fun {n H F} => Sub.of ((List.nil_sublist _).cons_cons _) (List.nil_sublist _)
          refine draw_rule g p_box_Box_open_11 (by kernel_rfl) [⟨1, ty_box_Term, termS q.1 q.2⟩] [] hH ?_
          refine call_con [] (fun β w' hs => cloneI_c w' q.2.l q.1.list q.2.lc (hpt w' (hs.get 2 rfl)).hl (by omega)) ?_
          rintro v Fs ⟨A3, c3, rfl, _, _, rfl⟩
          refine ⟨hH, ?_⟩
          refine call_con [] (fun β w' hs => clone_c w' q.2.m q.1.mask q.2.mc (hpt w' (hs.get 3 rfl)).hm (by omega)) ?_
          rintro v Fs ⟨A4, c4, rfl, q4, _, rfl⟩
          refine ⟨hH, ?_⟩
          refine ⟨hH, ?_⟩
          intro β w' hs
          exact (hs.keepB (List.nil_sublist _)).fin [1, 0] ⟨A3, c3, A4, c4, rfl, q4, rfl⟩
        · have hk' : ¬ ((q.1.kind : Nat) : Int) = 4 := hk
          have hk4 : ¬ q.1.kind = 4 := by omega
          rw [if_neg hk4] at hin
          rw [openOut_some hin]
          intro b5
          intro β w' hs
          exact (hs.keepB (List.nil_sublist _)).fin [0, 2] ⟨some ⟨b5, 0, none⟩, 1, some ⟨b1, 0, none⟩, 32, rfl, Nat.le_refl _, rfl⟩
      · refine call_con [] (fun β w' hs => clone_c w' A l c (Rd.old hr (hs.get 2 rfl)) (by omega)) ?_
        rintro v Fs ⟨A2, c2, rfl, q1, _, rfl⟩
        exact fun β w' hs => raw (fun q => hf q.2) q1 0 rfl β w' hs
  · have hl32 : l.length ≠ 32 := by omega
    intro β w' hs
    rw [openOut_none (Bx.opens_len hl32)]
    exact (hs.keepB (List.nil_sublist _)).fin [] ⟨rfl, rfl⟩
theorem xorB_len (a b : List UInt8) : (Bx.xorB a b).length = min a.length b.length := by simp [Bx.xorB]
theorem xorB_snoc (a b : List UInt8) {i : Nat} (ha : i < a.length) (hb : i < b.length) : (Bx.xorB a b).take (i + 1) = (Bx.xorB a b).take i ++ [a[i] ^^^ b[i]] := by
  have h : i < (Bx.xorB a b).length := by rw [xorB_len]; omega
  rw [take_snoc _ i h]
  congr 1
  simp [Bx.xorB]
theorem xor_c (w : World) (A B : Option Addr) (l m : List UInt8) (c d : Nat) (hl : Bs w A l) (hm : Bs w B m) (hn : l.length ≤ 70368744177664) :
    Con Tryz.prog n_hmac_Xor #[.slice A l.length c, .slice B m.length d] w [] fun v Fs => ∃ A' c', v = .slice A' (Bx.xorB l m).length c' ∧ (Bx.xorB l m).length ≤ c' ∧ c' ≤ maxLen ∧ Fs = [browF ty_uint8 A' (Bx.xorB l m) c'] := by
  have g := good_hmac_Xor w (Un [])
  refine con_of_sx (cx := cx_hmac_Xor w (Un [])) g b_hmac_Xor rfl rfl (β := Va.z) [.c (.v (.slice A l.length c)), .c (.v (.slice B m.length d))] 0 [] [browF ty_uint8 none [] 0, oldF w] rfl rfl ((old_sat rfl).nilRow _ _) ?_
  have hx := xorB_len l m
  obtain ⟨r, hr⟩ : ∃ r, (Bx.xorB l m).length = r := ⟨_, rfl⟩
  refine ⟨(r : Int), ?_, ?_⟩
  · show min (l.length : Int) (m.length : Int) = _
    omega
  refine loop_rule (ι := Nat × Option Addr × Nat) 0 (fun i => [(0, .c (.v (.slice A l.length c))), (1, .c (.v (.slice B m.length d))), (11, .c (.v (.int .i64 r))), (12, .c (.v (.int .i64 i.1))), (5, .c (.v (.slice i.2.1 i.1 i.2.2)))]) (fun _ => [])
    (fun i => [rowF ty_uint8 1 (.slice i.2.1 i.1 i.2.2) i.1 (((Bx.xorB l m).take i.1).map byte), oldF w])
    (fun i => i.1 ≤ r ∧ i.1 ≤ i.2.2 ∧ i.2.2 ≤ maxLen) (fun i => r - i.1) (0, none, 0) ⟨Nat.zero_le _, Nat.zero_le _, Nat.zero_le _⟩ (Ent.same ⟨rfl, rfl, rfl, rfl, rfl, trivial⟩ rfl) g ?_
  rintro ⟨i, A1, c1⟩ ⟨hi, hc, hcm⟩
  simp only at hi hc hcm
  refine BIf.dec (fun hlt => ?_) (fun hge => ?_)
  · have hlt0 : (i : Int) < (r : Int) := hlt
    have h1 : i < l.length := by omega
    have h2 : i < m.length := by omega
    obtain ⟨ad, hA⟩ := Bs.addr hl (by omega)
    obtain ⟨bd, hB⟩ := Bs.addr hm (by omega)
    have hSS : ∀ {n : Nat} {H : List Bk} {f1 : Fact}, Sub (cx_hmac_Xor w (Un [])) n H [f1, oldF w] [] [oldF w] := fun {n H f1} => Sub.of (List.nil_sublist _) (List.sublist_cons_self _ _)
    have hSS2 : ∀ {n : Nat} {H : List Bk} {f1 f2 : Fact}, Sub (cx_hmac_Xor w (Un [])) n H [f1, f2, oldF w] [] [oldF w] := fun {n H f1 f2} => Sub.of (List.nil_sublist _) ((List.sublist_cons_self _ _).trans (List.sublist_cons_self _ _))
    refine draw_rule g p_hmac_Xor_5 (by kernel_rfl) [] [oldF w] hSS ?_
    refine ⟨ad, i, hA, rfl, h1, byte l[i], fun β w' hs => Bs.cell (Rd.old hl (hs.get 0 rfl)) hA h1, ?_⟩
    refine ⟨bd, i, hB, rfl, h2, byte m[i], fun β w' hs => Bs.cell (Rd.old hm (hs.get 0 rfl)) hB h2, ?_⟩
    refine ⟨_, xor8 _ _, ?_⟩
    intro b2
    refine ⟨hSS2, ?_⟩
    refine ⟨1, i, i + 1, ((Bx.xorB l m).take i).map byte, [l[i] ^^^ m[i]].map byte, _, rfl, fun β w hs => row_rd (hs.get 0 rfl), bytes_one _, rfl, rfl, by rw [maxLen_eq]; omega, by show (i + 1) * 1 ≤ _; omega, ?_⟩
    intro A' c' q1 q2 _
    refine ⟨hSS2, ?_⟩
    refine ⟨((i + 1 : Nat) : Int), by rw [wrap_i64 (by omega) (by omega)]; rfl, ?_⟩
    refine ⟨(i + 1, A', c'), ⟨by show i + 1 ≤ r; omega, q1, q2⟩, by show r - (i + 1) < r - i; omega, Ent.mk' ⟨rfl, rfl, rfl, rfl, rfl, trivial⟩ rfl (fun β w' hs => ?_)⟩
    have h3 := hs.weaken (List.Sublist.refl _) (List.sublist_cons_self _ _)
    show Sat _ _ _ _ [rowF ty_uint8 1 (.slice A' (i + 1) c') (i + 1) (((Bx.xorB l m).take (i + 1)).map byte), oldF w] _
    rw [xorB_snoc l m h1 h2, List.map_append]
    exact h3
  · have hge0 : ¬ (i : Int) < (r : Int) := hge
    obtain rfl : i = r := by omega
    intro β w' hs
    refine hs.fin [0] ⟨A1, c1, by rw [hr]; rfl, by rw [hr]; exact hc, hcm, ?_⟩
    show [rowF ty_uint8 1 (.slice A1 i c1) i _] = [rowF ty_uint8 1 (.slice A1 (Bx.xorB l m).length c1) (Bx.xorB l m).length _]
    rw [hr, List.take_of_length_le (by omega)]
theorem copyC (w : World) (A : Option Addr) (l : List UInt8) (c : Nat) (hr : Bs w A l) (hn : l.length ≤ lim) :
    Con Tryz.prog n_ostiaryref01_Copy #[.slice A l.length c] w [] fun v Fs => ∃ A' c', v = .slice A' l.length c' ∧ l.length ≤ c' ∧ c' ≤ maxLen ∧ Fs = [browF ty_uint8 A' l c'] := con_row (copy_c w A l c hr hn)
theorem Sat.ro {cx : Cx} {β : Va} {n : Nat} {H : List Bk} {F : List Fact} {w : World} (h : Sat cx β n H F w) (j : Nat) {e : Nat} {A : Option Addr} {l : List UInt8} {c : Nat} (hj : nth F j = some (browF e A l c)) : Sat cx β n H (putAt F j (bsF A l)) w := by
  have hp := h.get j hj
  exact h.upd hj rfl (Chg.refl _ _) (row_rd hp) (fun k hk => .inl (browRoD hp k hk))
theorem repl_reps : ∀ n, repl ti5.zero n = reps n 0
  | 0 => rfl
  | n + 1 => by
    rw [repl, repl_reps n]
    rfl
theorem rxor_c (w : World) (A B : Option Addr) (l m : List UInt8) (c d : Nat) (hl : Bs w A l) (hm : Bs w B m) (hn : l.length ≤ 1000000) :
    Con Tryz.prog n_ostiaryref02_Xor #[.slice A l.length c, .slice B m.length d] w [] fun v Fs => ∃ A' c', v = .slice A' (Bx.xorB l m).length c' ∧ (Bx.xorB l m).length ≤ c' ∧ c' ≤ maxLen ∧ Fs = [browF ty_uint8 A' (Bx.xorB l m) c'] := by
  have g := good_ostiaryref02_Xor w (Un [])
  refine con_of_sx (cx := cx_ostiaryref02_Xor w (Un [])) g b_ostiaryref02_Xor rfl rfl (β := Va.z) [.c (.v (.slice A l.length c)), .c (.v (.slice B m.length d))] 0 [] [oldF w] rfl rfl (old_sat rfl) ?_
  have hx := xorB_len l m
  obtain ⟨r, hr⟩ : ∃ r, (Bx.xorB l m).length = r := ⟨_, rfl⟩
  have hrn : r ≤ 1000000 := by omega
  refine ⟨(r : Int), ?_, ?_⟩
  · show min (l.length : Int) (m.length : Int) = _
    omega
  refine ⟨r, r, rfl, rfl, Nat.le_refl _, by show 1 * r ≤ _; omega, by rw [maxLen_eq]; omega, ?_⟩
  intro b
  refine loop_rule (ι := Nat) 0 (fun i => [(0, .c (.v (.slice A l.length c))), (1, .c (.v (.slice B m.length d))), (6, .c (.v (.slice (some ⟨b, 0, none⟩) r r))), (16, .c (.v (.int .i64 (r : Int)))), (17, .c (.v (.int .i64 (i : Int))))]) (fun _ => [])
    (fun i => [rowF ty_uint8 1 (.slice (some ⟨b, 0, none⟩) r r) r (((Bx.xorB l m).take i).map byte ++ reps (r - i) 0), oldF w])
    (fun i => i ≤ r) (fun i => r - i) 0 (Nat.zero_le _) (Ent.mk' ⟨rfl, rfl, rfl, rfl, rfl, trivial⟩ rfl (fun β w' hs => by
      have e : ((Bx.xorB l m).take 0).map byte ++ reps (r - 0) 0 = repl ti5.zero r := by rw [repl_reps]; simp
      rw [e]
      exact hs)) g ?_
  intro i hi
  refine BIf.dec (fun hlt => ?_) (fun hge => ?_)
  · have hlt0 : (i : Int) < (r : Int) := hlt
    have h1 : i < l.length := by omega
    have h2 : i < m.length := by omega
    obtain ⟨ad, hA⟩ := Bs.addr hl (by omega)
    obtain ⟨bd, hB⟩ := Bs.addr hm (by omega)
    refine draw_rule g p_ostiaryref02_Xor_6 (by kernel_rfl) [] [oldF w] (Sub.of (List.Sublist.refl _) (List.sublist_cons_self _ _)) ?_
    refine ⟨ad, i, hA, rfl, h1, byte l[i], fun β w' hs => Bs.cell (Rd.old hl (hs.get 0 rfl)) hA h1, ?_⟩
    refine ⟨bd, i, hB, rfl, h2, byte m[i], fun β w' hs => Bs.cell (Rd.old hm (hs.get 0 rfl)) hB h2, ?_⟩
    refine ⟨_, xor8 _ _, ?_⟩
    refine ⟨⟨b, 0, none⟩, i, rfl, rfl, by omega, ?_⟩
    refine ⟨[rowF ty_uint8 1 (.slice (some ⟨b, 0, none⟩) r r) r (((Bx.xorB l m).take (i + 1)).map byte ++ reps (r - (i + 1)) 0), oldF w], fun β w' hs => ?_, ?_⟩
    · obtain ⟨w2, q1, q2⟩ := hs.rowSet (j := 0) (o := i) (us := [byte (l[i] ^^^ m[i])]) rfl (by simp only [List.length_singleton]; omega) (fun u hu => by obtain rfl := List.mem_singleton.1 hu; rfl)
      have e : putAll (((Bx.xorB l m).take i).map byte ++ reps (r - i) 0) i [byte (l[i] ^^^ m[i])] = ((Bx.xorB l m).take (i + 1)).map byte ++ reps (r - (i + 1)) 0 := by
        have hl2 : (((Bx.xorB l m).take i).map byte).length = i := by rw [List.length_map, List.length_take, hr]; omega
        have q := putAll_app (((Bx.xorB l m).take i).map byte) (reps (r - i) 0) [byte (l[i] ^^^ m[i])] (by rw [reps_len]; simp only [List.length_singleton]; omega)
        rw [hl2] at q
        rw [q, xorB_snoc l m h1 h2, List.map_append]
        congr 1
        unfold reps
        rw [← List.map_drop, List.drop_replicate]
        congr 1
      rw [e] at q2
      have q1' : (storeCells ((⟨b, 0, none⟩ : Addr).add (i * 1)) [byte (l[i] ^^^ m[i])] 0).run (cx_ostiaryref02_Xor w (Un [])).P w' = .ok () w2 := by rw [Nat.mul_one]; exact q1
      exact ⟨w2, q1', q2⟩
    refine ⟨((i + 1 : Nat) : Int), by rw [wrap_i64 (by omega) (by omega)]; rfl, ?_⟩
    exact ⟨i + 1, by omega, by omega, Ent.same ⟨rfl, rfl, rfl, rfl, rfl, trivial⟩ rfl⟩
  · have hge0 : ¬ (i : Int) < (r : Int) := hge
    obtain rfl : i = r := by omega
    intro β w' hs
    refine hs.fin [0] ⟨some ⟨b, 0, none⟩, i, by rw [hr]; rfl, by omega, by rw [maxLen_eq]; omega, ?_⟩
    show [rowF ty_uint8 1 (.slice (some ⟨b, 0, none⟩) i i) i _] = [rowF ty_uint8 1 (.slice (some ⟨b, 0, none⟩) (Bx.xorB l m).length i) (Bx.xorB l m).length _]
    rw [hr, List.take_of_length_le (by omega), Nat.sub_self]
    simp [reps]
def rawK (k : List UInt8) : List UInt8 := k ++ List.replicate (64 - k.length) 0
theorem rawK_len {k : List UInt8} (h : k.length ≤ 64) : (rawK k).length = 64 := by simp [rawK]; omega
def turnN (k : List UInt8) (x : UInt8) (i : Nat) : List UInt8 := ((rawK k).take i).map (· ^^^ x) ++ (rawK k).drop i
theorem turnN_at {k : List UInt8} {x y : UInt8} {i : Nat} (h : (rawK k)[i]? = some y) : (turnN k x i)[i]? = some y := by
  have hi : i < (rawK k).length := (List.getElem?_eq_some_iff.1 h).1
  unfold turnN
  rw [List.getElem?_append_right (by simp only [List.length_map, List.length_take]; omega)]
  simp only [List.length_map, List.length_take, List.getElem?_drop]
  rw [show i + (i - min i (rawK k).length) = i by omega]
  exact h
theorem turnN_set {k : List UInt8} {x y : UInt8} {i : Nat} (h : (rawK k)[i]? = some y) : (turnN k x i).set i (y ^^^ x) = turnN k x (i + 1) := by
  have hi : i < (rawK k).length := (List.getElem?_eq_some_iff.1 h).1
  unfold turnN
  rw [List.set_append_right _ _ (by simp only [List.length_map, List.length_take]; omega)]
  simp only [List.length_map, List.length_take]
  rw [show i - min i (rawK k).length = 0 by omega, List.drop_eq_getElem_cons hi, List.set_cons_zero, List.take_add_one, h]
  simp
theorem turnN_all {k : List UInt8} {x : UInt8} (h : k.length ≤ 64) : turnN k x 64 = k.map (x ^^^ ·) ++ List.replicate (64 - k.length) x := by
  unfold turnN
  rw [List.take_of_length_le (by rw [rawK_len h]; omega), List.drop_of_length_le (by rw [rawK_len h]; omega), List.append_nil]
  unfold rawK
  rw [List.map_append, List.map_replicate]
  congr 1
  · exact List.map_congr_left fun y _ => UInt8.xor_comm _ _
  · congr 1
    exact UInt8.zero_xor
set_option maxHeartbeats 1000000 in
theorem rturned_c (w : World) (A : Option Addr) (l : List UInt8) (c : Nat) (x : UInt8) (hr : Bs w A l) (hn : l.length ≤ 1000000) (h1 : (oddF 3).p w) :
    Con Tryz.prog n_ostiaryref02_turned #[.slice A l.length c, byte x] w [] fun v Fs => ∃ b, v = .slice (some ⟨b, 0, none⟩) (padL l x).length 64 ∧ Fs = [browF ty_uint8 (some ⟨b, 0, none⟩) (padL l x) 64] := by
  have g := good_ostiaryref02_turned w (Un [])
  refine con_of_sx (cx := cx_ostiaryref02_turned w (Un [])) g b_ostiaryref02_turned rfl rfl (β := Va.z) [.c (.v (.slice A l.length c)), .c (.v (byte x))] 0 [] [oldF w] rfl rfl (old_sat rfl) ?_
  refine BIf.dec (fun hlt => ?_) (fun hge => ?_)
  · have hlt0 : (64 : Int) < (l.length : Int) := hlt
    obtain ⟨k, hks⟩ : ∃ k, Sha.sum l = k := ⟨_, rfl⟩
    have hk : keyL l = k := by unfold keyL; rw [if_pos (by omega)]; exact hks
    have hk64 : k.length ≤ 64 := by rw [← hk]; exact keyL_len
    refine call_con [] (R := fun v Fs => ∃ A' c', v = .slice A' k.length c' ∧ Fs = [browF ty_uint8 A' k c']) (fun β w' hs => (rsum_c w' A l c (Rd.old hr (hs.get 0 rfl)) (Rd.old h1 (hs.get 0 rfl)) (by omega)).mono (by rintro v Fs ⟨A', c', rfl, _, _, rfl⟩; exact ⟨A', c', by rw [← hks]; rfl, by rw [hks]⟩)) ?_
    rintro v Fs ⟨A2, c2, rfl, rfl⟩
    have hkr : ∀ {w'}, (browF ty_uint8 A2 k c2).p w' → Bs w' A2 k := fun h => row_rd h
    refine ⟨64, 64, rfl, rfl, Nat.le_refl _, by decide, by decide, ?_⟩
    intro b
    have hk0 : min k.length 64 = k.length := by omega
    refine ⟨[], [rowF ty_uint8 1 (.slice (some ⟨b, 0, none⟩) 64 64) 64 ((rawK k).map byte), browF ty_uint8 A2 k c2, oldF w], .c (.v (.int .i64 (k.length : Int))), fun β w' ty hs => ?_, trivial, ?_⟩
    · obtain ⟨w2, q1, q2⟩ := hs.copyRow g 0 (m := k.length) (cs := c2) rfl (hkr (hs.get 1 rfl)) (bytes_one k) ty (t := ty_sl_uint8) #[false, false] hk0
      have e : putAll (repl ti5.zero 64) 0 ((k.map byte).take k.length) = (rawK k).map byte := by
        rw [List.take_of_length_le (by simp)]
        have q := putAll_app [] (repl ti5.zero 64) (k.map byte) (by rw [repl_reps, reps_len, List.length_map]; omega)
        have q2 : putAll (repl ti5.zero 64) 0 (k.map byte) = k.map byte ++ (repl ti5.zero 64).drop (k.map byte).length := q
        rw [q2, repl_reps, List.length_map]
        unfold rawK reps
        rw [List.map_append, ← List.map_drop, List.drop_replicate]
      rw [e] at q2
      exact ⟨w2, q1, q2⟩
    refine loop_rule (ι := Nat) 0 (fun i => [(1, .c (.v (byte x))), (5, .c (.v (.slice (some ⟨b, 0, none⟩) 64 64))), (17, .c (.v (.int .i64 64))), (18, .c (.v (.int .i64 (i : Int))))]) (fun _ => []) (fun i => [rowF ty_uint8 1 (.slice (some ⟨b, 0, none⟩) 64 64) 64 ((turnN k x i).map byte), browF ty_uint8 A2 k c2, oldF w])
      (fun i => i ≤ 64) (fun i => 64 - i) 0 (Nat.zero_le _) (Ent.same ⟨rfl, rfl, rfl, rfl, trivial⟩ rfl) g ?_
    intro i hi
    refine BIf.dec (fun hlt2 => ?_) (fun hge2 => ?_)
    · have hlt0 : (i : Int) < 64 := hlt2
      have hik : i < (rawK k).length := by rw [rawK_len hk64]; omega
      obtain ⟨y, hy, _⟩ := at_lt hik
      have hat := turnN_at (x := x) hy
      refine ⟨⟨b, 0, none⟩, i, rfl, rfl, by omega, byte y, fun β w' hs => by
        have h : Rd 1 (some ⟨b, 0, none⟩) 64 ((turnN k x i).map byte) w' := row_rd (hs.get 0 rfl)
        exact Rd.cell1 h (by rw [List.getElem?_map, hat]; rfl), _, xor8 y x, ?_⟩
      refine ⟨⟨b, 0, none⟩, i, rfl, rfl, by omega, [rowF ty_uint8 1 (.slice (some ⟨b, 0, none⟩) 64 64) 64 ((turnN k x (i + 1)).map byte), browF ty_uint8 A2 k c2, oldF w], fun β w' hs => ?_, ?_⟩
      · obtain ⟨w2, q1, q2⟩ := hs.rowSet (j := 0) (o := i) (us := [byte (y ^^^ x)]) rfl (by simp only [List.length_singleton]; omega) (fun u hu => by obtain rfl := List.mem_singleton.1 hu; rfl)
        have e : putAll ((turnN k x i).map byte) i [byte (y ^^^ x)] = (turnN k x (i + 1)).map byte := by
          rw [putAll, putAll, putAt_eq, ← turnN_set hy, List.map_set]
        rw [e] at q2
        have q1' : (storeCells ((⟨b, 0, none⟩ : Addr).add (i * 1)) [byte (y ^^^ x)] 0).run (cx_ostiaryref02_turned w (Un [])).P w' = .ok () w2 := by rw [Nat.mul_one]; exact q1
        exact ⟨w2, q1', q2⟩
      · refine ⟨((i + 1 : Nat) : Int), by rw [wrap_i64 (by omega) (by omega)]; rfl, ?_⟩
        exact ⟨i + 1, by omega, by omega, Ent.same ⟨rfl, rfl, rfl, rfl, trivial⟩ rfl⟩
    · have hge0 : ¬ (i : Int) < 64 := hge2
      obtain rfl : i = 64 := by omega
      intro β w' hs
      have hp : padL l x = turnN k x 64 := by rw [turnN_all hk64]; unfold padL; rw [hk]
      refine hs.fin [0] ⟨b, by rw [padL_len]; rfl, ?_⟩
      show [rowF ty_uint8 1 (.slice (some ⟨b, 0, none⟩) 64 64) 64 _] = [rowF ty_uint8 1 (.slice (some ⟨b, 0, none⟩) (padL l x).length 64) (padL l x).length ((padL l x).map byte)]
      rw [padL_len, hp]
  · have hge0 : ¬ (64 : Int) < (l.length : Int) := hge
    obtain ⟨k, hks⟩ : ∃ k, l = k := ⟨_, rfl⟩
    have hk : keyL l = k := by unfold keyL; rw [if_neg (by omega)]; exact hks
    have hk64 : k.length ≤ 64 := by rw [← hk]; exact keyL_len
    have hr' : Bs w A k := by rw [← hks]; exact hr
    have hlk : l.length = k.length := by rw [hks]
    rw [hlk]
    have hkr : ∀ {w'}, (oldF w).p w' → Bs w' A k := fun h => Rd.old hr' h
    refine ⟨64, 64, rfl, rfl, Nat.le_refl _, by decide, by decide, ?_⟩
    intro b
    have hk0 : min k.length 64 = k.length := by omega
    refine ⟨[], [rowF ty_uint8 1 (.slice (some ⟨b, 0, none⟩) 64 64) 64 ((rawK k).map byte), oldF w], .c (.v (.int .i64 (k.length : Int))), fun β w' ty hs => ?_, trivial, ?_⟩
    · obtain ⟨w2, q1, q2⟩ := hs.copyRow g 0 (m := k.length) (cs := c) rfl (hkr (hs.get 1 rfl)) (bytes_one k) ty (t := ty_sl_uint8) #[false, false] hk0
      have e : putAll (repl ti5.zero 64) 0 ((k.map byte).take k.length) = (rawK k).map byte := by
        rw [List.take_of_length_le (by simp)]
        have q := putAll_app [] (repl ti5.zero 64) (k.map byte) (by rw [repl_reps, reps_len, List.length_map]; omega)
        have q2 : putAll (repl ti5.zero 64) 0 (k.map byte) = k.map byte ++ (repl ti5.zero 64).drop (k.map byte).length := q
        rw [q2, repl_reps, List.length_map]
        unfold rawK reps
        rw [List.map_append, ← List.map_drop, List.drop_replicate]
      rw [e] at q2
      exact ⟨w2, q1, q2⟩
    refine loop_rule (ι := Nat) 0 (fun i => [(1, .c (.v (byte x))), (5, .c (.v (.slice (some ⟨b, 0, none⟩) 64 64))), (17, .c (.v (.int .i64 64))), (18, .c (.v (.int .i64 (i : Int))))]) (fun _ => []) (fun i => [rowF ty_uint8 1 (.slice (some ⟨b, 0, none⟩) 64 64) 64 ((turnN k x i).map byte), oldF w])
      (fun i => i ≤ 64) (fun i => 64 - i) 0 (Nat.zero_le _) (Ent.same ⟨rfl, rfl, rfl, rfl, trivial⟩ rfl) g ?_
    intro i hi
    refine BIf.dec (fun hlt2 => ?_) (fun hge2 => ?_)
    · have hlt0 : (i : Int) < 64 := hlt2
      have hik : i < (rawK k).length := by rw [rawK_len hk64]; omega
      obtain ⟨y, hy, _⟩ := at_lt hik
      have hat := turnN_at (x := x) hy
      refine ⟨⟨b, 0, none⟩, i, rfl, rfl, by omega, byte y, fun β w' hs => by
        have h : Rd 1 (some ⟨b, 0, none⟩) 64 ((turnN k x i).map byte) w' := row_rd (hs.get 0 rfl)
        exact Rd.cell1 h (by rw [List.getElem?_map, hat]; rfl), _, xor8 y x, ?_⟩
      refine ⟨⟨b, 0, none⟩, i, rfl, rfl, by omega, [rowF ty_uint8 1 (.slice (some ⟨b, 0, none⟩) 64 64) 64 ((turnN k x (i + 1)).map byte), oldF w], fun β w' hs => ?_, ?_⟩
      · obtain ⟨w2, q1, q2⟩ := hs.rowSet (j := 0) (o := i) (us := [byte (y ^^^ x)]) rfl (by simp only [List.length_singleton]; omega) (fun u hu => by obtain rfl := List.mem_singleton.1 hu; rfl)
        have e : putAll ((turnN k x i).map byte) i [byte (y ^^^ x)] = (turnN k x (i + 1)).map byte := by
          rw [putAll, putAll, putAt_eq, ← turnN_set hy, List.map_set]
        rw [e] at q2
        have q1' : (storeCells ((⟨b, 0, none⟩ : Addr).add (i * 1)) [byte (y ^^^ x)] 0).run (cx_ostiaryref02_turned w (Un [])).P w' = .ok () w2 := by rw [Nat.mul_one]; exact q1
        exact ⟨w2, q1', q2⟩
      · refine ⟨((i + 1 : Nat) : Int), by rw [wrap_i64 (by omega) (by omega)]; rfl, ?_⟩
        exact ⟨i + 1, by omega, by omega, Ent.same ⟨rfl, rfl, rfl, rfl, trivial⟩ rfl⟩
    · have hge0 : ¬ (i : Int) < 64 := hge2
      obtain rfl : i = 64 := by omega
      intro β w' hs
      have hp : padL l x = turnN k x 64 := by rw [turnN_all hk64]; unfold padL; rw [hk]
      refine hs.fin [0] ⟨b, by rw [padL_len]; rfl, ?_⟩
      show [rowF ty_uint8 1 (.slice (some ⟨b, 0, none⟩) 64 64) 64 _] = [rowF ty_uint8 1 (.slice (some ⟨b, 0, none⟩) (padL l x).length 64) (padL l x).length ((padL l x).map byte)]
      rw [padL_len, hp]
theorem rhsum_c (w : World) (A B : Option Addr) (key text : List UInt8) (c d : Nat) (hr : Bs w A key) (ht : Bs w B text) (hk : key.length ≤ 1000000) (hn : text.length ≤ 1000000) (h1 : (oddF 3).p w) :
    Con Tryz.prog n_ostiaryref02_Sum #[.slice A key.length c, .slice B text.length d] w [] fun v Fs => ∃ A' c', v = .slice A' 32 c' ∧ 32 ≤ c' ∧ c' ≤ maxLen ∧ Fs = [browF ty_uint8 A' (hmL key text) c'] := by
  have g := good_ostiaryref02_Sum w (Un [])
  have hml := maxLen_eq
  refine con_of_sx (cx := cx_ostiaryref02_Sum w (Un [])) g b_ostiaryref02_Sum rfl rfl (β := Va.z) [.c (.v (.slice A key.length c)), .c (.v (.slice B text.length d))] 0 [] [oldF w] rfl rfl (old_sat rfl) ?_
  refine call_con [] (fun β w' hs => rturned_c w' A key c 0x5c (Rd.old hr (hs.get 0 rfl)) hk (Rd.old h1 (hs.get 0 rfl))) ?_
  rintro v Fs ⟨p1, rfl, rfl⟩
  refine call_con [] (fun β w' hs => rturned_c w' A key c 0x36 (Rd.old hr (hs.get 1 rfl)) hk (Rd.old h1 (hs.get 1 rfl))) ?_
  rintro v Fs ⟨p2, rfl, rfl⟩
  have l64 : ∀ x, (padL key x).length = 64 := padL_len key
  have e1 : (padL key 0x36 ++ text).length = 64 + text.length := by rw [List.length_append, l64]
  refine ⟨0, (padL key 0x36).length, (padL key 0x36 ++ text).length, (padL key 0x36).map byte, text.map byte, (padL key 0x36 ++ text).map byte, rfl, fun β w' hs => Rd.old ht (hs.get 2 rfl), bytes_one _, by rw [List.length_append], by rw [List.map_append], by omega, by show (padL key 0x36 ++ text).length * 1 ≤ _; omega, ?_⟩
  intro A1 c1 hc1 hm1 _
  refine call_con [] (fun β w' hs => rsum_c w' A1 (padL key 0x36 ++ text) c1 (row_rd (hs.get 0 rfl)) (Rd.old h1 (hs.get 2 rfl)) (by omega)) ?_
  rintro v Fs ⟨A2, c2, rfl, hc2, hm2, rfl⟩
  obtain ⟨s1, hs1⟩ : ∃ s1, Sha.sum (padL key 0x36 ++ text) = s1 := ⟨_, rfl⟩
  have hs1l : s1.length = 32 := by rw [← hs1]; exact sum_len _
  have hhm : hmL key text = Sha.sum (padL key 0x5c ++ s1) := by unfold hmL; rw [hs1]
  have e2 : (padL key 0x5c ++ s1).length = 96 := by rw [List.length_append, l64, hs1l]
  have e0 : (padL key 0x5c).length + 32 = (padL key 0x5c ++ s1).length := by rw [List.length_append, hs1l]
  refine ⟨2, (padL key 0x5c).length, (padL key 0x5c ++ s1).length, (padL key 0x5c).map byte, s1.map byte, (padL key 0x5c ++ s1).map byte, rfl, fun β w' hs => ?_, bytes_one _, e0, by rw [List.map_append], by omega, by show (padL key 0x5c ++ s1).length * 1 ≤ _; omega, ?_⟩
  · have h : Bs w' A2 (Sha.sum (padL key 0x36 ++ text)) := row_rd (hs.get 0 rfl)
    rw [hs1] at h
    have h' : Rd 1 A2 s1.length (s1.map byte) w' := h
    rw [hs1l] at h'
    exact h'
  intro A3 c3 hc3 hm3 _
  refine call_con [] (fun β w' hs => rsum_c w' A3 (padL key 0x5c ++ s1) c3 (row_rd (hs.get 2 rfl)) (Rd.old h1 (hs.get 3 rfl)) (by omega)) ?_
  rintro v Fs ⟨A4, c4, rfl, h5, h6, rfl⟩
  intro β w' hs
  exact hs.fin [0] ⟨A4, c4, rfl, h5, h6, by rw [hhm]; rfl⟩
theorem cutA_z (A : Option Addr) {m : Nat} : cutA A m 0 1 = A := by
  unfold cutA
  split
  · rfl
  · cases A with
    | none => rfl
    | some ad => simp [Addr.add]
theorem Sat.dupRo {cx : Cx} {β : Va} {n : Nat} {H : List Bk} {F : List Fact} {w : World} (h : Sat cx β n H F w) (j : Nat) {A : Option Addr} {l : List UInt8} (hj : nth F j = some (bsF A l)) : Sat cx β n H (bsF A l :: F) w :=
  h.sub j hj rfl (bsF A l) rfl (h.get j hj) (fun _ hk => hk)
set_option maxHeartbeats 1000000 in
theorem rstretch_c (w : World) (A B : Option Addr) (pass salt : List UInt8) (c d rounds : Nat) (hr : Bs w A pass) (ht : Bs w B salt) (hk : pass.length ≤ 1000000) (hn : salt.length ≤ 100000) (hr1 : 1 ≤ rounds) (hr2 : rounds ≤ 64) (h1 : (oddF 3).p w) :
    Con Tryz.prog n_ostiaryref02_Stretch #[.slice A pass.length c, .slice B salt.length d, .int .i64 rounds, .int .i64 32] w [] fun v Fs => ∃ A' c', v = .slice A' (stretchL pass salt rounds).length c' ∧ (stretchL pass salt rounds).length ≤ c' ∧ c' ≤ maxLen ∧ Fs = [browF ty_uint8 A' (stretchL pass salt rounds) c'] := by
  have g := good_ostiaryref02_Stretch w (Un [])
  have hml := maxLen_eq
  have hT : (stretchL pass salt rounds).length = 32 := strX_len _ _ _
  obtain ⟨T, hTe⟩ : ∃ T, stretchL pass salt rounds = T := ⟨_, rfl⟩
  rw [hTe] at hT ⊢
  refine con_of_sx (cx := cx_ostiaryref02_Stretch w (Un [])) g b_ostiaryref02_Stretch rfl rfl (β := Va.z) [.c (.v (.slice A pass.length c)), .c (.v (.slice B salt.length d)), .c (.v (.int .i64 rounds)), .c (.v (.int .i64 32))] 0 [] [oldF w] rfl rfl (old_sat rfl) ?_
  refine BIf.dec (fun q => absurd (show (rounds : Int) < 1 from q) (by omega)) (fun _ => ?_)
  refine BIf.dec (fun q => absurd (show (64 : Int) < (rounds : Int) from q) (by omega)) (fun _ => ?_)
  refine loop_rule (ι := Bool × Option Addr × Nat) 0 (fun i => [(0, .c (.v (.slice A pass.length c))), (1, .c (.v (.slice B salt.length d))), (2, .c (.v (.int .i64 rounds))), (3, .c (.v (.int .i64 32))), (9, .c (.v (.slice i.2.1 (if i.1 then T else []).length i.2.2))), (10, .c (.v (.int .u64 (if i.1 then 2 else 1))))]) (fun _ => []) (fun i => [browF ty_uint8 i.2.1 (if i.1 then T else []) i.2.2, oldF w])
    (fun i => (i.1 = false → i.2.1 = none ∧ i.2.2 = 0) ∧ (i.1 = true → 32 ≤ i.2.2 ∧ i.2.2 ≤ maxLen)) (fun i => if i.1 then 0 else 1) (false, none, 0) ⟨fun _ => ⟨rfl, rfl⟩, fun q => by cases q⟩ (Ent.mk' ⟨rfl, rfl, rfl, rfl, rfl, rfl, trivial⟩ rfl (fun β w' hs => hs.nilRow _ _)) g ?_
  rintro ⟨fl, A0, c0⟩ ⟨hfl, hft⟩
  simp only at hfl hft
  cases fl with
  | true =>
    obtain ⟨hc1, hc2⟩ := hft rfl
    refine BIf.dec (fun q => ?_) (fun _ => ?_)
    · have q0 : (T.length : Int) < 32 := q
      omega
    · refine ⟨c0, 32, 0, 32, c0, A0, rfl, rfl, rfl, Nat.le_refl _, hc1, Nat.zero_le _, rfl, rfl, cutA_z A0, ?_⟩
      intro β w' hs
      exact hs.fin [0] ⟨A0, c0, by rw [hT]; rfl, by omega, hc2, rfl⟩
  | false =>
    obtain ⟨rfl, rfl⟩ := hfl rfl
    refine call_con [] (fun β w' hs => copyC w' B salt d (Rd.old ht (hs.get 1 rfl)) (by rw [lim_eq]; omega)) ?_
    rintro v Fs ⟨A1, c1, rfl, hc1, hm1, rfl⟩
    refine call_con [] (fun β w' hs => be_con w' 1 4 (by decide) (by decide)) ?_
    rintro v Fs ⟨A2, c2, rfl, hc2, hm2, rfl⟩
    have e1 : (salt ++ be 4 1).length = salt.length + 4 := by rw [List.length_append]; rfl
    refine ⟨1, salt.length, (salt ++ be 4 1).length, salt.map byte, (be 4 1).map byte, (salt ++ be 4 1).map byte, rfl, fun β w' hs => row_rd (hs.get 0 rfl), bytes_one _, by rw [List.length_append], by rw [List.map_append], by omega, by show (salt ++ be 4 1).length * 1 ≤ _; omega, ?_⟩
    intro A3 c3 hc3 hm3 _
    refine call_con [] (fun β w' hs => rhsum_c w' A A3 pass (salt ++ be 4 1) c c3 (Rd.old hr (hs.get 3 rfl)) (row_rd (hs.get 1 rfl)) hk (by omega) (Rd.old h1 (hs.get 3 rfl))) ?_
    rintro v Fs ⟨A4, c4, rfl, hc4, hm4, rfl⟩
    have hbe : be 4 1 = Bx.be4 1 := rfl
    obtain ⟨S, hSe⟩ : ∃ S : Nat → List UInt8, S = strU pass salt := ⟨_, rfl⟩
    obtain ⟨X, hXe⟩ : ∃ X : Nat → List UInt8, X = strX pass salt := ⟨_, rfl⟩
    have hS0 : hmL pass (salt ++ be 4 1) = S 0 := by rw [hSe, hbe]; rfl
    have hX0 : S 0 = X 0 := by rw [hSe, hXe]; rfl
    have hSl : ∀ n, (S n).length = 32 := fun n => by rw [hSe]; exact strU_len _ _ n
    have hXl : ∀ n, (X n).length = 32 := fun n => by rw [hXe]; exact strX_len _ _ n
    have hSs : ∀ n, hmL pass (S n) = S (n + 1) := fun n => by rw [hSe]; rfl
    have hXs : ∀ n, Bx.xorB (X n) (S (n + 1)) = X (n + 1) := fun n => by rw [hSe, hXe]; rfl
    have hTX : T = X (rounds - 1) := by rw [← hTe, hXe]; rfl
    refine loop_rule (ι := Nat × (Option Addr × Nat) × (Option Addr × Nat)) 0 (fun i => [(0, .c (.v (.slice A pass.length c))), (1, .c (.v (.slice B salt.length d))), (2, .c (.v (.int .i64 rounds))), (3, .c (.v (.int .i64 32))), (9, .c (.v (.slice none 0 0))), (10, .c (.v (.int .u64 1))), (11, .c (.v (.slice i.2.1.1 32 i.2.1.2))), (12, .c (.v (.slice i.2.2.1 32 i.2.2.2))), (13, .c (.v (.int .i64 ((i.1 + 1 : Nat) : Int))))]) (fun _ => [])
      (fun i => [bsF i.2.1.1 (S i.1), bsF i.2.2.1 (X i.1), browF ty_uint8 none [] 0, oldF w]) (fun i => i.1 + 1 ≤ rounds) (fun i => rounds - i.1) (0, (A4, c4), (A4, c4)) (by show 0 + 1 ≤ rounds; omega)
      (Ent.mk' ⟨rfl, rfl, rfl, rfl, rfl, rfl, rfl, rfl, rfl, trivial⟩ rfl (fun β w' hs => by
        have k1 := (hs.perm [0, 3, 4]).ro 0 rfl
        rw [hS0] at k1
        have k2 := k1.dupRo 0 rfl
        rw [← hX0]
        exact k2)) g ?_
    rintro ⟨i, ⟨Au, cu⟩, ⟨Ax, cx_⟩⟩ hi
    simp only at hi
    refine BIf.dec (fun hlt => ?_) (fun hge => ?_)
    · have hlt0 : ((i + 1 : Nat) : Int) < (rounds : Int) := hlt
      refine call_con [] (R := fun v Fs => ∃ A' c', v = .slice A' 32 c' ∧ Fs = [browF ty_uint8 A' (S (i + 1)) c']) (fun β w' hs => by
        have q := rhsum_c w' A Au pass (S i) c cu (Rd.old hr (hs.get 3 rfl)) (hs.get 0 rfl) hk (by rw [hSl]; decide) (Rd.old h1 (hs.get 3 rfl))
        rw [hSl, hSs] at q
        exact q.mono (by rintro v Fs ⟨A', c', rfl, _, _, rfl⟩; exact ⟨A', c', rfl, rfl⟩)) ?_
      rintro v Fs ⟨A5, c5, rfl, rfl⟩
      refine call_con [] (R := fun v Fs => ∃ A' c', v = .slice A' 32 c' ∧ Fs = [browF ty_uint8 A' (X (i + 1)) c']) (fun β w' hs => by
        have q := rxor_c w' Ax A5 (X i) (S (i + 1)) cx_ c5 (hs.get 2 rfl) (row_rd (hs.get 0 rfl)) (by rw [hXl]; decide)
        rw [hXl, hSl, hXs] at q
        exact q.mono (by rintro v Fs ⟨A', c', rfl, _, _, rfl⟩; exact ⟨A', c', by rw [hXl], rfl⟩)) ?_
      rintro v Fs ⟨A6, c6, rfl, rfl⟩
      refine ⟨((i + 1 + 1 : Nat) : Int), by rw [wrap_i64 (by omega) (by omega)]; rfl, ?_⟩
      refine ⟨(i + 1, (A5, c5), (A6, c6)), by show i + 1 + 1 ≤ rounds; omega, by show rounds - (i + 1) < rounds - i; omega, Ent.mk' ⟨rfl, rfl, rfl, rfl, rfl, rfl, rfl, rfl, rfl, trivial⟩ rfl (fun β w' hs => ?_)⟩
      exact ((hs.ro 0 rfl).ro 1 rfl).perm [1, 0, 4, 5]
    · have hge0 : ¬ ((i + 1 : Nat) : Int) < (rounds : Int) := hge
      have hir : i = rounds - 1 := by omega
      refine ⟨2, 0, 32, [], (X i).map byte, (X i).map byte, rfl, fun β w' hs => ?_, bytes_one _, rfl, rfl, by omega, by decide, ?_⟩
      · have h : Bs w' Ax (X i) := hs.get 1 rfl
        have h' : Rd 1 Ax (X i).length ((X i).map byte) w' := h
        rw [hXl] at h'
        exact h'
      intro A7 c7 hc7 hm7 _
      refine ⟨2, by decide, ?_⟩
      refine ⟨(true, A7, c7), ⟨fun q => (by cases q), fun _ => ⟨hc7, hm7⟩⟩, by show 0 < 1; decide, Ent.mk' ⟨rfl, rfl, rfl, rfl, by show get _ 9 = some (SV.c (.v (.slice A7 T.length c7))); rw [hT]; rfl, rfl, trivial⟩ rfl (fun β w' hs => ?_)⟩
      have k := hs.perm [2, 3]
      show Sat _ _ _ _ [rowF ty_uint8 1 (.slice A7 T.length c7) T.length (T.map byte), oldF w] w'
      rw [hT, hTX, ← hir]
      exact k
end Go.Proofs.YtoifclfanabalaaGreatDoor.Sx

namespace Go.Proofs.YtoifclfanabalaaGreatDoor.Sx
open Go Sha
attribute [local irreducible] Calls
theorem go_add : ∀ (a b : Nat) (s : S8) (T : List UInt8), go (a + b) s T = go b (go a s T) (T.drop (64 * a))
  | 0, b, s, T => by simp [go]
  | a + 1, b, s, T => by
    rw [show a + 1 + b = (a + b) + 1 by omega, go, go, go_add a b, List.drop_drop]
    congr 2
    omega
theorem go_app : ∀ (n : Nat) (s : S8) (T p : List UInt8), 64 * n ≤ T.length → go n s (T ++ p) = go n s T
  | 0, _, _, _, _ => rfl
  | n + 1, s, T, p, h => by
    rw [go, go, List.take_append_of_le_length (by omega), List.drop_append_of_le_length (by omega), go_app n _ _ _ (by rw [List.length_drop]; omega)]
def stT (T : List UInt8) : S8 := go (T.length / 64) Sha.first T
def restT (T : List UInt8) : List UInt8 := T.drop (64 * (T.length / 64))
theorem restT_len (T : List UInt8) : (restT T).length = T.length % 64 := by unfold restT; rw [List.length_drop]; omega
theorem T_div (T p : List UInt8) : (T ++ p).length / 64 = T.length / 64 + (restT T ++ p).length / 64 := by
  rw [List.length_append, List.length_append, restT_len]
  omega
theorem T_drop (T p : List UInt8) : (T ++ p).drop (64 * (T.length / 64)) = restT T ++ p := by
  rw [List.drop_append_of_le_length (by omega)]
  rfl
theorem stT_app (T p : List UInt8) : stT (T ++ p) = (blks (restT T ++ p) ((restT T ++ p).length / 64)).foldl Sha.step (stT T) := by
  rw [← go_eq]
  unfold stT
  rw [T_div, go_add, go_app _ _ _ _ (by omega), T_drop]
theorem restT_app (T p : List UInt8) : restT (T ++ p) = (restT T ++ p).drop (64 * ((restT T ++ p).length / 64)) := by
  conv => lhs; unfold restT
  rw [T_div, Nat.mul_add, ← List.drop_drop, T_drop]
theorem sum_T (T : List UInt8) : Sha.sum T = out ((blks (restT T ++ ends T.length) ((restT T ++ ends T.length).length / 64)).foldl Sha.step (stT T)) := by
  rw [← stT_app]
  rfl
def hshC (T : List UInt8) (A : Option Addr) (c : Nat) : List Value := (stT T).l.map u32 ++ [.slice A (restT T).length c, .int .u64 (T.length : Int)]
def hshF (b : Nat) (T : List UInt8) (A : Option Addr) (c : Nat) : Fact := sepF [bkF b ty_sha_Hash (hshC T A c), browF ty_uint8 A (restT T) c]
theorem hsh_bk {b : Nat} {T : List UInt8} {A : Option Addr} {c : Nat} {w : World} (h : (hshF b T A c).p w) : (bkF b ty_sha_Hash (hshC T A c)).p w := h.1 _ (by simp)
theorem hsh_row {b : Nat} {T : List UInt8} {A : Option Addr} {c : Nat} {w : World} (h : (hshF b T A c).p w) : Bs w A (restT T) := row_rd (h.1 (browF ty_uint8 A (restT T) c) (by simp))
def ptrB (b : Nat) : Value := .pointer (some ⟨b, 0, none⟩)
theorem bkcell {b ty : Nat} {cs : List Value} {w : World} (h : (bkF b ty cs).p w) {o : Nat} {v : Value} (ho : cs[o]? = some v) : w.cell? ⟨b, o, none⟩ = some v := by
  have h' : w.heap[b]? = some (.cells cs.toArray ty (0, 0)) := h
  rw [cell_of_row w b o _ _ _ h']
  simpa using ho
theorem factOld {f : Fact} {W w : World} (h : f.p W) (hD : ∀ k, f.D k → k < W.heap.size) (ho : (oldF W).p w) : f.p w := f.st W w (fun k hk => ho k (hD k hk)) h
theorem hnew_c (w : World) (h0 : (firstF 0).p w) : Con Tryz.prog n_sha_New #[] w [] fun v Fs => ∃ b, v = ptrB b ∧ Fs = [hshF b [] none 0] := by
  have g := good_sha_New w (Un [])
  refine con_of_sx (cx := cx_sha_New w (Un [])) g b_sha_New rfl rfl (β := Va.z) [] 0 [] [oldF w] rfl rfl (old_sat rfl) ?_
  refine ⟨Sha.first.l.map u32, rfl, fun β w' hs j u hu => ?_, ?_⟩
  · have h2 : Rd 1 (some ⟨0, 0, none⟩) 8 (Sha.first.l.map u32) w' := Rd.old h0 (hs.get 0 rfl)
    obtain ⟨ad, h3, h4⟩ := h2.2 (by decide)
    obtain rfl := Option.some.inj h3
    exact h4 j u hu
  intro β w' hs
  have k := (hs.ofBk.nilRow ty_uint8 1).sep [1, 0]
  exact k.fin [0] ⟨β 0, rfl, rfl⟩
theorem hcopy_c (w : World) (b : Nat) (T : List UInt8) (A : Option Addr) (c : Nat) (h : (hshF b T A c).p w) (hD : ∀ k, (hshF b T A c).D k → k < w.heap.size) :
    Con Tryz.prog n_sha_Hash_Copy #[ptrB b] w [] fun v Fs => ∃ b' A' c', v = ptrB b' ∧ (restT T).length ≤ c' ∧ c' ≤ maxLen ∧ Fs = [hshF b' T A' c'] := by
  have g := good_sha_Hash_Copy w (Un [])
  have hrl := restT_len T
  refine con_of_sx (cx := cx_sha_Hash_Copy w (Un [])) g b_sha_Hash_Copy rfl rfl (β := Va.z) [.c (.v (ptrB b))] 0 [] [oldF w] rfl rfl (old_sat rfl) ?_
  refine ⟨hshC T A c, rfl, fun β w' hs j u hu => ?_, ?_⟩
  · rw [add_none, Nat.zero_add]
    exact bkcell (hsh_bk (factOld h hD (hs.get 0 rfl))) hu
  refine ⟨.slice A (restT T).length c, fun β w' hs => bkcell (hsh_bk (factOld h hD (hs.get 0 rfl))) rfl, ?_⟩
  refine call_con [] (fun β w' hs => clone_c w' A (restT T) c (hsh_row (factOld h hD (hs.get 0 rfl))) (by omega)) ?_
  rintro v Fs ⟨A', c', rfl, q1, q2, rfl⟩
  intro β w' hs
  have k := hs.ofBk.sep [0, 1]
  exact k.fin [0] ⟨β 0, A', c', rfl, q1, q2, rfl⟩
def cellF (b o : Nat) (v : Value) : Fact where
  own := true
  D := fun k => k = b
  p := fun w => w.cell? ⟨b, o, none⟩ = some v
  st := fun w w' hs h => by rw [← h]; exact World.cell?_of_block (hs b rfl)
theorem Sat.cellOf {cx : Cx} {β : Va} {n : Nat} {H : List Bk} {F : List Fact} {w : World} (h : Sat cx β n H F w) (j : Nat) {b ty : Nat} {cs : List Value} (hj : nth F j = some (bkF b ty cs)) (o : Nat) {v : Value} (ho : cs[o]? = some v) : Sat cx β n H (putAt F j (cellF b o v)) w :=
  h.upd hj rfl (Chg.refl _ _) (bkcell (h.get j hj) ho) (fun k hk => .inl hk)
theorem cut_blk {A B : Option Addr} (h : ∀ ad, B = some ad → ∃ ad', A = some ad' ∧ ad'.block = ad.block) {c i : Nat} : ∀ ad, cutA B c i 1 = some ad → ∃ ad', A = some ad' ∧ ad'.block = ad.block := by
  intro ad q
  unfold cutA at q
  split at q
  · exact h ad q
  · cases B with
    | none => cases q
    | some x =>
      obtain ⟨ad', h1, h2⟩ := h x rfl
      obtain rfl := Option.some.inj q
      refine ⟨ad', h1, ?_⟩
      rw [h2]
      unfold Addr.add
      split <;> rfl
theorem bsD_sub {A B : Option Addr} {l m : List UInt8} (h : ∀ ad, B = some ad → ∃ ad', A = some ad' ∧ ad'.block = ad.block) (hl : m.length ≤ l.length) : ∀ k, (bsF B m).D k → (bsF A l).D k := by
  rintro k ⟨h0, ad, q, rfl⟩
  obtain ⟨ad', h1, h2⟩ := h ad q
  exact ⟨by omega, ad', h1, h2⟩
set_option maxHeartbeats 1000000 in
theorem hwrite_c (w : World) (b : Nat) (T : List UInt8) (A : Option Addr) (c : Nat) (P : Option Addr) (p : List UInt8) (d : Nat) (hn : T.length + p.length ≤ 1000000000) (hm : Mem w [hshF b T A c, bsF P p, oddF 2]) :
    Con Tryz.prog n_sha_Hash_Write #[ptrB b, .slice P p.length d] w [hshF b T A c] fun v Fs => ∃ A' c', v = .int .i64 p.length ∧ Fs = [hshF b (T ++ p) A' c'] := by
  have g := good_sha_Hash_Write w (Un [hshF b T A c])
  have hrl := restT_len T
  have hml := maxLen_eq
  have hs0 : Sat (cx_sha_Hash_Write w (Un [hshF b T A c])) Va.z 0 [] [hshF b T A c, bsF P p, oddF 2] w := hm.sat0 rfl (ownIn (Gs := [hshF b T A c]) (fun f hf => by
    simp only [List.mem_cons, List.not_mem_nil, or_false] at hf
    rcases hf with rfl | rfl <;> rfl))
  refine con_of_sx (cx := cx_sha_Hash_Write w (Un [hshF b T A c])) g b_sha_Hash_Write rfl rfl (β := Va.z) [.c (.v (ptrB b)), .c (.v (.slice P p.length d))] 0 [] [bkF b ty_sha_Hash (hshC T A c), browF ty_uint8 A (restT T) c, bsF P p, oddF 2] rfl rfl (hs0.unsep 0 rfl) ?_
  obtain ⟨N, hN⟩ : ∃ N : Nat, T.length + p.length = N := ⟨_, rfl⟩
  obtain ⟨q, hq⟩ : ∃ q, restT T ++ p = q := ⟨_, rfl⟩
  have hql : q.length = T.length % 64 + p.length := by rw [← hq, List.length_append, hrl]
  obtain ⟨s0, hs0e⟩ : ∃ s0, stT T = s0 := ⟨_, rfl⟩
  refine ⟨.int .u64 (T.length : Int), fun β w' hs => bkcell (hs.get 0 rfl) rfl, (p.length : Int), by rw [wrap_u64']; omega, (N : Int), by rw [wrap_u64']; omega, ?_⟩
  refine ⟨[bkF b ty_sha_Hash (s0.l.map u32 ++ [.slice A (restT T).length c, .int .u64 (N : Int)]), browF ty_uint8 A (restT T) c, bsF P p, oddF 2], fun β w' hs => ?_, ?_⟩
  · have k := hs.bkSet 0 (o := 9) (us := [.int .u64 (N : Int)]) rfl (show 9 + 1 ≤ 10 by decide) (fun u hu => by obtain rfl := List.mem_singleton.1 hu; rfl)
    rw [← hs0e]
    exact k
  refine ⟨.slice A (restT T).length c, fun β w' hs => bkcell (hs.get 0 rfl) rfl, ?_⟩
  refine ⟨1, (restT T).length, q.length, (restT T).map byte, p.map byte, q.map byte, rfl, fun β w' hs => hs.get 2 rfl, bytes_one p, by rw [← hq, List.length_append], by rw [← hq, List.map_append], by omega, by show q.length * 1 ≤ _; omega, ?_⟩
  intro A1 c1 hc1 hm1 _
  refine ⟨[bkF b ty_sha_Hash (s0.l.map u32 ++ [.slice A1 q.length c1, .int .u64 (N : Int)]), browF ty_uint8 A1 q c1, bsF P p, oddF 2], fun β w' hs => ?_, ?_⟩
  · exact hs.bkSet 0 (o := 8) (us := [.slice A1 q.length c1]) rfl (show 8 + 1 ≤ 10 by decide) (fun u hu => by obtain rfl := List.mem_singleton.1 hu; rfl)
  refine loop_rule (ι := Nat × Option Addr × Nat) 0 (fun _ => [(0, .c (.v (ptrB b))), (1, .c (.v (.slice P p.length d)))]) (fun _ => []) (fun i => [bkF b ty_sha_Hash (((blks q i.1).foldl Sha.step s0).l.map u32 ++ [Value.slice i.2.1 (q.length - 64 * i.1) i.2.2, Value.int IntKind.u64 (N : Int)]), bsF A1 q, oddF 2])
    (fun i => 64 * i.1 ≤ q.length ∧ q.length - 64 * i.1 ≤ i.2.2 ∧ i.2.2 ≤ 9223372036854775807 ∧ (∀ w, Bs w A1 q → Bs w i.2.1 (q.drop (64 * i.1))) ∧ ∀ ad, i.2.1 = some ad → ∃ ad', A1 = some ad' ∧ ad'.block = ad.block) (fun i => q.length - 64 * i.1) (0, A1, c1)
    ⟨Nat.zero_le _, hc1, by rw [← hml]; exact hm1, fun w h => h, fun ad h => ⟨ad, h, rfl⟩⟩ (Ent.mk' ⟨rfl, rfl, trivial⟩ rfl (fun β w' hs => (hs.ro 1 rfl).perm [0, 1, 3])) g ?_
  rintro ⟨i, B, cap⟩ ⟨hi, hcap, hcm, hB, hD⟩
  simp only at hi hcap hcm hB hD
  obtain ⟨m, hm2⟩ : ∃ m, q.length - 64 * i = m := ⟨_, rfl⟩
  have hmc : m ≤ cap := by omega
  rw [hm2]
  have hdl : (q.drop (64 * i)).length = m := by rw [List.length_drop]; omega
  obtain ⟨st, hst⟩ : ∃ st, (blks q i).foldl Sha.step s0 = st := ⟨_, rfl⟩
  rw [hst]
  refine ⟨.slice B m cap, fun β w' hs => bkcell (hs.get 0 rfl) rfl, ?_⟩
  refine BIf.dec (fun h0 => ?_) (fun h0 => ?_)
  · have h00 : (64 : Int) ≤ (m : Int) := h0
    have hm64 : 64 ≤ m := by omega
    have hbl : (blk q i).length = 64 := by unfold blk; rw [List.length_take, hdl]; omega
    refine draw_rule g p_sha_Hash_Write_6 (by kernel_rfl) [] [cellF b 8 (.slice B m cap)] (fun β w' hs => (hs.cellOf 0 rfl 8 rfl).perm [0]) ?_
    refine ⟨.slice B m cap, fun β w' hs => hs.get 0 rfl, ?_⟩
    refine ⟨cap, 64, 0, 64, cap, _, rfl, rfl, rfl, Nat.le_refl _, by show 64 ≤ cap; omega, by omega, rfl, rfl, cutA_z B, ?_⟩
    refine call_con [0] (R := fun v Fs => v = .tuple #[] ∧ Fs = [stG b ty_sha_Hash (Sha.step st (blk q i)) [.slice B m cap, .int .u64 (N : Int)]]) (fun β w' hs => by
      have h7 := Bs.cut (hB w' (hs.get 1 rfl)) (c := cap) (m := cap) (i := 0) (j := 64) (by omega) (.inl rfl) (by omega) (by omega) (by omega)
      rw [cutA_z] at h7
      have h8 : Bs w' B (blk q i) := by show Rd 1 B (blk q i).length ((blk q i).map byte) w'; rw [hbl]; exact h7
      have hs2 := hs.sub 1 rfl rfl (bsF B (blk q i)) rfl h8 (bsD_sub hD (by omega))
      have q1 := stepG_c w' b ty_sha_Hash st [.slice B m cap, .int .u64 (N : Int)] B (blk q i) cap (hs2.mem.take (js := [1, 0, 3]) rfl) (by omega) (by omega) (by omega)
      rw [hbl] at q1
      exact q1) ?_
    rintro v Fs ⟨rfl, rfl⟩
    refine ⟨fun β w' hs => (hs.cellOf 0 rfl 8 rfl).perm [0], ?_⟩
    refine ⟨.slice B m cap, fun β w' hs => bkcell (hs.get 0 rfl) rfl, ?_⟩
    refine ⟨cap, m, 64, m - 64, cap - 64, _, rfl, rfl, rfl, Nat.le_refl _, hmc, hm64, rfl, rfl, rfl, ?_⟩
    refine ⟨[bkF b ty_sha_Hash ((Sha.step st (blk q i)).l.map u32 ++ [.slice (cutA B cap 64 1) (m - 64) (cap - 64), .int .u64 (N : Int)]), bsF A1 q, oddF 2], fun β w' hs => ?_, ?_⟩
    · exact hs.bkSet 0 (o := 8) (us := [.slice (cutA B cap 64 1) (m - 64) (cap - 64)]) rfl (show 8 + 1 ≤ 10 by decide) (fun u hu => by obtain rfl := List.mem_singleton.1 hu; rfl)
    refine ⟨(i + 1, cutA B cap 64 1, cap - 64), ⟨by show 64 * (i + 1) ≤ _; omega, by show q.length - 64 * (i + 1) ≤ cap - 64; omega, by show cap - 64 ≤ _; omega, fun w' h => ?_, cut_blk hD⟩, by show q.length - 64 * (i + 1) < m; omega, Ent.mk' ⟨rfl, rfl, trivial⟩ rfl (fun β w' hs => ?_)⟩
    · exact Bs.cutB (hB w' h) (c := cap) (i := 64) (j := m) (m := q.drop (64 * (i + 1))) (by omega) hm64 (by omega) (by
        rw [List.drop_drop, show 64 * i + 64 = 64 * (i + 1) by omega, List.take_of_length_le]
        rw [List.length_drop]; omega)
    · show Sat _ _ _ _ [bkF b ty_sha_Hash (((blks q (i + 1)).foldl Sha.step s0).l.map u32 ++ [.slice (cutA B cap 64 1) (q.length - 64 * (i + 1)) (cap - 64), .int .u64 (N : Int)]), bsF A1 q, oddF 2] w'
      rw [blks_succ, List.foldl_append, hst, show q.length - 64 * (i + 1) = m - 64 by omega]
      exact hs
  · have h00 : ¬ (64 : Int) ≤ (m : Int) := h0
    have hi2 : i = q.length / 64 := by omega
    refine ⟨.slice B m cap, fun β w' hs => bkcell (hs.get 0 rfl) rfl, ?_⟩
    have hrest : restT (T ++ p) = q.drop (64 * i) := by rw [restT_app, hq, hi2]
    have hstp : stT (T ++ p) = st := by rw [stT_app, hq, hs0e, ← hi2, hst]
    refine call_con [] (R := fun v Fs => ∃ A' c', v = .slice A' m c' ∧ Fs = [browF ty_uint8 A' (q.drop (64 * i)) c']) (fun β w' hs => by
      have k := clone_c w' B (q.drop (64 * i)) cap (hB w' (hs.get 1 rfl)) (by omega)
      rw [hdl] at k
      exact k.mono (by rintro v Fs ⟨A', c', rfl, _, _, rfl⟩; exact ⟨A', c', rfl, rfl⟩)) ?_
    rintro v Fs ⟨A3, c3, rfl, rfl⟩
    refine ⟨[browF ty_uint8 A3 (q.drop (64 * i)) c3, bkF b ty_sha_Hash (st.l.map u32 ++ [.slice A3 m c3, .int .u64 (N : Int)]), bsF A1 q, oddF 2], fun β w' hs => ?_, ?_⟩
    · exact hs.bkSet 1 (o := 8) (us := [.slice A3 m c3]) rfl (show 8 + 1 ≤ 10 by decide) (fun u hu => by obtain rfl := List.mem_singleton.1 hu; rfl)
    intro β w' hs
    have k := hs.sep [1, 0]
    have e : hshF b (T ++ p) A3 c3 = sepF [bkF b ty_sha_Hash (st.l.map u32 ++ [.slice A3 m c3, .int .u64 (N : Int)]), browF ty_uint8 A3 (q.drop (64 * i)) c3] := by
      unfold hshF hshC
      rw [hrest, hstp, hdl, List.length_append, hN]
    refine k.fin [0] ⟨A3, c3, rfl, ?_⟩
    rw [e]
    rfl
set_option maxHeartbeats 1000000 in
theorem hval_c (w : World) (b : Nat) (T : List UInt8) (A : Option Addr) (c : Nat) (hn : T.length ≤ 1000000000) (h : (hshF b T A c).p w) (hD0 : ∀ k, (hshF b T A c).D k → k < w.heap.size) (h1 : (oddF 2).p w) :
    Con Tryz.prog n_sha_Hash_Sum #[ptrB b] w [] fun v Fs => ∃ A' c', v = .slice A' 32 c' ∧ 32 ≤ c' ∧ c' ≤ maxLen ∧ Fs = [browF ty_uint8 A' (Sha.sum T) c'] := by
  have g := good_sha_Hash_Sum w (Un [])
  have hrl := restT_len T
  have hml := maxLen_eq
  have hs0 : Sat (cx_sha_Hash_Sum w (Un [])) Va.z 0 [] [oldF w] w := old_sat rfl
  have hs1 := hs0.sub 0 rfl rfl (oddF 2) rfl h1 (rd_lt h1)
  refine con_of_sx (cx := cx_sha_Hash_Sum w (Un [])) g b_sha_Hash_Sum rfl rfl (β := Va.z) [.c (.v (ptrB b))] 0 [] [oddF 2, oldF w] rfl rfl hs1 ?_
  have hcell : ∀ {w'} (ho : (oldF w).p w') {o : Nat} {v : Value}, (hshC T A c)[o]? = some v → w'.cell? ⟨b, o, none⟩ = some v := fun {w'} ho {o} {v} hv => bkcell (hsh_bk (factOld h hD0 ho)) hv
  refine ⟨(stT T).l.map u32, rfl, fun β w' hs j u hu => ?_, ?_⟩
  · have hj : j < 8 := (List.getElem?_eq_some_iff.1 hu).1
    have hu' : (hshC T A c)[j]? = some u := by
      unfold hshC
      rw [List.getElem?_append_left (by exact hj)]
      exact hu
    have e : (((⟨b, 0, none⟩ : Addr).add 0).add j) = ⟨b, j, none⟩ := by rw [add_none, add_none]; simp
    have := hcell (hs.get 1 rfl) hu'
    rw [← e] at this
    exact this
  obtain ⟨s0, hs0e⟩ : ∃ s0, stT T = s0 := ⟨_, rfl⟩
  rw [hs0e]
  refine draw_rule g p_sha_Hash_Sum_4 (by kernel_rfl) [] [oldF w] (Sub.of (List.nil_sublist _) (List.sublist_cons_self _ _)) ?_
  refine ⟨.slice A (restT T).length c, fun β w' hs => hcell (hs.get 0 rfl) rfl, ?_⟩
  refine ⟨.int .u64 (T.length : Int), fun β w' hs => hcell (hs.get 0 rfl) rfl, ?_⟩
  refine call_con [] (fun β w' hs => clone_c w' A (restT T) c (hsh_row (factOld h hD0 (hs.get 1 rfl))) (by omega)) ?_
  rintro v Fs ⟨A1, c1, rfl, hc1, hm1, rfl⟩
  refine ⟨fun β w' hs => (hs.perm [2]).keepB (List.nil_sublist _), ?_⟩
  refine call_con [] (fun β w' hs => ends_c w' T.length (by omega)) ?_
  rintro v Fs ⟨A2, c2, rfl, hc2, hm2, rfl⟩
  refine ⟨fun β w' hs => (hs.perm [3]).keepB (List.nil_sublist _), ?_⟩
  obtain ⟨q, hq⟩ : ∃ q, restT T ++ ends T.length = q := ⟨_, rfl⟩
  have hel := ends_len T.length
  have hz : zeros T.length < 64 := by unfold zeros; omega
  have hql : q.length = T.length % 64 + (ends T.length).length := by rw [← hq, List.length_append, hrl]
  refine ⟨1, (restT T).length, q.length, (restT T).map byte, (ends T.length).map byte, q.map byte, rfl, fun β w' hs => row_rd (hs.get 0 rfl), bytes_one _, by rw [← hq, List.length_append], by rw [← hq, List.map_append], by omega, by show q.length * 1 ≤ _; omega, ?_⟩
  intro A3 c3 hc3 hm3 _
  refine ⟨fun β w' hs => (hs.perm [3]).keepB (List.nil_sublist _), ?_⟩
  have hmod : q.length % 64 = 0 := by
    have := pad_mod T
    rw [List.length_append] at this
    omega
  refine reify_rule g 0 (fun _ => s0.l.map u32) rfl rfl (fun _ => rfl) (fun sb => ?_)
  refine loop_rule (ι := Nat × Option Addr × Nat) 1 (fun i => [(3, .c (.v (ptrB sb))), (4, .c (.v (.slice i.2.1 (q.length - 64 * i.1) i.2.2)))]) (fun _ => []) (fun i => [stF sb 145 ((blks q i.1).foldl Sha.step s0), bsF A3 q, oddF 2])
    (fun i => 64 * i.1 ≤ q.length ∧ q.length - 64 * i.1 ≤ i.2.2 ∧ i.2.2 ≤ 9223372036854775807 ∧ (∀ w, Bs w A3 q → Bs w i.2.1 (q.drop (64 * i.1))) ∧ ∀ ad, i.2.1 = some ad → ∃ ad', A3 = some ad' ∧ ad'.block = ad.block) (fun i => q.length - 64 * i.1) (0, A3, c3)
    ⟨Nat.zero_le _, hc3, by rw [← hml]; exact hm3, fun w h => h, fun ad h => ⟨ad, h, rfl⟩⟩ (Ent.mk' ⟨rfl, rfl, trivial⟩ rfl (fun β w' hs => (hs.ro 2 rfl).perm [0, 2, 3])) g ?_
  rintro ⟨i, B, cap⟩ ⟨hi, hcap, hcm, hB, hD⟩
  simp only at hi hcap hcm hB hD
  obtain ⟨m, hm2⟩ : ∃ m, q.length - 64 * i = m := ⟨_, rfl⟩
  have hmc : m ≤ cap := by omega
  rw [hm2]
  have hdl : (q.drop (64 * i)).length = m := by rw [List.length_drop]; omega
  obtain ⟨st, hst⟩ : ∃ st, (blks q i).foldl Sha.step s0 = st := ⟨_, rfl⟩
  rw [hst]
  refine BIf.dec (fun h0 => ?_) (fun h0 => ?_)
  · have h00 : (0 : Int) < (m : Int) := h0
    have hm64 : 64 ≤ m := by omega
    have hbl : (blk q i).length = 64 := by unfold blk; rw [List.length_take, hdl]; omega
    refine ⟨cap, 64, 0, 64, cap, _, rfl, rfl, rfl, Nat.le_refl _, by show 64 ≤ cap; omega, by omega, rfl, rfl, cutA_z B, ?_⟩
    refine call_con [0] (R := fun v Fs => v = .tuple #[] ∧ Fs = [stF sb 145 (Sha.step st (blk q i))]) (fun β w' hs => by
      have h7 := Bs.cut (hB w' (hs.get 1 rfl)) (c := cap) (m := cap) (i := 0) (j := 64) (by omega) (.inl rfl) (by omega) (by omega) (by omega)
      rw [cutA_z] at h7
      have h8 : Bs w' B (blk q i) := by show Rd 1 B (blk q i).length ((blk q i).map byte) w'; rw [hbl]; exact h7
      have hs2 := hs.sub 1 rfl rfl (bsF B (blk q i)) rfl h8 (bsD_sub hD (by omega))
      have q1 := step_c w' sb 145 st B (blk q i) cap (hs2.mem.take (js := [1, 0, 3]) rfl) (by omega) (by omega) (by omega)
      rw [hbl] at q1
      exact q1) ?_
    rintro v Fs ⟨rfl, rfl⟩
    refine ⟨cap, m, 64, m - 64, cap - 64, _, rfl, rfl, rfl, Nat.le_refl _, hmc, hm64, rfl, rfl, rfl, ?_⟩
    refine ⟨(i + 1, cutA B cap 64 1, cap - 64), ⟨by show 64 * (i + 1) ≤ _; omega, by show q.length - 64 * (i + 1) ≤ cap - 64; omega, by show cap - 64 ≤ _; omega, fun w' h => ?_, cut_blk hD⟩, by show q.length - 64 * (i + 1) < m; omega, Ent.mk' ⟨rfl, ?_, trivial⟩ rfl (fun β w' hs => ?_)⟩
    · exact Bs.cutB (hB w' h) (c := cap) (i := 64) (j := m) (m := q.drop (64 * (i + 1))) (by omega) hm64 (by omega) (by
        rw [List.drop_drop, show 64 * i + 64 = 64 * (i + 1) by omega, List.take_of_length_le]
        rw [List.length_drop]; omega)
    · show _ = some (SV.c (.v (.slice (cutA B cap 64 1) (q.length - 64 * (i + 1)) (cap - 64))))
      rw [show q.length - 64 * (i + 1) = m - 64 by omega]
      rfl
    · show Sat _ _ _ _ [stF sb 145 ((blks q (i + 1)).foldl Sha.step s0), bsF A3 q, oddF 2] w'
      rw [blks_succ, List.foldl_append, hst]
      exact hs
  · have h00 : ¬ (0 : Int) < (m : Int) := h0
    have hi2 : i = q.length / 64 := by omega
    have hsum : Sha.sum T = out st := by rw [sum_T, hq, hs0e, ← hi2, hst]
    refine call_con [0] (fun β w' hs => stbytes_c w' sb 145 st (hs.mem.take (js := [0]) rfl)) ?_
    rintro v Fs ⟨A4, c4, rfl, h5, h6, rfl⟩
    intro β w' hs
    exact hs.fin [1] ⟨A4, c4, rfl, h5, h6, by rw [hsum]; rfl⟩
end Go.Proofs.YtoifclfanabalaaGreatDoor.Sx

namespace Go.Proofs.YtoifclfanabalaaGreatDoor.Sx
open Go
attribute [local irreducible] Calls
structure MacY where
  m : Nat
  bi : Nat
  Ai : Option Addr
  ci : Nat
  bo : Nat
  Ao : Option Addr
  co : Nat
  bn : Nat
  An : Option Addr
  cn : Nat
def macFs (y : MacY) (key T : List UInt8) : List Fact := [bkF y.m ty_hmac_Mac [ptrB y.bi, ptrB y.bo, ptrB y.bn], hshF y.bi (padL key 0x36) y.Ai y.ci, hshF y.bo (padL key 0x5c) y.Ao y.co, hshF y.bn (padL key 0x36 ++ T) y.An y.cn]
def macF (y : MacY) (key T : List UInt8) : Fact := sepF (macFs y key T)
theorem Con.ofSep {P : Program} {k : FuncId} {args : Array Value} {w : World} {L Gs : List Fact} {R : Value → List Fact → Prop} (hsub : ∀ k, Un Gs k → Un [sepF L] k) (h : Con P k args w Gs R) : Con P k args w [sepF L] R :=
  Calls.mono h fun _ _ ⟨v, he, Fs, hR, hc, hm, ho, hD⟩ => ⟨v, he, Fs, hR, hc.mono (fun i _ => hsub i), hm, ho, fun f hf k hk => (hD f hf k hk).imp_left (hsub k)⟩
def mac0 (m bi : Nat) (Ai : Option Addr) (ci bo : Nat) (Ao : Option Addr) (co : Nat) (x : Value) (key : List UInt8) : List Fact := [bkF m ty_hmac_Mac [ptrB bi, ptrB bo, x], hshF bi (padL key 0x36) Ai ci, hshF bo (padL key 0x5c) Ao co]
theorem reset0_c (w : World) (m bi : Nat) (Ai : Option Addr) (ci bo : Nat) (Ao : Option Addr) (co : Nat) (x : Value) (key : List UInt8) (hm : Mem w (mac0 m bi Ai ci bo Ao co x key)) :
    Con Tryz.prog n_hmac_Mac_Reset #[ptrB m] w (mac0 m bi Ai ci bo Ao co x key) fun v Fs => ∃ y', y'.m = m ∧ v = .tuple #[] ∧ Fs = [macF y' key []] := by
  have g := good_hmac_Mac_Reset w (Un (mac0 m bi Ai ci bo Ao co x key))
  refine con_of_sx (cx := cx_hmac_Mac_Reset w (Un (mac0 m bi Ai ci bo Ao co x key))) g b_hmac_Mac_Reset rfl rfl (β := Va.z) [.c (.v (ptrB m))] 0 [] (mac0 m bi Ai ci bo Ao co x key) rfl rfl (hm.sat0 rfl (fun f hf ho k hk => ⟨f, hf, hk⟩)) ?_
  refine ⟨ptrB bi, fun β w' hs => bkcell (hs.get 0 rfl) rfl, ?_⟩
  refine call_con [] (fun β w' hs => hcopy_c w' bi (padL key 0x36) Ai ci (hs.get 1 rfl) (hs.getLt 1 rfl)) ?_
  rintro v Fs ⟨b', A', c', rfl, q1, q2, rfl⟩
  refine ⟨[hshF b' (padL key 0x36) A' c', bkF m ty_hmac_Mac [ptrB bi, ptrB bo, ptrB b'], hshF bi (padL key 0x36) Ai ci, hshF bo (padL key 0x5c) Ao co], fun β w' hs => ?_, ?_⟩
  · exact hs.bkSet 1 (o := 2) (us := [ptrB b']) rfl (show 2 + 1 ≤ 3 by decide) (fun u hu => by obtain rfl := List.mem_singleton.1 hu; rfl)
  intro β w' hs
  have k := hs.sep [1, 2, 3, 0] rfl ⟨rfl, rfl, rfl, rfl, trivial⟩
  refine k.fin [0] ⟨⟨m, bi, Ai, ci, bo, Ao, co, b', A', c'⟩, rfl, rfl, ?_⟩
  unfold macF macFs
  rw [List.append_nil]
  rfl
theorem reset_c (w : World) (y : MacY) (key T : List UInt8) (hm : Mem w [macF y key T]) :
    Con Tryz.prog n_hmac_Mac_Reset #[ptrB y.m] w [macF y key T] fun v Fs => ∃ y', y'.m = y.m ∧ v = .tuple #[] ∧ Fs = [macF y' key []] := by
  have hs0 : Sat (cx_hmac_Mac_Reset w (Un [macF y key T])) Va.z 0 [] [macF y key T] w := hm.sat0 rfl (fun f hf ho k hk => ⟨f, hf, hk⟩)
  have h1 := (hs0.unsep 0 rfl).mem.take (js := [0, 1, 2]) rfl
  refine Con.ofSep (fun k hk => ?_) (reset0_c w y.m y.bi y.Ai y.ci y.bo y.Ao y.co (ptrB y.bn) key h1)
  obtain ⟨f, hf, hk⟩ := hk
  refine ⟨_, List.mem_singleton.2 rfl, f, ?_, hk⟩
  simp only [mac0, List.mem_cons, List.not_mem_nil, or_false] at hf
  unfold macFs
  rcases hf with rfl | rfl | rfl
  · exact List.mem_cons_self
  · exact List.mem_cons_of_mem _ List.mem_cons_self
  · exact List.mem_cons_of_mem _ (List.mem_cons_of_mem _ List.mem_cons_self)
theorem mwrite_c (w : World) (y : MacY) (key T : List UInt8) (P : Option Addr) (p : List UInt8) (d : Nat) (hn : T.length + p.length ≤ 100000000) (hm : Mem w [macF y key T, bsF P p, oddF 2]) :
    Con Tryz.prog n_hmac_Mac_Write #[ptrB y.m, .slice P p.length d] w [macF y key T] fun v Fs => ∃ y', y'.m = y.m ∧ v = .int .i64 p.length ∧ Fs = [macF y' key (T ++ p)] := by
  have g := good_hmac_Mac_Write w (Un [macF y key T])
  have hs0 : Sat (cx_hmac_Mac_Write w (Un [macF y key T])) Va.z 0 [] [macF y key T, bsF P p, oddF 2] w := hm.sat0 rfl (ownIn (Gs := [macF y key T]) (fun f hf => by
    simp only [List.mem_cons, List.not_mem_nil, or_false] at hf
    rcases hf with rfl | rfl <;> rfl))
  refine con_of_sx (cx := cx_hmac_Mac_Write w (Un [macF y key T])) g b_hmac_Mac_Write rfl rfl (β := Va.z) [.c (.v (ptrB y.m)), .c (.v (.slice P p.length d))] 0 [] (macFs y key T ++ [bsF P p, oddF 2]) rfl rfl (hs0.unsep 0 rfl) ?_
  refine ⟨ptrB y.bn, fun β w' hs => bkcell (hs.get 0 rfl) rfl, ?_⟩
  refine call_con [3] (fun β w' hs => hwrite_c w' y.bn (padL key 0x36 ++ T) y.An y.cn P p d (by rw [List.length_append, padL_len]; omega) (hs.mem.take (js := [3, 4, 5]) rfl)) ?_
  rintro v Fs ⟨A', c', rfl, rfl⟩
  intro β w' hs
  have k := hs.sep [1, 2, 3, 0] rfl ⟨rfl, rfl, rfl, rfl, trivial⟩
  refine k.fin [0] ⟨⟨y.m, y.bi, y.Ai, y.ci, y.bo, y.Ao, y.co, y.bn, A', c'⟩, rfl, rfl, ?_⟩
  unfold macF macFs
  rw [← List.append_assoc]
  rfl
theorem msum_c (w : World) (y : MacY) (key T : List UInt8) (hn : T.length ≤ 100000000) (h : (macF y key T).p w) (hD : ∀ k, (macF y key T).D k → k < w.heap.size) (h1 : (oddF 2).p w) :
    Con Tryz.prog n_hmac_Mac_Sum #[ptrB y.m] w [] fun v Fs => ∃ A' c', v = .slice A' 32 c' ∧ 32 ≤ c' ∧ c' ≤ maxLen ∧ Fs = [browF ty_uint8 A' (hmL key T) c'] := by
  have g := good_hmac_Mac_Sum w (Un [])
  refine con_of_sx (cx := cx_hmac_Mac_Sum w (Un [])) g b_hmac_Mac_Sum rfl rfl (β := Va.z) [.c (.v (ptrB y.m))] 0 [] [oldF w] rfl rfl (old_sat rfl) ?_
  have hb : ∀ {w'}, (oldF w).p w' → (bkF y.m ty_hmac_Mac [ptrB y.bi, ptrB y.bo, ptrB y.bn]).p w' := fun ho => (factOld h hD ho).1 _ (by simp [macFs])
  have ho_ : ∀ {w'}, (oldF w).p w' → (hshF y.bo (padL key 0x5c) y.Ao y.co).p w' := fun ho => (factOld h hD ho).1 _ (by simp [macFs])
  have hn_ : ∀ {w'}, (oldF w).p w' → (hshF y.bn (padL key 0x36 ++ T) y.An y.cn).p w' := fun ho => (factOld h hD ho).1 _ (by simp [macFs])
  have hDo : ∀ k, (hshF y.bo (padL key 0x5c) y.Ao y.co).D k → k < w.heap.size := fun k hk => hD k ⟨_, by simp [macFs], hk⟩
  have hDn : ∀ k, (hshF y.bn (padL key 0x36 ++ T) y.An y.cn).D k → k < w.heap.size := fun k hk => hD k ⟨hshF y.bn (padL key 0x36 ++ T) y.An y.cn, by simp [macFs], hk⟩
  refine ⟨ptrB y.bo, fun β w' hs => bkcell (hb (hs.get 0 rfl)) rfl, ?_⟩
  refine call_con [] (fun β w' hs => hcopy_c w' y.bo (padL key 0x5c) y.Ao y.co (ho_ (hs.get 0 rfl)) (fun k hk => Nat.lt_of_lt_of_le (hDo k hk) hs.chg.size)) ?_
  rintro v Fs ⟨b', A', c', rfl, _, _, rfl⟩
  refine ⟨ptrB y.bn, fun β w' hs => bkcell (hb (hs.get 1 rfl)) rfl, ?_⟩
  refine call_con [] (fun β w' hs => hval_c w' y.bn (padL key 0x36 ++ T) y.An y.cn (by rw [List.length_append, padL_len]; omega) (hn_ (hs.get 1 rfl)) (fun k hk => Nat.lt_of_lt_of_le (hDn k hk) hs.chg.size) (Rd.old h1 (hs.get 1 rfl))) ?_
  rintro v Fs ⟨A2, c2, rfl, _, _, rfl⟩
  obtain ⟨s, hse⟩ : ∃ s, Sha.sum (padL key 0x36 ++ T) = s := ⟨_, rfl⟩
  have hsl : s.length = 32 := by rw [← hse]; exact sum_len _
  refine call_con [1] (R := fun v Fs => ∃ A'' c'', v = .int .i64 32 ∧ Fs = [hshF b' (padL key 0x5c ++ s) A'' c'']) (fun β w' hs => by
    have k1 := hs.ro 0 rfl
    have k2 := k1.sub 2 rfl rfl (oddF 2) rfl (Rd.old h1 (hs.get 2 rfl)) (rd_lt h1)
    rw [hse] at k2
    have q := hwrite_c w' b' (padL key 0x5c) A' c' A2 s c2 (by rw [padL_len, hsl]; decide) (k2.mem.take (js := [2, 1, 0]) rfl)
    rw [hsl] at q
    exact q) ?_
  rintro v Fs ⟨A3, c3, rfl, rfl⟩
  refine call_con [] (fun β w' hs => hval_c w' b' (padL key 0x5c ++ s) A3 c3 (by rw [List.length_append, padL_len, hsl]; decide) (hs.get 0 rfl) (hs.getLt 0 rfl) (Rd.old h1 (hs.get 2 rfl))) ?_
  rintro v Fs ⟨A4, c4, rfl, h5, h6, rfl⟩
  intro β w' hs
  exact hs.fin [0] ⟨A4, c4, rfl, h5, h6, by unfold hmL; rw [hse]; rfl⟩
theorem begun_c (w : World) (B : Option Addr) (l : List UInt8) (c : Nat) (hr : Bs w B l) (hn : l.length ≤ 1000000) (h1 : (oddF 2).p w) (h0 : (firstF 0).p w) :
    Con Tryz.prog n_hmac_begun #[.slice B l.length c] w [] fun v Fs => ∃ b A' c', v = ptrB b ∧ Fs = [hshF b l A' c'] := by
  have g := good_hmac_begun w (Un [])
  have hs0 : Sat (cx_hmac_begun w (Un [])) Va.z 0 [] [oldF w] w := old_sat rfl
  have hs1 := (hs0.sub 0 rfl rfl (oddF 2) rfl h1 (rd_lt h1)).sub 1 rfl rfl (bsF B l) rfl hr (rd_lt hr)
  refine con_of_sx (cx := cx_hmac_begun w (Un [])) g b_hmac_begun rfl rfl (β := Va.z) [.c (.v (.slice B l.length c))] 0 [] [bsF B l, oddF 2, oldF w] rfl rfl hs1 ?_
  refine call_con [] (fun β w' hs => hnew_c w' (Rd.old h0 (hs.get 2 rfl))) ?_
  rintro v Fs ⟨b, rfl, rfl⟩
  refine call_con [0] (fun β w' hs => hwrite_c w' b [] none 0 B l c (by show 0 + l.length ≤ _; omega) (hs.mem.take (js := [0, 1, 2]) rfl)) ?_
  rintro v Fs ⟨A', c', rfl, rfl⟩
  intro β w' hs
  exact hs.fin [0] ⟨b, A', c', rfl, rfl⟩
set_option maxHeartbeats 1000000 in
theorem mnew_c (w : World) (A : Option Addr) (key : List UInt8) (c : Nat) (hr : Bs w A key) (hn : key.length ≤ 1000000) (h1 : (oddF 2).p w) (h0 : (firstF 0).p w) :
    Con Tryz.prog n_hmac_New #[.slice A key.length c] w [] fun v Fs => ∃ y, v = ptrB y.m ∧ Fs = [macF y key []] := by
  have g := good_hmac_New w (Un [])
  have l64 : ∀ x, (padL key x).length = 64 := padL_len key
  refine con_of_tri (cx := cx_hmac_New w (Un [])) g b_hmac_New rfl rfl (β := Va.z) [.c (.v (.slice A key.length c))] 0 [] [oldF w] rfl rfl (old_sat rfl) ?_
  refine tri_seq g ?_
  refine tri_seq g ?_
  refine call_con [] (fun β w' hs => pad_c w' A key c 0x36 (Rd.old hr (hs.get 0 rfl)) hn (Rd.old h1 (hs.get 0 rfl)) (Rd.old h0 (hs.get 0 rfl))) ?_
  rintro v Fs ⟨p1, j1, rfl, rfl⟩
  refine call_con [] (fun β w' hs => by
    have q := begun_c w' (some ⟨p1, 0, none⟩) (padL key 0x36) 64 (bk_bs (hs.get 0 rfl)) (by rw [l64]; decide) (Rd.old h1 (hs.get 1 rfl)) (Rd.old h0 (hs.get 1 rfl))
    rw [l64] at q
    exact q) ?_
  rintro v Fs ⟨bi, Ai, ci, rfl, rfl⟩
  refine call_con [] (fun β w' hs => pad_c w' A key c 0x5c (Rd.old hr (hs.get 2 rfl)) hn (Rd.old h1 (hs.get 2 rfl)) (Rd.old h0 (hs.get 2 rfl))) ?_
  rintro v Fs ⟨p2, j2, rfl, rfl⟩
  refine call_con [] (fun β w' hs => by
    have q := begun_c w' (some ⟨p2, 0, none⟩) (padL key 0x5c) 64 (bk_bs (hs.get 0 rfl)) (by rw [l64]; decide) (Rd.old h1 (hs.get 3 rfl)) (Rd.old h0 (hs.get 3 rfl))
    rw [l64] at q
    exact q) ?_
  rintro v Fs ⟨bo, Ao, co, rfl, rfl⟩
  refine reify_rule g 0 (fun _ => [ptrB bi, ptrB bo, .pointer none]) rfl rfl (fun _ => rfl) (fun mb => ?_)
  refine call_con [0, 3, 1] (fun β w' hs => reset0_c w' mb bi Ai ci bo Ao co (.pointer none) key (hs.mem.take (js := [0, 3, 1]) rfl)) ?_ ⟨rfl, rfl, rfl, trivial⟩
  rintro v Fs ⟨y, hy, rfl, rfl⟩
  intro β w' hs
  refine hs.fin [0] ⟨y, ?_, rfl⟩
  rw [hy]
  rfl
abbrev Part := Option Addr × List UInt8 × Nat
def partV (p : Part) : Value := .slice p.1 p.2.1.length p.2.2
def partsT (ps : List Part) : List UInt8 := ps.flatMap (·.2.1)
def partF (P : Option Addr) (ps : List Part) : Fact where
  own := false
  D := fun k => (rdF 1 P ps.length (ps.map partV)).D k ∨ ∃ p ∈ ps, (bsF p.1 p.2.1).D k
  p := fun w => Rd 1 P ps.length (ps.map partV) w ∧ ∀ p ∈ ps, Bs w p.1 p.2.1
  st := fun w w' hs h => ⟨(rdF 1 P ps.length (ps.map partV)).st w w' (fun k hk => hs k (.inl hk)) h.1, fun p hp => (bsF p.1 p.2.1).st w w' (fun k hk => hs k (.inr ⟨p, hp, hk⟩)) (h.2 p hp)⟩
def cellR (b : Nat) (v : Value) : Fact where
  own := false
  D := fun k => k = b
  p := fun w => w.cell? ⟨b, 0, none⟩ = some v
  st := fun w w' hs h => by rw [← h]; exact World.cell?_of_block (hs b rfl)
theorem Mem.weakHead {w : World} {f g : Fact} {L : List Fact} (h : Mem w (f :: L)) (ho : g.own = true → f.own = true) (hp : f.p w → g.p w) (hD : ∀ k, g.D k → f.D k) : Mem w (g :: L) := by
  refine ⟨fun x hx => ?_, fun x hx k hk => ?_, List.pairwise_cons.2 ⟨fun x hx q k hk => ?_, (List.pairwise_cons.1 h.sepf).2⟩⟩
  · rcases List.mem_cons.1 hx with rfl | hx
    · exact hp (h.fact f List.mem_cons_self)
    · exact h.fact x (List.mem_cons_of_mem _ hx)
  · rcases List.mem_cons.1 hx with rfl | hx
    · exact h.flt f List.mem_cons_self k (hD k hk)
    · exact h.flt x (List.mem_cons_of_mem _ hx) k hk
  · exact (List.pairwise_cons.1 h.sepf).1 x hx (q.imp_left ho) k (hD k hk)
theorem Sat.withCell {cx : Cx} {β : Va} {n : Nat} {H : List Bk} {F : List Fact} {w : World} (h : Sat cx β n H F w) {b : Bk} (hb : b ∈ H) {x : SL} (hx : b.cells = [x]) {js : List Nat} (hn : nodupB js = true) : Mem w (cellR (β b.id) (x.val β) :: takeIx F js) := by
  have h1 := h.weaken (H' := [b]) (F' := F) (List.singleton_sublist.2 hb) (List.Sublist.refl F)
  obtain ⟨id, ty, cells⟩ := b
  simp only at hx
  subst hx
  have h2 := h1.ofBk
  have hm := h2.mem
  have h3 : Mem w (bkF (β id) ty ([x].map (SL.val β)) :: takeIx F js) := by
    have hmt := (⟨fun f hf => hm.fact f (List.mem_cons_of_mem _ hf), fun f hf => hm.flt f (List.mem_cons_of_mem _ hf), (List.pairwise_cons.1 hm.sepf).2⟩ : Mem w F).take (js := js) hn
    refine ⟨fun f hf => ?_, fun f hf k hk => ?_, List.pairwise_cons.2 ⟨fun f hf ho k hk => ?_, hmt.sepf⟩⟩
    · rcases List.mem_cons.1 hf with rfl | hf
      · exact hm.fact _ List.mem_cons_self
      · exact hmt.fact f hf
    · rcases List.mem_cons.1 hf with rfl | hf
      · exact hm.flt _ List.mem_cons_self k hk
      · exact hmt.flt f hf k hk
    · obtain ⟨j, _, hj⟩ := takeIx_mem hf
      exact (List.pairwise_cons.1 hm.sepf).1 f (List.mem_of_getElem? hj) ho k hk
  refine h3.weakHead (fun q => by cases q) (fun q => ?_) (fun k hk => hk)
  exact bkcell q rfl
set_option maxHeartbeats 1000000 in
theorem once_c (w : World) (bx : Nat) (y : MacY) (key T0 : List UInt8) (P : Option Addr) (ps : List Part) (cP : Nat) (hn : (partsT ps).length ≤ 1000000) (hl : ps.length ≤ 1000) (hm : Mem w [macF y key T0, cellR bx (ptrB y.m), partF P ps, oddF 2]) :
    Con Tryz.prog n_hmac_pieces_1_1 #[.slice P ps.length cP, ptrB bx] w [macF y key T0] fun v Fs => ∃ A' c' y' T', y'.m = y.m ∧ v = .slice A' 32 c' ∧ 32 ≤ c' ∧ c' ≤ maxLen ∧ Fs = [browF ty_uint8 A' (hmL key (partsT ps)) c', macF y' key T'] := by
  have g := good_hmac_pieces_1_1 w (Un [macF y key T0])
  have hs0 : Sat (cx_hmac_pieces_1_1 w (Un [macF y key T0])) Va.z 0 [] [macF y key T0, cellR bx (ptrB y.m), partF P ps, oddF 2] w := hm.sat0 rfl (ownIn (Gs := [macF y key T0]) (fun f hf => by
    simp only [List.mem_cons, List.not_mem_nil, or_false] at hf
    rcases hf with rfl | rfl | rfl <;> rfl))
  refine con_of_sx (cx := cx_hmac_pieces_1_1 w (Un [macF y key T0])) g b_hmac_pieces_1_1 rfl rfl (β := Va.z) [.c (.v (.slice P ps.length cP)), .c (.v (ptrB bx))] 0 [] [macF y key T0, cellR bx (ptrB y.m), partF P ps, oddF 2] rfl rfl hs0 ?_
  refine ⟨ptrB y.m, fun β w' hs => hs.get 1 rfl, ?_⟩
  refine call_con [0] (fun β w' hs => reset_c w' y key T0 (hs.mem.take (js := [0]) rfl)) ?_
  rintro v Fs ⟨y1, hy1, rfl, rfl⟩
  refine loop_rule (ι := Nat × MacY) 0 (fun i => [(1, .c (.v (ptrB bx))), (8, .c (.v (.slice P ps.length cP))), (9, .c (.v (.int .i64 (ps.length : Int)))), (10, .c (.v (.int .i64 (i.1 : Int))))]) (fun _ => []) (fun i => [macF i.2 key (partsT (ps.take i.1)), cellR bx (ptrB y.m), partF P ps, oddF 2])
    (fun i => i.1 ≤ ps.length ∧ i.2.m = y.m) (fun i => ps.length - i.1) (0, y1) ⟨Nat.zero_le _, hy1⟩ (Ent.same ⟨rfl, rfl, rfl, rfl, trivial⟩ rfl) g ?_
  rintro ⟨i, yi⟩ ⟨hi, hyi⟩
  simp only at hi hyi
  have hpre : ∀ k, (partsT (ps.take k)).length ≤ (partsT ps).length := fun k => by
    conv => rhs; rw [← List.take_append_drop k ps]
    unfold partsT
    rw [List.flatMap_append, List.length_append]
    omega
  refine BIf.dec (fun hlt => ?_) (fun hge => ?_)
  · have hlt0 : (i : Int) < (ps.length : Int) := hlt
    have hil : i < ps.length := by omega
    obtain ⟨p, hp, hpm⟩ := at_lt hil
    have hPa : ∃ ad, P = some ad := by
      obtain ⟨ad, q, _⟩ := (hm.fact (partF P ps) (by simp)).1.2 (by omega)
      exact ⟨ad, q⟩
    obtain ⟨ad, hPa⟩ := hPa
    refine ⟨ad, i, hPa, rfl, hil, partV p, fun β w' hs => by
      have h : Rd 1 P ps.length (ps.map partV) w' := (hs.get 2 rfl : (partF P ps).p w').1
      rw [hPa] at h
      exact Rd.cell1 h (by rw [List.getElem?_map, hp]; rfl), ?_⟩
    refine ⟨ptrB y.m, fun β w' hs => hs.get 1 rfl, ?_⟩
    have hlen : (partsT (ps.take (i + 1))) = partsT (ps.take i) ++ p.2.1 := by
      unfold partsT
      rw [List.take_add_one, hp, List.flatMap_append]
      simp
    have hb1 := hpre (i + 1)
    rw [hlen, List.length_append] at hb1
    refine call_con [0] (R := fun v Fs => ∃ y', y'.m = y.m ∧ v = .int .i64 p.2.1.length ∧ Fs = [macF y' key (partsT (ps.take (i + 1)))]) (fun β w' hs => by
      have k1 := hs.sub 2 rfl rfl (bsF p.1 p.2.1) rfl ((hs.get 2 rfl : (partF P ps).p w').2 p hpm) (fun k hk => .inr ⟨p, hpm, hk⟩)
      have q := mwrite_c w' yi key (partsT (ps.take i)) p.1 p.2.1 p.2.2 (by omega) (k1.mem.take (js := [1, 0, 4]) rfl)
      rw [hyi, ← hlen] at q
      exact q) ?_
    rintro v Fs ⟨y2, hy2, rfl, rfl⟩
    refine ⟨((i + 1 : Nat) : Int), by rw [wrap_i64 (by omega) (by omega)]; rfl, ?_⟩
    exact ⟨(i + 1, y2), ⟨hil, hy2⟩, by show ps.length - (i + 1) < ps.length - i; omega, Ent.same ⟨rfl, rfl, rfl, rfl, trivial⟩ rfl⟩
  · have hge0 : ¬ (i : Int) < (ps.length : Int) := hge
    obtain rfl : i = ps.length := by omega
    rw [List.take_length]
    refine ⟨ptrB y.m, fun β w' hs => hs.get 1 rfl, ?_⟩
    refine call_con [] (fun β w' hs => by
      have q := msum_c w' yi key (partsT ps) (by omega) (hs.get 0 rfl) (hs.getLt 0 rfl) (hs.get 3 rfl)
      rw [hyi] at q
      exact q) ?_
    rintro v Fs ⟨A', c', rfl, h5, h6, rfl⟩
    intro β w' hs
    exact hs.fin [0, 1] ⟨A', c', yi, partsT ps, hyi, rfl, h5, h6, rfl⟩
end Go.Proofs.YtoifclfanabalaaGreatDoor.Sx

namespace Go.Proofs.YtoifclfanabalaaGreatDoor.Sx
open Go
attribute [local irreducible] Calls
section
variable {cx : Cx} {β : Va} {n : Nat} {H : List Bk} {F : List Fact} {w : World}
theorem Sat.subN (h : Sat cx β n H F w) (js : List Nat) (hno : ∀ f ∈ takeIx F js, f.own = false) (g : Fact) (hgo : g.own = false) (hp : g.p w) (hD : ∀ k, g.D k → Un (takeIx F js) k) : Sat cx β n H (g :: F) w := by
  have hin : ∀ k, g.D k → ∃ (i : Nat) (f : Fact), F[i]? = some f ∧ f.own = false ∧ f.D k := fun k hk => by
    obtain ⟨f, hf, hfk⟩ := hD k hk
    obtain ⟨i, _, hi⟩ := takeIx_mem hf
    exact ⟨i, f, hi, hno f hf, hfk⟩
  refine h.old g hp (fun k hk => ?_) (fun b hb q => ?_) (fun q => by rw [hgo] at q; cases q) (fun g' hg' ho k hk hk' => ?_) (fun p hpp q => ?_)
  · obtain ⟨i, f, hi, _, hfk⟩ := hin k hk
    exact h.flt f (List.mem_of_getElem? hi) k hfk
  · obtain ⟨i, f, hi, _, hfk⟩ := hin _ q
    exact h.sepb f (List.mem_of_getElem? hi) b hb hfk
  · have ho' : g'.own = true := ho.resolve_left (by rw [hgo]; decide)
    obtain ⟨i, f, hi, hfo, hfk⟩ := hin k hk
    obtain ⟨j, hj⟩ := List.getElem?_of_mem hg'
    have hne : j ≠ i := fun q => by subst q; rw [hj] at hi; obtain rfl := Option.some.inj hi; rw [hfo] at ho'; cases ho'
    exact h.apart hj hi hne (.inl ho') k hk' hfk
  · obtain ⟨i, f, hi, _, hfk⟩ := hin _ q
    exact (h.pin p hpp).2.2 f (List.mem_of_getElem? hi) hfk
theorem rowD {e size : Nat} {A : Option Addr} {k c : Nat} {xs : List Value} {w : World} (h : (rowF e size (.slice A k c) k xs).p w) : ∀ b, (rdF size A k xs).D b → (rowF e size (.slice A k c) k xs).D b := by
  rintro b ⟨h0, ad, q, rfl⟩
  have hk : 0 < k := Nat.pos_of_ne_zero (fun q => by rw [q, Nat.zero_mul] at h0; exact Nat.lt_irrefl _ h0)
  rcases h.2 with ⟨he, h0⟩ | ⟨g, cap, cur, he, _⟩
  · omega
  · have hA : A = some ⟨g, 0, none⟩ := by injection he
    rw [q] at hA
    obtain rfl := Option.some.inj hA
    show Value.ownBlock (.slice A k c) = _
    rw [q]
    rfl
theorem Sat.rowRd (h : Sat cx β n H F w) (j : Nat) {e size : Nat} {A : Option Addr} {k c : Nat} {xs : List Value} (hj : nth F j = some (rowF e size (.slice A k c) k xs)) : Sat cx β n H (putAt F j (rdF size A k xs)) w := by
  have hp := h.get j hj
  exact h.upd hj rfl (Chg.refl _ _) (row_rd hp) (fun b hb => .inl (rowD hp b hb))
theorem Sat.part1 {P A : Option Addr} {l : List UInt8} {c : Nat} (h : Sat cx β n H F w) (js : List Nat) (hj : takeIx F js = [rdF 1 P 1 [.slice A l.length c], bsF A l]) : Sat cx β n H (partF P [(A, l, c)] :: F) w := by
  have hP : Rd 1 P 1 [.slice A l.length c] w := h.fact _ (by
    have : rdF 1 P 1 [.slice A l.length c] ∈ takeIx F js := by rw [hj]; simp
    obtain ⟨i, _, hi⟩ := takeIx_mem this
    exact List.mem_of_getElem? hi)
  have hA : Bs w A l := h.fact (bsF A l) (by
    have : bsF A l ∈ takeIx F js := by rw [hj]; simp
    obtain ⟨i, _, hi⟩ := takeIx_mem this
    exact List.mem_of_getElem? hi)
  refine h.subN js (fun f hf => ?_) _ rfl ⟨hP, fun p hp => ?_⟩ (fun k hk => ?_)
  · rw [hj] at hf
    simp only [List.mem_cons, List.not_mem_nil, or_false] at hf
    rcases hf with rfl | rfl <;> rfl
  · obtain rfl := List.mem_singleton.1 hp; exact hA
  · rw [hj]
    rcases hk with hk | ⟨p, hp, hk⟩
    · exact ⟨_, List.mem_cons_self, hk⟩
    · obtain rfl := List.mem_singleton.1 hp
      exact ⟨_, List.mem_cons_of_mem _ List.mem_cons_self, hk⟩
theorem Sat.part2 {P A B : Option Addr} {l m : List UInt8} {c d : Nat} (h : Sat cx β n H F w) (js : List Nat) (hj : takeIx F js = [rdF 1 P 2 [.slice A l.length c, .slice B m.length d], bsF A l, bsF B m]) : Sat cx β n H (partF P [(A, l, c), (B, m, d)] :: F) w := by
  have get : ∀ f ∈ takeIx F js, f.p w := fun f hf => by obtain ⟨i, _, hi⟩ := takeIx_mem hf; exact h.fact f (List.mem_of_getElem? hi)
  have hP : Rd 1 P 2 [.slice A l.length c, .slice B m.length d] w := get (rdF 1 P 2 [.slice A l.length c, .slice B m.length d]) (by rw [hj]; simp)
  have hA : Bs w A l := get (bsF A l) (by rw [hj]; simp)
  have hB : Bs w B m := get (bsF B m) (by rw [hj]; simp)
  refine h.subN js (fun f hf => ?_) _ rfl ⟨hP, fun p hp => ?_⟩ (fun k hk => ?_)
  · rw [hj] at hf
    simp only [List.mem_cons, List.not_mem_nil, or_false] at hf
    rcases hf with rfl | rfl | rfl <;> rfl
  · simp only [List.mem_cons, List.not_mem_nil, or_false] at hp
    rcases hp with rfl | rfl
    · exact hA
    · exact hB
  · rw [hj]
    rcases hk with hk | ⟨p, hp, hk⟩
    · exact ⟨_, List.mem_cons_self, hk⟩
    · simp only [List.mem_cons, List.not_mem_nil, or_false] at hp
      rcases hp with rfl | rfl
      · exact ⟨bsF A l, by simp, hk⟩
      · exact ⟨bsF B m, by simp, hk⟩
end
theorem four_c (w : World) : Con Tryz.prog n_hmac_four #[.int .i64 1] w [] fun v Fs => ∃ b, v = .slice (some ⟨b, 0, none⟩) 4 4 ∧ Fs = [browF ty_uint8 (some ⟨b, 0, none⟩) (Bx.be4 1) 4] := by
  have g := good_hmac_four w (Un [])
  refine con_of_sx (cx := cx_hmac_four w (Un [])) g b_hmac_four rfl rfl (β := Va.z) [.c (.v (.int .i64 1))] 0 [] [] rfl rfl (Sat.start rfl) ?_
  refine ⟨by decide, 0, by decide, 0, by decide, by decide, 0, by decide, 0, by decide, by decide, 0, by decide, 0, by decide, 1, by decide, ?_⟩
  intro b
  intro β w' hs
  exact hs.fin [0] ⟨b, rfl, rfl⟩
def insP (x : List UInt8) (args : Array Value) (X : Fact) : Prop := x.length = 32 ∧ ∃ A c, args = #[.slice A 32 c] ∧ X = bsF A x
set_option maxHeartbeats 2000000 in
theorem pieces_it (l : Nat) (w : World) (bx1 bx2 bx3 : Nat) (A B : Option Addr) (pass salt : List UInt8) (c d rounds : Nat) (f0 R : Fact) (J Jx : List (List UInt8) → Fact → Prop) (hJ0 : J [] f0) (hJo : ∀ pre f, J pre f → f.own = true) (hRo : R.own = false) (hY : Yc Tryz.prog l J Jx R (fun _ => insP)) (hJS : ∀ x f, ¬ J [x] f)
    (hk : pass.length ≤ 1000000) (hn : salt.length ≤ 100000) (hr1 : 1 ≤ rounds) (hr2 : rounds ≤ 64)
    (hm : Mem w (f0 :: R :: [bkF bx1 ty_sl_uint8 [.slice A pass.length c], bkF bx2 ty_sl_uint8 [.slice B salt.length d], bkF bx3 ty_int [.int .i64 rounds], bsF A pass, bsF B salt, oddF 2, firstF 0])) :
    Con Tryz.prog n_hmac_pieces_1 #[.func (.yield l) #[] #[], ptrB bx1, ptrB bx2, ptrB bx3] w [f0, bkF bx1 ty_sl_uint8 [.slice A pass.length c], bkF bx2 ty_sl_uint8 [.slice B salt.length d], bkF bx3 ty_int [.int .i64 rounds]]
      (fun _ Fs => ∃ f Fs', Fs = f :: Fs' ∧ ((∃ xs, J xs f ∧ False) ∨ (∃ pre, Jx pre f ∧ pre = [stretchL pass salt rounds] ∧ Fs' = []))) := by
  obtain ⟨Gs, hGs⟩ : ∃ Gs, Gs = [f0, bkF bx1 ty_sl_uint8 [.slice A pass.length c], bkF bx2 ty_sl_uint8 [.slice B salt.length d], bkF bx3 ty_int [.int .i64 rounds]] := ⟨_, rfl⟩
  rw [← hGs]
  have g := good_hmac_pieces_1 w (Un Gs) [bx1, bx2, bx3]
  have hf0 := hJo _ _ hJ0
  have hs0 : Sat (cx_hmac_pieces_1 w (Un Gs) [bx1, bx2, bx3]) (Va.of fun i => [bx1, bx2, bx3].getD i 0) 3 [] (f0 :: R :: [bkF bx1 ty_sl_uint8 [.slice A pass.length c], bkF bx2 ty_sl_uint8 [.slice B salt.length d], bkF bx3 ty_int [.int .i64 rounds], bsF A pass, bsF B salt, oddF 2, firstF 0]) w := by
    refine hm.sat rfl (fun f hf ho k hk => ?_) ⟨Nat.le_refl 3, fun i hi => rfl⟩
    simp only [List.mem_cons, List.not_mem_nil, or_false] at hf
    rcases hf with rfl | rfl | rfl | rfl | rfl | rfl | rfl | rfl | rfl
    · exact ⟨_, by rw [hGs]; simp, hk⟩
    · rw [hRo] at ho; cases ho
    · exact ⟨_, by rw [hGs]; simp, hk⟩
    · exact ⟨bkF bx2 ty_sl_uint8 [.slice B salt.length d], by rw [hGs]; simp, hk⟩
    · exact ⟨bkF bx3 ty_int [.int .i64 rounds], by rw [hGs]; simp, hk⟩
    · cases ho
    · cases ho
    · cases ho
    · cases ho
  have hs1 := ((hs0.toBk 2 rfl 0 (by decide) rfl).toBk 2 rfl 1 (by decide) rfl).toBk 2 rfl 2 (by decide) rfl
  have hml := maxLen_eq
  refine con_of_sx (cx := cx_hmac_pieces_1 w (Un Gs) [bx1, bx2, bx3]) g b_hmac_pieces_1 rfl rfl (β := Va.of fun i => [bx1, bx2, bx3].getD i 0) [.c (.v (.func (.yield l) #[] #[])), .c (.p 0 0), .c (.p 1 0), .c (.p 2 0)] 3 [⟨2, ty_int, [.v (.int .i64 rounds)]⟩, ⟨1, ty_sl_uint8, [.v (.slice B salt.length d)]⟩, ⟨0, ty_sl_uint8, [.v (.slice A pass.length c)]⟩] [f0, R, bsF A pass, bsF B salt, oddF 2, firstF 0] rfl rfl hs1 ?_
  refine call_con [] (fun β w' hs => mnew_c w' A pass c (hs.get 2 rfl) hk (hs.get 4 rfl) (hs.get 5 rfl)) ?_
  rintro v Fs ⟨y, rfl, rfl⟩
  refine loop_rule (ι := Unit) 4 (fun _ => [(0, .c (.v (.func (.yield l) #[] #[]))), (2, .c (.p 1 0)), (3, .c (.p 2 0)), (6, .fn (.func n_hmac_pieces_1_1) [] [.p 3 0]), (7, .c (.v (.int .i64 1)))])
    (fun _ => [⟨3, 222, [.v (ptrB y.m)]⟩, ⟨2, ty_int, [.v (.int .i64 rounds)]⟩, ⟨1, ty_sl_uint8, [.v (.slice B salt.length d)]⟩]) (fun _ => [macF y pass [], f0, R, bsF B salt, oddF 2]) (fun _ => True) (fun _ => 0) () trivial (Ent.mk' ⟨rfl, rfl, rfl, rfl, rfl, trivial⟩ rfl (fun β w' hs => (hs.keepB (by
      refine List.Sublist.cons_cons _ (List.Sublist.cons_cons _ (List.Sublist.cons_cons _ (List.nil_sublist _))))).perm [0, 1, 2, 4, 5])) g ?_
  intro _ _
  obtain ⟨S, hSe⟩ : ∃ S : Nat → List UInt8, S = strU pass salt := ⟨_, rfl⟩
  obtain ⟨X, hXe⟩ : ∃ X : Nat → List UInt8, X = strX pass salt := ⟨_, rfl⟩
  have hS0 : hmL pass (salt ++ Bx.be4 1) = S 0 := by rw [hSe]; rfl
  have hX0 : S 0 = X 0 := by rw [hSe, hXe]; rfl
  have hSl : ∀ n, (S n).length = 32 := fun n => by rw [hSe]; exact strU_len _ _ n
  have hXl : ∀ n, (X n).length = 32 := fun n => by rw [hXe]; exact strX_len _ _ n
  have hSs : ∀ n, hmL pass (S n) = S (n + 1) := fun n => by rw [hSe]; rfl
  have hXs : ∀ n, Bx.xorB (X n) (S (n + 1)) = X (n + 1) := fun n => by rw [hSe, hXe]; rfl
  have hTX : stretchL pass salt rounds = X (rounds - 1) := by rw [hXe]; rfl
  obtain ⟨bk3, hbk3⟩ : ∃ bk3 : Bk, bk3 = ⟨3, 222, [.v (ptrB y.m)]⟩ := ⟨_, rfl⟩
  have hsub : ∀ {n : Nat} {F : List Fact}, Sub (cx_hmac_pieces_1 w (Un Gs) [bx1, bx2, bx3]) n [⟨3, 222, [.v (ptrB y.m)]⟩, ⟨2, ty_int, [.v (.int .i64 rounds)]⟩, ⟨1, ty_sl_uint8, [.v (.slice B salt.length d)]⟩] F [⟨1, ty_sl_uint8, [.v (.slice B salt.length d)]⟩] [] := fun {n F} => Sub.of ((List.sublist_cons_self _ _).trans (List.sublist_cons_self _ _)) (List.nil_sublist _)
  refine draw_rule g p_hmac_pieces_1_4 (by kernel_rfl) [⟨1, ty_sl_uint8, [.v (.slice B salt.length d)]⟩] [] hsub ?_
  refine call_con [] (fun β w' hs => four_c w') ?_
  rintro v Fs ⟨b4, rfl, rfl⟩
  refine ⟨hsub, ?_⟩
  intro b2
  refine ⟨hsub, ?_⟩
  refine call_con [2] (A := fun β => #[.slice (some ⟨b2, 0, none⟩) 2 2, ptrB (β 3)]) (R := fun v Fs => ∃ A' c' y' T', y'.m = y.m ∧ v = .slice A' 32 c' ∧ Fs = [browF ty_uint8 A' (S 0) c', macF y' pass T']) (fun β w' hs => by
    have k1 := (hs.rowRd 0 rfl).ro 1 rfl
    have k2 := k1.part2 (P := some ⟨b2, 0, none⟩) (A := B) (l := salt) (c := d) (B := some ⟨b4, 0, none⟩) (m := Bx.be4 1) (d := 4) [0, 5, 1] rfl
    have k3 := k2.withCell (b := ⟨3, 222, [.v (ptrB y.m)]⟩) (by simp) rfl (js := [3, 0, 7]) rfl
    have q := once_c w' (β 3) y pass [] (some ⟨b2, 0, none⟩) [(B, salt, d), (some ⟨b4, 0, none⟩, Bx.be4 1, 4)] 2 (by show (salt ++ (Bx.be4 1 ++ [])).length ≤ _; simp only [List.length_append, List.length_nil]; show salt.length + (4 + 0) ≤ _; omega) (by show 2 ≤ 1000; decide) (k3.take (js := [1, 0, 2, 3]) rfl)
    have e : partsT [(B, salt, d), (some ⟨b4, 0, none⟩, Bx.be4 1, 4)] = salt ++ Bx.be4 1 := by simp [partsT]
    rw [e, hS0] at q
    exact q.mono (by rintro v Fs ⟨A', c', y', T', h1, rfl, _, _, rfl⟩; exact ⟨A', c', y', T', h1, rfl, rfl⟩)) ?_
  rintro v Fs ⟨A5, c5, y5, T5, hy5, rfl, rfl⟩
  refine ⟨hsub, ?_⟩
  refine ⟨((rounds - 1 : Nat) : Int), by rw [wrap_i64 (by omega) (by omega)]; omega, ?_⟩
  refine loop_rule (ι := Nat × (Option Addr × Nat) × (Option Addr × Nat) × MacY × List UInt8) 4 (fun i => [(0, .c (.v (.func (.yield l) #[] #[]))), (6, .fn (.func n_hmac_pieces_1_1) [] [.p 3 0]), (8, .c (.v (.slice i.2.1.1 32 i.2.1.2))), (9, .c (.v (.slice i.2.2.1.1 32 i.2.2.1.2))), (23, .c (.v (.int .i64 ((rounds - 1 : Nat) : Int)))), (24, .c (.v (.int .i64 (i.1 : Int))))])
    (fun _ => [⟨3, 222, [.v (ptrB y.m)]⟩]) (fun i => [bsF i.2.1.1 (S i.1), bsF i.2.2.1.1 (X i.1), macF i.2.2.2.1 pass i.2.2.2.2, f0, R, oddF 2]) (fun i => i.1 ≤ rounds - 1 ∧ i.2.2.2.1.m = y.m) (fun i => rounds - 1 - i.1) (0, (A5, c5), (A5, c5), y5, T5) ⟨Nat.zero_le _, hy5⟩
    (Ent.mk' ⟨rfl, rfl, rfl, rfl, rfl, rfl, trivial⟩ rfl (fun β w' hs => by
      have k1 := (hs.ro 0 rfl).dupRo 0 rfl
      have k2 := k1.perm [0, 1, 2, 5, 6, 8]
      show Sat _ _ _ _ [bsF A5 (S 0), bsF A5 (X 0), macF y5 pass T5, f0, R, oddF 2] w'
      rw [← hX0]
      exact k2.keepB (List.Sublist.cons_cons _ (List.nil_sublist _)))) g ?_
  rintro ⟨i, ⟨Au, cu⟩, ⟨Ax, cx'⟩, yi, Ti⟩ ⟨hi, hyi⟩
  simp only at hi hyi
  refine BIf.dec (fun hlt => ?_) (fun hge => ?_)
  · have hlt0 : (i : Int) < ((rounds - 1 : Nat) : Int) := hlt
    intro b3
    refine call_con [3] (A := fun β => #[.slice (some ⟨b3, 0, none⟩) 1 1, ptrB (β 3)]) (R := fun v Fs => ∃ A' c' y' T', y'.m = y.m ∧ v = .slice A' 32 c' ∧ Fs = [browF ty_uint8 A' (S (i + 1)) c', macF y' pass T']) (fun β w' hs => by
      have hrow : Sat (cx_hmac_pieces_1 w (Un Gs) [bx1, bx2, bx3]) β 4 [⟨3, 222, [.v (ptrB y.m)]⟩] [rdF 1 (some ⟨b3, 0, none⟩) 1 [.slice Au (S i).length cu], bsF Au (S i), bsF Ax (X i), macF yi pass Ti, f0, R, oddF 2] w' := by rw [hSl]; exact hs.rowRd 0 rfl
      have k2 := hrow.part1 (P := some ⟨b3, 0, none⟩) (A := Au) (l := S i) (c := cu) [0, 1] rfl
      have k3 := k2.withCell (b := ⟨3, 222, [.v (ptrB y.m)]⟩) (by simp) rfl (js := [4, 0, 7]) rfl
      have k4 := k3.take (js := [1, 0, 2, 3]) rfl
      have k5 : Mem w' [macF yi pass Ti, cellR (β 3) (ptrB yi.m), partF (some ⟨b3, 0, none⟩) [(Au, S i, cu)], oddF 2] := by rw [hyi]; exact k4
      have e : partsT [(Au, S i, cu)] = S i := by simp [partsT]
      have q := once_c w' (β 3) yi pass Ti (some ⟨b3, 0, none⟩) [(Au, S i, cu)] 1 (by rw [e, hSl]; decide) (by show 1 ≤ 1000; decide) k5
      rw [e, hSs] at q
      exact q.mono (by rintro v Fs ⟨A', c', y', T', h1, rfl, _, _, rfl⟩; exact ⟨A', c', y', T', h1.trans hyi, rfl, rfl⟩)) ?_
    rintro v Fs ⟨A6, c6, y6, T6, hy6, rfl, rfl⟩
    refine call_con [] (R := fun v Fs => ∃ A' c', v = .slice A' 32 c' ∧ Fs = [browF ty_uint8 A' (X (i + 1)) c']) (fun β w' hs => by
      have q := xor_c w' Ax A6 (X i) (S (i + 1)) cx' c6 (hs.get 4 rfl) (row_rd (hs.get 0 rfl)) (by rw [hXl]; decide)
      rw [hXl, hSl, hXs] at q
      exact q.mono (by rintro v Fs ⟨A', c', rfl, _, _, rfl⟩; exact ⟨A', c', by rw [hXl], rfl⟩)) ?_
    rintro v Fs ⟨A7, c7, rfl, rfl⟩
    refine ⟨((i + 1 : Nat) : Int), by rw [wrap_i64 (by omega) (by omega)]; rfl, ?_⟩
    refine ⟨(i + 1, (A6, c6), (A7, c7), y6, T6), ⟨by show i + 1 ≤ rounds - 1; omega, hy6⟩, by show rounds - 1 - (i + 1) < rounds - 1 - i; omega, Ent.mk' ⟨rfl, rfl, rfl, rfl, rfl, rfl, trivial⟩ rfl (fun β w' hs => ?_)⟩
    exact ((hs.ro 0 rfl).ro 1 rfl).perm [1, 0, 2, 6, 7, 8]
  · have hge0 : ¬ (i : Int) < ((rounds - 1 : Nat) : Int) := hge
    have hir : i = rounds - 1 := by omega
    rw [hTX, ← hir]
    refine yield_ro hY (A := fun β => #[.slice Ax 32 cx']) (pre := []) (x := X i) (f := f0) (X := bsF Ax (X i)) 3 4 rfl hJ0 hf0 rfl hRo (by decide) (fun β => ⟨hXl i, Ax, cx', rfl, rfl⟩) rfl (fun β w' hs => ⟨hs.get 1 rfl, hs.getLt 1 rfl, hs.apart (i := 3) (j := 1) rfl rfl (by decide) (.inl hf0)⟩) ?_ ?_
    · intro f' _ hJ
      exact absurd hJ (hJS _ _)
    · intro f' hfo hJx
      intro β w' hs
      exact (hs.keepB (List.nil_sublist _)).fin [0] ⟨f', [], rfl, .inr ⟨_, hJx, rfl, rfl⟩⟩
end Go.Proofs.YtoifclfanabalaaGreatDoor.Sx

namespace Go.Proofs.YtoifclfanabalaaGreatDoor.Sx
open Go
attribute [local irreducible] Calls
theorem pieces_c (w : World) (A B : Option Addr) (n c m d : Nat) (r : Int) : Con Tryz.prog n_hmac_pieces #[.slice A n c, .slice B m d, .int .i64 r] w [] fun v Fs => ∃ b1 b2 b3, v = .func (.func n_hmac_pieces_1) #[] #[ptrB b1, ptrB b2, ptrB b3] ∧ Fs = [bkF b1 ty_sl_uint8 [.slice A n c], bkF b2 ty_sl_uint8 [.slice B m d], bkF b3 ty_int [.int .i64 r]] := by
  refine con_of_sx (cx := cx_hmac_pieces w (Un [])) (good_hmac_pieces w (Un [])) b_hmac_pieces rfl rfl (β := Va.z) [.c (.v (.slice A n c)), .c (.v (.slice B m d)), .c (.v (.int .i64 r))] 0 [] [] rfl rfl (Sat.start rfl) ?_
  intro β w' hs
  exact hs.ofBk.ofBk.ofBk.fin [0, 1, 2] ⟨β 0, β 1, β 2, rfl, rfl⟩ rfl rfl rfl ⟨rfl, rfl, rfl, trivial⟩
theorem hsized_c (w : World) : Pu Tryz.prog n_hmac_sized #[.int .i64 32] w (.bool true) := by
  refine con_of_sx (cx := cx_hmac_sized w (Un [])) (good_hmac_sized w (Un [])) b_hmac_sized rfl rfl (β := Va.z) [.c (.v (.int .i64 32))] 0 [] [] rfl rfl (Sat.start rfl) ?_
  intro β w' hs
  exact hs.fin [] ⟨rfl, rfl⟩
set_option maxHeartbeats 1000000 in
theorem first32_c (w : World) (bx1 bx2 bx3 : Nat) (A B : Option Addr) (pass salt : List UInt8) (c d rounds : Nat) (hk : pass.length ≤ 1000000) (hn : salt.length ≤ 100000) (hr1 : 1 ≤ rounds) (hr2 : rounds ≤ 64)
    (hm : Mem w [bkF bx1 ty_sl_uint8 [.slice A pass.length c], bkF bx2 ty_sl_uint8 [.slice B salt.length d], bkF bx3 ty_int [.int .i64 rounds], bsF A pass, bsF B salt, oddF 2, firstF 0]) :
    Con Tryz.prog n_hmac_first #[.int .i64 32, .func (.func n_hmac_pieces_1) #[] #[ptrB bx1, ptrB bx2, ptrB bx3]] w [bkF bx1 ty_sl_uint8 [.slice A pass.length c], bkF bx2 ty_sl_uint8 [.slice B salt.length d], bkF bx3 ty_int [.int .i64 rounds]]
      fun v Fs => ∃ A' c', v = .slice A' 32 c' ∧ 32 ≤ c' ∧ c' ≤ maxLen ∧ Fs = [browF ty_uint8 A' (stretchL pass salt rounds) c'] := by
  obtain ⟨Gs, hGs⟩ : ∃ Gs, Gs = [bkF bx1 ty_sl_uint8 [.slice A pass.length c], bkF bx2 ty_sl_uint8 [.slice B salt.length d], bkF bx3 ty_int [.int .i64 rounds]] := ⟨_, rfl⟩
  rw [← hGs]
  have g := good_hmac_first w (Un Gs)
  have hml := maxLen_eq
  obtain ⟨T, hT⟩ : ∃ T, stretchL pass salt rounds = T := ⟨_, rfl⟩
  have hTl : T.length = 32 := by rw [← hT]; exact strX_len _ _ _
  have hs0 : Sat (cx_hmac_first w (Un Gs)) Va.z 0 [] [bkF bx1 ty_sl_uint8 [.slice A pass.length c], bkF bx2 ty_sl_uint8 [.slice B salt.length d], bkF bx3 ty_int [.int .i64 rounds], bsF A pass, bsF B salt, oddF 2, firstF 0] w := hm.sat0 rfl (fun f hf ho k hk => by
    simp only [List.mem_cons, List.not_mem_nil, or_false] at hf
    rcases hf with rfl | rfl | rfl | rfl | rfl | rfl | rfl
    · exact ⟨_, by rw [hGs]; simp, hk⟩
    · exact ⟨bkF bx2 ty_sl_uint8 [.slice B salt.length d], by rw [hGs]; simp, hk⟩
    · exact ⟨bkF bx3 ty_int [.int .i64 rounds], by rw [hGs]; simp, hk⟩
    · cases ho
    · cases ho
    · cases ho
    · cases ho)
  refine con_of_sx (cx := cx_hmac_first w (Un Gs)) g b_hmac_first rfl rfl (β := Va.z) [.c (.v (.int .i64 32)), .c (.v (.func (.func n_hmac_pieces_1) #[] #[ptrB bx1, ptrB bx2, ptrB bx3]))] 0 [] [bkF bx1 ty_sl_uint8 [.slice A pass.length c], bkF bx2 ty_sl_uint8 [.slice B salt.length d], bkF bx3 ty_int [.int .i64 rounds], bsF A pass, bsF B salt, oddF 2, firstF 0] rfl rfl hs0 ?_
  refine range_ruleP (α := List UInt8) (ι := Unit) (κ := List UInt8 × Option Addr × Nat) g rfl (cv := [ptrB bx1, ptrB bx2, ptrB bx3]) rfl (by kernel_rfl) 2 (Nat.le_refl 2)
    (fun pre _ => pre = []) (fun _ => [⟨1, ty_sl_uint8, [.v (.slice none 0 0)]⟩, ⟨0, ty_int, [.v (.int .i64 32)]⟩]) (fun _ => [browF ty_uint8 none [] 0]) (fun _ => ⟨rfl, trivial⟩)
    (fun e pre i => e = .exit 0 ∧ pre = [i.1] ∧ i.1.length = 32 ∧ 32 ≤ i.2.2 ∧ i.2.2 ≤ maxLen) (fun i => [⟨1, ty_sl_uint8, [.v (.slice i.2.1 32 i.2.2)]⟩, ⟨0, ty_int, [.v (.int .i64 32)]⟩]) (fun i => [rowF ty_uint8 1 (.slice i.2.1 32 i.2.2) 32 (i.1.map byte)]) (fun _ => ⟨rfl, trivial⟩)
    [bkF bx1 ty_sl_uint8 [.slice A pass.length c], bkF bx2 ty_sl_uint8 [.slice B salt.length d], bkF bx3 ty_int [.int .i64 rounds]] [bsF A pass, bsF B salt, oddF 2, firstF 0] [] ⟨rfl, rfl, rfl, trivial⟩ (fun g h => by cases h) () rfl (fun β w hs => ⟨β, Agr.refl _ _, (hs.nilRow ty_uint8 1).perm [1, 2, 3, 4, 5, 6, 7, 0]⟩) (fun _ => insP)
    (fun _ _ => False) (fun pre Fs' => pre = [T] ∧ Fs' = [])
    (fun l w f0 R J Jx hJ0 hJo hRo hY hP hm => by
      rw [← hT]
      exact pieces_it l w bx1 bx2 bx3 A B pass salt c d rounds f0 R J Jx hJ0 hJo hRo hY (fun x f hJ => by obtain ⟨_, hi⟩ := hP _ _ hJ; cases hi) hk hn hr1 hr2 hm) ?_ ?_ ?_
  · rintro _ pre x args X W S l bs pn pn' hbs rfl ⟨hx, Ax, cx', rfl, rfl⟩
    refine ⟨_, rfl, ?_⟩
    refine ⟨1, 0, 32, [], x.map byte, x.map byte, rfl, fun β w hs => ?_, bytes_one x, rfl, rfl, by omega, by decide, ?_⟩
    · have h : Rd 1 Ax x.length (x.map byte) w := hs.get 0 rfl
      rw [hx] at h
      exact h
    intro A' c' q1 q2 _
    exact ⟨(x, A', c'), ⟨rfl, rfl, hx, q1, q2⟩, Ent.mk' trivial rfl (fun β w hs => hs.perm [1])⟩
  · rintro xs _ Fs _ h
    exact h.elim
  · rintro e pre ⟨x, A1, c1⟩ Fs ⟨rfl, rfl, hx, h1, h2⟩ ⟨hpre, rfl⟩
    simp only at hx h1 h2
    obtain rfl : x = T := by simpa using hpre
    refine ⟨c1, 32, 0, 32, c1, A1, rfl, rfl, rfl, Nat.le_refl _, h1, Nat.zero_le _, rfl, rfl, cutA_z A1, ?_⟩
    refine call_con [] (R := fun v Fs => ∃ A' c', v = .slice A' 32 c' ∧ 32 ≤ c' ∧ c' ≤ maxLen ∧ Fs = [browF ty_uint8 A' x c']) (fun β w' hs => by
      have q := clone_c w' A1 x c1 (by show Rd 1 A1 x.length _ w'; rw [hx]; exact row_rd (hs.get 0 rfl)) (by omega)
      rw [hx] at q
      exact q) ?_
    rintro v Fs ⟨A2, c2, rfl, h5, h6, rfl⟩
    intro β w' hs
    exact (hs.keepB (List.nil_sublist _)).fin [0] ⟨A2, c2, rfl, h5, h6, by rw [hT]; rfl⟩
theorem stretch_c (w : World) (A B : Option Addr) (pass salt : List UInt8) (c d rounds : Nat) (hr : Bs w A pass) (ht : Bs w B salt) (hk : pass.length ≤ 1000000) (hn : salt.length ≤ 100000) (hr1 : 1 ≤ rounds) (hr2 : rounds ≤ 64) (h1 : (oddF 2).p w) (h0 : (firstF 0).p w) :
    Con Tryz.prog n_hmac_Stretch #[.slice A pass.length c, .slice B salt.length d, .int .i64 rounds, .int .i64 32] w [] fun v Fs => ∃ A' c', v = .tuple #[.slice A' 32 c', .int .i64 0] ∧ 32 ≤ c' ∧ c' ≤ maxLen ∧ Fs = [browF ty_uint8 A' (stretchL pass salt rounds) c'] := by
  have g := good_hmac_Stretch w (Un [])
  have hs0 : Sat (cx_hmac_Stretch w (Un [])) Va.z 0 [] [oldF w] w := old_sat rfl
  have hs1 := (((hs0.sub 0 rfl rfl (firstF 0) rfl h0 (rd_lt h0)).sub 1 rfl rfl (oddF 2) rfl h1 (rd_lt h1)).sub 2 rfl rfl (bsF B salt) rfl ht (rd_lt ht)).sub 3 rfl rfl (bsF A pass) rfl hr (rd_lt hr)
  refine con_of_sx (cx := cx_hmac_Stretch w (Un [])) g b_hmac_Stretch rfl rfl (β := Va.z) [.c (.v (.slice A pass.length c)), .c (.v (.slice B salt.length d)), .c (.v (.int .i64 rounds)), .c (.v (.int .i64 32))] 0 [] [bsF A pass, bsF B salt, oddF 2, firstF 0, oldF w] rfl rfl hs1 ?_
  refine BIf.dec (fun q => absurd (show (rounds : Int) < 1 from q) (by omega)) (fun _ => ?_)
  refine BIf.dec (fun q => absurd (show (64 : Int) < (rounds : Int) from q) (by omega)) (fun _ => ?_)
  refine call_pu (fun β w' hs => hsized_c w') ?_
  refine call_con [] (fun β w' hs => pieces_c w' A B pass.length c salt.length d rounds) ?_
  rintro v Fs ⟨b1, b2, b3, rfl, rfl⟩
  refine call_con [0, 1, 2] (fun β w' hs => first32_c w' b1 b2 b3 A B pass salt c d rounds hk hn hr1 hr2 (hs.mem.take (js := [0, 1, 2, 3, 4, 5, 6]) rfl)) ?_ ⟨rfl, rfl, rfl, trivial⟩
  rintro v Fs ⟨A', c', rfl, h5, h6, rfl⟩
  intro β w' hs
  exact hs.fin [0] ⟨A', c', rfl, h5, h6, rfl⟩
def notIn (l m : List Nat) : List Nat := l.filter fun x => !decide (x ∈ m)
theorem notIn_len (l m : List Nat) : (notIn l m).length ≤ l.length := List.length_filter_le _ _
theorem notIn_snoc {l : List Nat} {k x : Nat} (m : List Nat) (h : l[k]? = some x) : notIn (l.take (k + 1)) m = notIn (l.take k) m ++ (if x ∈ m then [] else [x]) := by
  unfold notIn
  rw [List.take_add_one, h, List.filter_append]
  congr 1
  by_cases hx : x ∈ m <;> simp [hx]
structure TuS where
  k : Nat
  A : Option Addr
  c : Nat
def sumS (A1 : Option Addr) (l : List Nat) (c1 : Nat) (A2 : Option Addr) (m : List UInt8) (c2 : Nat) : List SL := [.v (.slice A1 l.length c1), .v (.slice A2 m.length c2)]
theorem turned_c (w : World) (A1 A2 B1 B2 : Option Addr) (l1 l2 : List Nat) (m1 m2 : List UInt8) (c1 c2 d1 d2 : Nat) (hl1 : Rd 1 A1 l1.length (ints l1) w) (hl2 : Rd 1 B1 l2.length (ints l2) w) (hm1 : Bs w A2 m1) (hm2 : Bs w B2 m2)
    (hn1 : l1.length ≤ 1000000) (hn2 : l2.length ≤ 1000000) (hk1 : m1.length ≤ 1000000) :
    Con Tryz.prog n_box_turned #[sumV A1 l1 c1 A2 m1 c2, sumV B1 l2 d1 B2 m2 d2] w [] fun v Fs => ∃ A c B d, v = sumV A (sortN (notIn l1 l2 ++ notIn l2 l1)) c B (Bx.xorB m1 m2) d ∧ (Bx.xorB m1 m2).length ≤ d ∧ d ≤ maxLen ∧ (∀ x ∈ sortN (notIn l1 l2 ++ notIn l2 l1), ∃ ad, A = some ad) ∧ Fs = [irowF A (sortN (notIn l1 l2 ++ notIn l2 l1)) c, browF ty_uint8 B (Bx.xorB m1 m2) d] := by
  have g := good_box_turned w (Un [])
  refine con_of_sx (cx := cx_box_turned w (Un [])) g b_box_turned rfl rfl (β := Va.z) [.agg (sumS A1 l1 c1 A2 m1 c2), .agg (sumS B1 l2 d1 B2 m2 d2)] 0 [] [oldF w] rfl rfl (old_sat rfl) ?_
  refine call_con [] (fun β w' hs => xor_c w' A2 B2 m1 m2 c2 d2 (Rd.old hm1 (hs.get 0 rfl)) (Rd.old hm2 (hs.get 0 rfl)) (by omega)) ?_
  rintro v Fs ⟨B, d, rfl, hd, hdm, rfl⟩
  refine loop_rule (ι := TuS) 4 (fun i => [(17, .c (.v (.slice A1 l1.length c1))), (18, .c (.v (.int .i64 l1.length))), (19, .c (.v (.int .i64 i.k))), (2, .c (.p 0 0)), (3, .c (.p 1 0)), (4, .c (.p 2 0)), (5, .c (.p 3 0))])
    (fun i => [⟨3, ty_box_sum, sumS i.A (notIn (l1.take i.k) l2) i.c B (Bx.xorB m1 m2) d⟩, ⟨2, ty_box_sum, ti174.zero.map SL.v⟩, ⟨1, ty_box_sum, sumS B1 l2 d1 B2 m2 d2⟩, ⟨0, ty_box_sum, sumS A1 l1 c1 A2 m1 c2⟩])
    (fun i => [irowF i.A (notIn (l1.take i.k) l2) i.c, browF ty_uint8 B (Bx.xorB m1 m2) d, oldF w]) (fun i => i.k ≤ l1.length) (fun i => l1.length - i.k) ⟨0, none, 0⟩ (Nat.zero_le _) (Ent.mk' ⟨rfl, rfl, rfl, rfl, rfl, rfl, rfl, trivial⟩ rfl (fun β w hs => hs.nilRow ty_int 1)) g ?_
  rintro ⟨k, A, c⟩ hk
  simp only at hk
  have ha := notIn_len (l1.take k) l2
  have hat : (l1.take k).length ≤ l1.length := by simp; omega
  refine BIf.dec (fun hlt => ?_) (fun hge => ?_)
  · have hlt0 : (k : Int) < l1.length := hlt
    have hkl : k < l1.length := by omega
    obtain ⟨x, hx, hxm⟩ := at_lt hkl
    obtain ⟨ad, hA, _⟩ := hl1.2 (by omega)
    refine ⟨ad, k, hA, rfl, hkl, _, fun β w' hs => Rd.cell1 (by have h := Rd.old hl1 (hs.get 2 rfl); rw [hA] at h; exact h) (ints_at hx), ?_⟩
    refine call_pu (fun β w' hs => containsI_c w' B1 l2 d1 x (Rd.old hl2 (hs.get 2 rfl)) (by omega)) ?_
    have hsn := notIn_snoc l2 hx
    refine BIf.not (BIf.dec (fun hin => ?_) (fun hin => ?_))
    · refine ⟨((k + 1 : Nat) : Int), by rw [wrap_i64 (by omega) (by omega)]; rfl, ?_⟩
      rw [if_pos hin, List.append_nil] at hsn
      refine ⟨⟨k + 1, A, c⟩, hkl, by show l1.length - (k + 1) < l1.length - k; omega, ?_⟩
      simp only [hsn]
      exact Ent.same ⟨rfl, rfl, rfl, rfl, rfl, rfl, rfl, trivial⟩ rfl
    · rw [if_neg hin] at hsn
      intro b2
      refine ⟨1, (notIn (l1.take k) l2).length, (notIn (l1.take k) l2).length + 1, ints (notIn (l1.take k) l2), ints [x], ints (notIn (l1.take k) l2 ++ [x]), rfl, fun β w hs => row_rd (hs.get 0 rfl), ints_one _, rfl, by simp [ints], by rw [maxLen_eq]; omega, by show ((notIn (l1.take k) l2).length + 1) * 8 ≤ _; omega, ?_⟩
      intro A' c' q1 q2 _
      refine ⟨((k + 1 : Nat) : Int), by rw [wrap_i64 (by omega) (by omega)]; rfl, ?_⟩
      refine ⟨⟨k + 1, A', c'⟩, hkl, by show l1.length - (k + 1) < l1.length - k; omega, ?_⟩
      simp only [hsn]
      refine Ent.mk' ⟨rfl, rfl, rfl, rfl, rfl, rfl, rfl, trivial⟩ rfl (fun β w' hs => ?_)
      simp only [irowF, sumS, List.length_append, List.length_cons, List.length_nil]
      exact hs.weaken (List.Sublist.refl _) (List.sublist_cons_self _ _)
  · have hge0 : ¬ (k : Int) < l1.length := hge
    obtain rfl : k = l1.length := by omega
    rw [List.take_length]
    refine loop_rule (ι := TuS) 4 (fun i => [(36, .c (.v (.slice B1 l2.length d1))), (37, .c (.v (.int .i64 l2.length))), (38, .c (.v (.int .i64 i.k))), (2, .c (.p 0 0)), (3, .c (.p 1 0)), (4, .c (.p 2 0)), (5, .c (.p 3 0))])
      (fun i => [⟨3, ty_box_sum, sumS i.A (notIn l1 l2 ++ notIn (l2.take i.k) l1) i.c B (Bx.xorB m1 m2) d⟩, ⟨2, ty_box_sum, ti174.zero.map SL.v⟩, ⟨1, ty_box_sum, sumS B1 l2 d1 B2 m2 d2⟩, ⟨0, ty_box_sum, sumS A1 l1 c1 A2 m1 c2⟩])
      (fun i => [irowF i.A (notIn l1 l2 ++ notIn (l2.take i.k) l1) i.c, browF ty_uint8 B (Bx.xorB m1 m2) d, oldF w]) (fun i => i.k ≤ l2.length) (fun i => l2.length - i.k) ⟨0, A, c⟩ (Nat.zero_le _) (by
        simp only [List.take_zero, notIn, List.filter_nil, List.append_nil]
        exact Ent.same ⟨rfl, rfl, rfl, rfl, rfl, rfl, rfl, trivial⟩ rfl) g ?_
    clear hk ha hat hge hge0
    rintro ⟨k, A, c⟩ hk
    simp only at hk
    have ha := notIn_len l1 l2
    have ha2 := notIn_len (l2.take k) l1
    have hat : (l2.take k).length ≤ l2.length := by simp; omega
    refine BIf.dec (fun hlt => ?_) (fun hge => ?_)
    · have hlt0 : (k : Int) < l2.length := hlt
      have hkl : k < l2.length := by omega
      obtain ⟨x, hx, hxm⟩ := at_lt hkl
      obtain ⟨ad, hA, _⟩ := hl2.2 (by omega)
      refine ⟨ad, k, hA, rfl, hkl, _, fun β w' hs => Rd.cell1 (by have h := Rd.old hl2 (hs.get 2 rfl); rw [hA] at h; exact h) (ints_at hx), ?_⟩
      refine call_pu (fun β w' hs => containsI_c w' A1 l1 c1 x (Rd.old hl1 (hs.get 2 rfl)) (by omega)) ?_
      have hsn := notIn_snoc l1 hx
      refine BIf.not (BIf.dec (fun hin => ?_) (fun hin => ?_))
      · refine ⟨((k + 1 : Nat) : Int), by rw [wrap_i64 (by omega) (by omega)]; rfl, ?_⟩
        rw [if_pos hin, List.append_nil] at hsn
        refine ⟨⟨k + 1, A, c⟩, hkl, by show l2.length - (k + 1) < l2.length - k; omega, ?_⟩
        simp only [hsn]
        exact Ent.same ⟨rfl, rfl, rfl, rfl, rfl, rfl, rfl, trivial⟩ rfl
      · rw [if_neg hin] at hsn
        intro b2
        have hal : (notIn l1 l2 ++ notIn (l2.take k) l1).length ≤ 2000000 := by rw [List.length_append]; omega
        refine ⟨1, (notIn l1 l2 ++ notIn (l2.take k) l1).length, (notIn l1 l2 ++ notIn (l2.take k) l1).length + 1, ints (notIn l1 l2 ++ notIn (l2.take k) l1), ints [x], ints (notIn l1 l2 ++ notIn (l2.take k) l1 ++ [x]), rfl, fun β w hs => row_rd (hs.get 0 rfl), ints_one _, rfl, by simp [ints], by rw [maxLen_eq]; omega, by show ((notIn l1 l2 ++ notIn (l2.take k) l1).length + 1) * 8 ≤ _; omega, ?_⟩
        intro A' c' q1 q2 _
        refine ⟨((k + 1 : Nat) : Int), by rw [wrap_i64 (by omega) (by omega)]; rfl, ?_⟩
        refine ⟨⟨k + 1, A', c'⟩, hkl, by show l2.length - (k + 1) < l2.length - k; omega, ?_⟩
        simp only [hsn]
        refine Ent.mk' ⟨rfl, rfl, rfl, rfl, rfl, rfl, rfl, trivial⟩ rfl (fun β w' hs => ?_)
        have e : (notIn l1 l2 ++ (notIn (l2.take k) l1 ++ [x])) = notIn l1 l2 ++ notIn (l2.take k) l1 ++ [x] := (List.append_assoc _ _ _).symm
        have e2 : (notIn l1 l2 ++ notIn (l2.take k) l1 ++ [x]).length = (notIn l1 l2 ++ notIn (l2.take k) l1).length + 1 := by rw [List.length_append (bs := [x])]; rfl
        rw [e]
        simp only [irowF, sumS, e2]
        exact hs.weaken (List.Sublist.refl _) (List.sublist_cons_self _ _)
    · have hge0 : ¬ (k : Int) < l2.length := hge
      obtain rfl : k = l2.length := by omega
      rw [List.take_length]
      have ha3 := notIn_len l2 l1
      refine call_con [0] (fun β w' hs => sort_c w' A (notIn l1 l2 ++ notIn l2 l1) c (hs.mem.take (js := [0]) rfl) (by rw [List.length_append]; omega)) ?_
      rintro v Fs ⟨rfl, rfl⟩
      intro β w' hs
      refine (hs.keepB (List.nil_sublist _)).fin [0, 1] ⟨A, c, B, d, ?_, hd, hdm, fun x hx => ?_, rfl⟩
      · unfold sumV
        rw [sortN_len]
        rfl
      · obtain ⟨ad, h, _⟩ := (row_rd (hs.get 0 rfl)).2 (by have := List.length_pos_of_mem hx; omega)
        exact ⟨ad, h⟩
structure OkS (l : List Nat) (m : List UInt8) : Prop where
  len : l.length ≤ 4096
  nums : ∀ n ∈ l, n ≤ 4096
  mask : m.length = 32
def mixL (l1 l2 : List Nat) : List Nat := sortN (notIn l1 l2 ++ notIn l2 l1)
def turnT (L : List Nat) (M : List UInt8) : Bx.Term := ⟨4, [], [], 0, L, M⟩
open Classical in
noncomputable def turnB (B : Bx.Box) (s t : List UInt8) : Option (List UInt8) × Bx.Box := match B.opens s, B.opens t with
  | some (l1, m1), some (l2, m2) =>
    if mixL l1 l2 = [] ∧ ¬ (B.sym = true ∧ (Bx.xorB m1 m2).take 28 = Bx.front) then (some (Bx.xorB m1 m2), B)
    else match mixL l1 l2, decide (Bx.xorB m1 m2 = Bx.noughts) with
      | [n], true => (some (Bx.handle n), B)
      | L, _ => (some (B.tag (turnT L (Bx.xorB m1 m2))).1, (B.tag (turnT L (Bx.xorB m1 m2))).2)
  | _, _ => (none, B)
theorem turnB_none1 {B : Bx.Box} {s t : List UInt8} (h : B.opens s = none) : turnB B s t = (none, B) := by unfold turnB; rw [h]
theorem turnB_none2 {B : Bx.Box} {s t : List UInt8} (h : B.opens t = none) : turnB B s t = (none, B) := by unfold turnB; rw [h]; cases B.opens s <;> rfl
theorem turnB_raw {B : Bx.Box} {s t : List UInt8} {l1 l2 : List Nat} {m1 m2 : List UInt8} (h1 : B.opens s = some (l1, m1)) (h2 : B.opens t = some (l2, m2)) (hL : mixL l1 l2 = []) (hs : ¬ (B.sym = true ∧ (Bx.xorB m1 m2).take 28 = Bx.front)) : turnB B s t = (some (Bx.xorB m1 m2), B) := by
  unfold turnB; rw [h1, h2]; simp only; rw [if_pos ⟨hL, hs⟩]
theorem turnB_one {B : Bx.Box} {s t : List UInt8} {l1 l2 : List Nat} {m1 m2 : List UInt8} {n : Nat} (h1 : B.opens s = some (l1, m1)) (h2 : B.opens t = some (l2, m2)) (hL : mixL l1 l2 = [n]) (hM : Bx.xorB m1 m2 = Bx.noughts) : turnB B s t = (some (Bx.handle n), B) := by
  unfold turnB; rw [h1, h2]; simp only; rw [if_neg (fun q => by rw [hL] at q; cases q.1), hL, decide_eq_true hM]
theorem turnB_tag {B : Bx.Box} {s t : List UInt8} {l1 l2 : List Nat} {m1 m2 : List UInt8} (h1 : B.opens s = some (l1, m1)) (h2 : B.opens t = some (l2, m2)) (hs : ¬ (mixL l1 l2 = [] ∧ ¬ (B.sym = true ∧ (Bx.xorB m1 m2).take 28 = Bx.front))) (hn : ¬ ((mixL l1 l2).length = 1 ∧ Bx.xorB m1 m2 = Bx.noughts)) :
    turnB B s t = (some (B.tag (turnT (mixL l1 l2) (Bx.xorB m1 m2))).1, (B.tag (turnT (mixL l1 l2) (Bx.xorB m1 m2))).2) := by
  unfold turnB; rw [h1, h2]; simp only; rw [if_neg hs]
  split
  · rename_i n h3 h4
    exact absurd ⟨by rw [h3]; rfl, of_decide_eq_true h4⟩ hn
  · rfl
def turnOut (b : Nat) (B : Bx.Box) (y : Lay) (s t : List UInt8) (v : Value) (Fs : List Fact) : Prop := match turnB B s t with
  | (none, _) => v = .tuple #[.slice none 0 0, .int .i64 4] ∧ Fs = [bxF b B y]
  | (some h, B') => ∃ A c y', v = .tuple #[.slice A 32 c, .int .i64 0] ∧ 32 ≤ c ∧ c ≤ maxLen ∧ y'.ts.map (·.1) = B'.L ∧ Fs = [browF ty_uint8 A h c, bxF b B' y']
theorem turnOut_none {b : Nat} {B : Bx.Box} {y : Lay} {s t : List UInt8} (h : turnB B s t = (none, B)) : turnOut b B y s t = fun v Fs => v = .tuple #[.slice none 0 0, .int .i64 4] ∧ Fs = [bxF b B y] := by funext v Fs; unfold turnOut; rw [h]
theorem turnOut_some {b : Nat} {B B' : Bx.Box} {y : Lay} {s t h : List UInt8} (e : turnB B s t = (some h, B')) : turnOut b B y s t = fun v Fs => ∃ A c y', v = .tuple #[.slice A 32 c, .int .i64 0] ∧ 32 ≤ c ∧ c ≤ maxLen ∧ y'.ts.map (·.1) = B'.L ∧ Fs = [browF ty_uint8 A h c, bxF b B' y'] := by funext v Fs; unfold turnOut; rw [e]
theorem turnB_c (w : World) (b : Nat) (B : Bx.Box) (y : Lay) (A1 A2 : Option Addr) (s t : List UInt8) (c1 c2 : Nat) (hts : y.ts.map (·.1) = B.L) (hL : B.L.length ≤ 4096) (hsz : ∀ t ∈ B.L, TSz t) (hok : ∀ tag l m, B.opens tag = some (l, m) → OkS l m)
    (hm : Mem w [bxF b B y, bsF A1 s, bsF A2 t]) (hc1 : s.length ≤ c1) (hc2 : t.length ≤ c2) (hl1 : s.length ≤ 1000000) (hl2 : t.length ≤ 1000000) :
    Con Tryz.prog n_box_Box_Turn #[.pointer (some ⟨b, 0, none⟩), .slice A1 s.length c1, .slice A2 t.length c2] w [bxF b B y] (turnOut b B y s t) := by
  have g := good_box_Box_Turn w (Un [bxF b B y])
  have hs0 : Sat (cx_box_Box_Turn w (Un [bxF b B y])) Va.z 0 [] [bxF b B y, bsF A1 s, bsF A2 t] w := hm.sat0 rfl (fun f hf ho k hk => by
    simp only [List.mem_cons, List.not_mem_nil, or_false] at hf
    rcases hf with rfl | rfl | rfl
    · exact ⟨_, List.mem_singleton.2 rfl, hk⟩
    · cases ho
    · cases ho)
  refine con_of_sx (cx := cx_box_Box_Turn w (Un [bxF b B y])) g b_box_Box_Turn rfl rfl (β := Va.z) [.c (.v (.pointer (some ⟨b, 0, none⟩))), .c (.v (.slice A1 s.length c1)), .c (.v (.slice A2 t.length c2))] 0 [] _ rfl rfl hs0 ?_
  have bad : turnB B s t = (none, B) → ∀ {n : Nat} {H : List Bk} {F : List Fact} (j : Nat) (_ : nth F j = some (bxF b B y)) (β : Va) (w' : World), Sat (cx_box_Box_Turn w (Un [bxF b B y])) β n H F w' → Fin w [bxF b B y] (turnOut b B y s t) (.tuple #[.slice none 0 0, .int .i64 4]) w' := by
    intro hno n H F j hj β w' hs
    rw [turnOut_none hno]
    have hs2 := (hs.keepB (List.nil_sublist _)).perm [j]
    have e : takeIx F [j] = [bxF b B y] := by simp only [takeIx, hj]
    rw [e] at hs2
    exact hs2.fin [0] ⟨rfl, rfl⟩
  refine call_con [] (R := openOut B s) (fun β w' hs => open_c w' b B y A1 s c1 hts hL hsz (hs.get 0 rfl) (fun k hk => hs.flt _ (List.mem_of_getElem? (i := 0) rfl) k hk) (hs.get 1 rfl) hc1 hl1) ?_
  cases h1 : B.opens s with
  | none =>
    rw [openOut_none h1]
    rintro v Fs ⟨rfl, rfl⟩
    refine call_con [] (R := openOut B t) (fun β w' hs => open_c w' b B y A2 t c2 hts hL hsz (hs.get 0 rfl) (fun k hk => hs.flt _ (List.mem_of_getElem? (i := 0) rfl) k hk) (hs.get 2 rfl) hc2 hl2) ?_
    cases h2 : B.opens t with
    | none =>
      rw [openOut_none h2]
      rintro v Fs ⟨rfl, rfl⟩
      exact fun β w' hs => bad (turnB_none1 h1) 0 rfl β w' hs
    | some q =>
      obtain ⟨l2, m2⟩ := q
      rw [openOut_some h2]
      rintro v Fs ⟨B1, d1, B2, d2, rfl, _, rfl⟩
      exact fun β w' hs => bad (turnB_none1 h1) 2 rfl β w' hs
  | some p =>
    obtain ⟨l1, m1⟩ := p
    have ok1 := hok s l1 m1 h1
    rw [openOut_some h1]
    rintro v Fs ⟨a1, e1, a2, e2, rfl, he2, rfl⟩
    refine call_con [] (R := openOut B t) (fun β w' hs => open_c w' b B y A2 t c2 hts hL hsz (hs.get 2 rfl) (fun k hk => hs.flt _ (List.mem_of_getElem? (i := 2) rfl) k hk) (hs.get 4 rfl) hc2 hl2) ?_
    cases h2 : B.opens t with
    | none =>
      rw [openOut_none h2]
      rintro v Fs ⟨rfl, rfl⟩
      exact fun β w' hs => bad (turnB_none2 h2) 2 rfl β w' hs
    | some q =>
      obtain ⟨l2, m2⟩ := q
      have ok2 := hok t l2 m2 h2
      rw [openOut_some h2]
      rintro v Fs ⟨d1, f1, d2, f2, rfl, hf2, rfl⟩
      have hk1 := ok1.len
      have hk2 := ok2.len
      have hk3 := ok1.mask
      have hk4 := ok2.mask
      have hx : (Bx.xorB m1 m2).length = 32 := by rw [xorB_len]; omega
      have hmem : ∀ n ∈ mixL l1 l2, n ≤ 4096 := fun n hn => by
        have h3 : n ∈ notIn l1 l2 ++ notIn l2 l1 := by simpa [mixL, sortN] using hn
        rcases List.mem_append.1 h3 with q | q
        · exact ok1.nums n (List.mem_filter.1 q).1
        · exact ok2.nums n (List.mem_filter.1 q).1
      have hlen : (mixL l1 l2).length ≤ 8192 := by
        have h3 := notIn_len l1 l2
        have h4 := notIn_len l2 l1
        rw [mixL, sortN_len, List.length_append]
        omega
      have hR := turnB_raw (B := B) h1 h2
      have hO := fun n => turnB_one (B := B) (n := n) h1 h2
      have hT := turnB_tag (B := B) h1 h2
      have htc := fun (w' : World) (q1 : Rd 1 a1 l1.length (ints l1) w') (q2 : Rd 1 d1 l2.length (ints l2) w') (q3 : Bs w' a2 m1) (q4 : Bs w' d2 m2) => turned_c w' a1 a2 d1 d2 l1 l2 m1 m2 e1 e2 f1 f2 q1 q2 q3 q4 (by omega) (by omega) (by omega)
      rw [show sortN (notIn l1 l2 ++ notIn l2 l1) = mixL l1 l2 from rfl] at htc
      generalize mixL l1 l2 = L at *
      generalize Bx.xorB m1 m2 = M at *
      refine call_con [] (fun β w' hs => htc w' (row_rd (hs.get 2 rfl)) (row_rd (hs.get 0 rfl)) (row_rd (hs.get 3 rfl)) (row_rd (hs.get 1 rfl))) ?_
      rintro v Fs ⟨u1, g1, u2, g2, rfl, hg2, hgm, hsm, rfl⟩
      have hg2' : 32 ≤ g2 := by omega
      have hTs : TSz (turnT L M) := ⟨by show 4 < 1000; decide, by show 0 < 1000; decide, Nat.zero_le _, Nat.zero_le _, by show L.length ≤ 10000; omega, fun n hn => by have := hmem n hn; omega, by show M.length ≤ 1000000; omega⟩
      have trdD : ∀ k, (trdF (turnT L M) ⟨none, none, u1, u2, 0, 0, g1, g2⟩).D k → ∃ f ∈ [irowF u1 L g1, browF ty_uint8 u2 M g2], f.D k := by
        intro k hk
        rcases hk with ⟨q, _⟩ | ⟨q, _⟩ | ⟨_, ad, hA, rfl⟩ | ⟨_, ad, hA, rfl⟩
        · exact absurd q (Nat.lt_irrefl 0)
        · exact absurd q (Nat.lt_irrefl 0)
        · have hA' : u1 = some ad := hA
          subst hA'
          exact ⟨_, List.mem_cons_self, rfl⟩
        · have hA' : u2 = some ad := hA
          subst hA'
          exact ⟨_, List.mem_cons_of_mem _ List.mem_cons_self, rfl⟩
      have hSS : ∀ {n : Nat} {F : List Fact} {bb aa : Bk}, Sub (cx_box_Box_Turn w (Un [bxF b B y])) n [⟨2, ty_box_sum, sumS u1 L g1 u2 M g2⟩, bb, aa] F [⟨2, ty_box_sum, sumS u1 L g1 u2 M g2⟩] [] := fun {n F bb aa} => Sub.of ((List.nil_sublist _).cons_cons _) (List.nil_sublist _)
      refine draw_rule g p_box_Box_Turn_8 (by kernel_rfl) [⟨2, ty_box_sum, sumS u1 L g1 u2 M g2⟩] [] hSS ?_
      refine ⟨32, 32, rfl, rfl, Nat.le_refl _, by decide, by decide, ?_⟩
      intro b1
      refine ⟨hSS, ?_⟩
      refine call_pu (v := .bool (decide (M = Bx.noughts))) (fun β w' hs => beq_c w' u2 (some ⟨b1, 0, none⟩) M Bx.noughts g2 32 (row_rd (hs.get 2 rfl)) (row_rd (hs.get 0 rfl))) ?_
      refine ⟨hSS, ?_⟩
      have hSB : ∀ {n : Nat} {F : List Fact} {bb aa : Bk} (js : List Nat), takeIx F js = [bxF b B y] → nodupB js = true → Sub (cx_box_Box_Turn w (Un [bxF b B y])) n [⟨2, ty_box_sum, sumS u1 L g1 u2 M g2⟩, bb, aa] F [⟨2, ty_box_sum, sumS u1 L g1 u2 M g2⟩] [bxF b B y] := fun js h hn β w' hs => h ▸ (hs.weaken ((List.nil_sublist _).cons_cons _) (List.Sublist.refl _)).perm js hn
      cases L with
      | nil =>
        cases hsym : B.sym with
        | false =>
          refine draw_rule g p_box_Box_Turn_9 (by kernel_rfl) [⟨2, ty_box_sum, sumS u1 [] g1 u2 M g2⟩] [bxF b B y] (hSB [7] rfl rfl) ?_
          refine ⟨.bool false, fun β w' hs => box_cell (bx_bk (hs.get 0 rfl)) (o := 0) (by simp [boxCells, hsym]), ?_⟩
          refine ⟨hSB [7] rfl rfl, hSB [7] rfl rfl, ?_⟩
          intro β w' hs
          rw [turnOut_some (hR rfl (fun q => by rw [hsym] at q; cases q.1))]
          exact (hs.keepB (List.nil_sublist _)).fin [2, 7] ⟨u2, g2, y, congrArg (fun n => Value.tuple #[.slice u2 n g2, .int .i64 0]) hx, hg2', hgm, hts, rfl⟩
        | true =>
          refine draw_rule g p_box_Box_Turn_9 (by kernel_rfl) [⟨2, ty_box_sum, sumS u1 [] g1 u2 M g2⟩] [bxF b B y] (hSB [7] rfl rfl) ?_
          refine ⟨.bool true, fun β w' hs => box_cell (bx_bk (hs.get 0 rfl)) (o := 0) (by simp [boxCells, hsym]), ?_⟩
          refine ⟨g2, 28, 0, 28, g2, _, rfl, rfl, rfl, by omega, by omega, Nat.zero_le _, rfl, rfl, rfl, ?_⟩
          refine call_con [] (fun β w' hs => mark_c w') ?_
          rintro v Fs ⟨b2, rfl, rfl⟩
          refine ⟨hSB [8] rfl rfl, ?_⟩
          have e28 : (M.take 28).length = 28 := by simp; omega
          refine call_pu (v := .bool (decide (M.take 28 = Bx.front))) (fun β w' hs => by
            have h := beq_c w' (cutA u2 g2 0 1) (some ⟨b2, 0, none⟩) (M.take 28) Bx.front g2 28 (Bs.cutB (row_rd (hs.get 3 rfl)) (by omega) (Nat.zero_le 28) (by omega) (by simp)) (row_rd (hs.get 0 rfl))
            rw [e28] at h
            exact h) ?_
          refine ⟨hSB [8] rfl rfl, ?_⟩
          refine BIf.not (BIf.dec (fun hf => ?_) (fun hf => ?_))
          · skip
            refine call_con [8] (R := tagOut b B (turnT [] M)) (fun β w' hs => by
              have h2 := hs.fuse [2, 3] (trdF (turnT [] M) ⟨none, none, u1, u2, 0, 0, g1, g2⟩) (fun w hm => ⟨Bs.nil w none, Bs.nil w none, row_rd (hm.fact _ List.mem_cons_self), row_rd (hm.fact _ (List.mem_cons_of_mem _ List.mem_cons_self))⟩) trdD rfl ⟨rfl, rfl, trivial⟩
              exact tag_c w' b B y (turnT [] M) ⟨none, none, u1, u2, 0, 0, g1, g2⟩ hts hL hTs (h2.mem.take (js := [7, 0]) rfl)) ?_
            rintro v Fs ⟨A3, c3, y3, rfl, r1, r2, r3, rfl⟩
            intro β w' hs
            rw [turnOut_some (hT (fun q => q.2 ⟨hsym, hf⟩) (fun q => by cases q.1))]
            exact (hs.keepB (List.nil_sublist _)).fin [0, 1] ⟨A3, c3, y3, rfl, r1, r2, r3, rfl⟩
          · skip
            intro β w' hs
            rw [turnOut_some (hR rfl (fun q => hf q.2))]
            exact (hs.keepB (List.nil_sublist _)).fin [3, 8] ⟨u2, g2, y, congrArg (fun n => Value.tuple #[.slice u2 n g2, .int .i64 0]) hx, hg2', hgm, hts, rfl⟩
      | cons n r =>
        refine draw_rule g p_box_Box_Turn_9 (by kernel_rfl) [⟨2, ty_box_sum, sumS u1 (n :: r) g1 u2 M g2⟩] [bxF b B y] (hSB [7] rfl rfl) ?_
        refine ⟨hSB [7] rfl rfl, hSB [7] rfl rfl, ?_⟩
        cases r with
        | nil =>
          refine BIf.dec (fun hz => ?_) (fun hz => ?_)
          · obtain ⟨ad, rfl⟩ : ∃ ad, u1 = some ad := hsm n List.mem_cons_self
            refine ⟨ad, 0, rfl, rfl, Nat.lt_succ_self 0, _, fun β w' hs => Rd.cell1 (row_rd (hs.get 1 rfl)) rfl, ?_⟩
            refine call_con [] (fun β w' hs => handle_c w' n) ?_
            rintro v Fs ⟨A3, c3, rfl, q1, q2, rfl⟩
            intro β w' hs
            rw [turnOut_some (hO n rfl hz)]
            exact (hs.keepB (List.nil_sublist _)).fin [0, 8] ⟨A3, c3, y, rfl, q1, q2, hts, rfl⟩
          · skip
            refine call_con [7] (R := tagOut b B (turnT [n] M)) (fun β w' hs => by
              have h2 := hs.fuse [1, 2] (trdF (turnT [n] M) ⟨none, none, u1, u2, 0, 0, g1, g2⟩) (fun w hm => ⟨Bs.nil w none, Bs.nil w none, row_rd (hm.fact _ List.mem_cons_self), row_rd (hm.fact _ (List.mem_cons_of_mem _ List.mem_cons_self))⟩) trdD rfl ⟨rfl, rfl, trivial⟩
              exact tag_c w' b B y (turnT [n] M) ⟨none, none, u1, u2, 0, 0, g1, g2⟩ hts hL hTs (h2.mem.take (js := [6, 0]) rfl)) ?_
            rintro v Fs ⟨A3, c3, y3, rfl, r1, r2, r3, rfl⟩
            intro β w' hs
            rw [turnOut_some (hT (fun q => by cases q.1) (fun q => hz q.2))]
            exact (hs.keepB (List.nil_sublist _)).fin [0, 1] ⟨A3, c3, y3, rfl, r1, r2, r3, rfl⟩
        | cons n2 r2 =>
          refine call_con [7] (R := tagOut b B (turnT (n :: n2 :: r2) M)) (fun β w' hs => by
            have h2 := hs.fuse [1, 2] (trdF (turnT (n :: n2 :: r2) M) ⟨none, none, u1, u2, 0, 0, g1, g2⟩) (fun w hm => ⟨Bs.nil w none, Bs.nil w none, row_rd (hm.fact _ List.mem_cons_self), row_rd (hm.fact _ (List.mem_cons_of_mem _ List.mem_cons_self))⟩) trdD rfl ⟨rfl, rfl, trivial⟩
            exact tag_c w' b B y (turnT (n :: n2 :: r2) M) ⟨none, none, u1, u2, 0, 0, g1, g2⟩ hts hL hTs (h2.mem.take (js := [6, 0]) rfl)) ?_
          rintro v Fs ⟨A3, c3, y3, rfl, r1, r2, r3, rfl⟩
          intro β w' hs
          rw [turnOut_some (hT (fun q => by cases q.1) (fun q => by cases q.1))]
          exact (hs.keepB (List.nil_sublist _)).fin [0, 1] ⟨A3, c3, y3, rfl, r1, r2, r3, rfl⟩
end Go.Proofs.YtoifclfanabalaaGreatDoor.Sx

namespace Go.Proofs.YtoifclfanabalaaGreatDoor.Sx
open Go
def tA : Bx.Term := hashT [97]
def tB : Bx.Term := hashT [98]
def B0 : Bx.Box := ⟨true, false, []⟩
def B1 : Bx.Box := ⟨true, false, [tA]⟩
def B2 : Bx.Box := ⟨true, false, [tA, tB]⟩
theorem tag_new {B : Bx.Box} {t : Bx.Term} (h : Bx.place t B.L = none) (hl : ¬ 4096 ≤ B.L.length) : B.tag t = (Bx.handle (B.L.length + 1), { B with L := B.L ++ [t] }) := by unfold Bx.Box.tag; rw [h]; simp only; rw [if_neg hl]
theorem place_not {t : Bx.Term} : ∀ {L : List Bx.Term}, t ∉ L → Bx.place t L = none
  | [], _ => rfl
  | x :: r, h => by
    unfold Bx.place
    rw [if_neg (show ¬ x = t from fun q => h (by rw [q]; exact List.mem_cons_self)), place_not (fun q => h (List.mem_cons_of_mem _ q))]
    rfl
theorem tag_A : B0.tag tA = (Bx.handle 1, B1) := tag_new (B := B0) (t := tA) rfl (by decide)
theorem opens_h {B : Bx.Box} {n : Nat} {t : Bx.Term} (hs : B.sym = true) (hn : n < 4294967296) (h0 : 1 ≤ n) (hl : n ≤ B.L.length) (ht : B.L[n - 1]? = some t) : B.opens (Bx.handle n) = if t.kind = 4 then some (t.list, t.mask) else some ([n], Bx.noughts) :=
  Bx.opens_in (Bx.handle_len n) hs (List.take_left' Bx.front_len) (by rw [show (Bx.handle n).drop 28 = Bx.be4 n from List.drop_left' Bx.front_len, Bx.num_be4 hn]) (by omega) ht
end Go.Proofs.YtoifclfanabalaaGreatDoor.Sx

namespace Go.Proofs.YtoifclfanabalaaGreatDoor.Sx
open Go
attribute [local irreducible] Calls
theorem Sat.rdRow {cx : Cx} {β : Va} {n : Nat} {H : List Bk} {F : List Fact} {w : World} {e : TypeId} {A : Option Addr} {l : List UInt8} {c : Nat} (h : Sat cx β n H F w) (j : Nat) (hj : nth F j = some (browF e A l c)) : Sat cx β n H (bsF A l :: dropIx [j] 0 F) w := by
  have q : takeIx F [j] = [browF e A l c] := by simp only [takeIx, hj]
  refine h.fuse [j] (bsF A l) (fun w hm => ?_) (fun k hk => ?_) rfl (by rw [q]; exact ⟨rfl, trivial⟩)
  · rw [q] at hm
    exact row_rd (hm.fact _ List.mem_cons_self)
  · rw [q]
    obtain ⟨_, ad, h, rfl⟩ := hk
    cases h
    exact ⟨_, List.mem_cons_self, rfl⟩
theorem newX_c (w : World) (sym : Bool) : Con Tryz.prog n_box_New #[.bool sym] w [] fun v Fs => ∃ b y, v = .pointer (some ⟨b, 0, none⟩) ∧ y.ts = [] ∧ Fs = [bxF b ⟨sym, false, []⟩ y] := by
  refine con_of_sx (cx := cx_box_New w (Un [])) (good_box_New w (Un [])) b_box_New rfl rfl (β := Va.z) [.c (.v (.bool sym))] 0 [] [] rfl rfl (Sat.start rfl) ?_
  intro m
  intro β w' hs
  have h2 := (hs.ofBk.nilRow ty_box_Term 6).noMem (partsF []) (fun _ h => (by cases h)) (fun k hk => by obtain ⟨p, hp, _⟩ := hk; cases hp)
  exact (h2.sep [2, 1, 3, 0] rfl ⟨rfl, rfl, rfl, rfl, trivial⟩).fin [0] ⟨_, ⟨none, 0, m, []⟩, rfl, rfl, rfl⟩
def macT (k t : List UInt8) : Bx.Term := ⟨2, k, t, 0, [], []⟩
def strT (p s : List UInt8) (r : Nat) : Bx.Term := ⟨3, p, s, r, [], []⟩
noncomputable def hashB (B : Bx.Box) (t : List UInt8) : List UInt8 × Bx.Box := if B.sym then B.tag (hashT t) else (Sha.sum t, B)
noncomputable def macB (B : Bx.Box) (k t : List UInt8) : List UInt8 × Bx.Box := if B.sym then B.tag (macT k t) else (hmL k t, B)
noncomputable def strB (B : Bx.Box) (p s : List UInt8) (r : Nat) : List UInt8 × Bx.Box := if B.sym then B.tag (strT p s r) else (stretchL p s r, B)
def boxOut (b : Nat) (r : List UInt8 × Bx.Box) (v : Value) (Fs : List Fact) : Prop :=
  ∃ A c y', v = .slice A 32 c ∧ 32 ≤ c ∧ c ≤ maxLen ∧ y'.ts.map (·.1) = r.2.L ∧ Fs = [browF ty_uint8 A r.1 c, bxF b r.2 y']
theorem Sat.unown {cx : Cx} {β : Va} {n : Nat} {H : List Bk} {F : List Fact} {w : World} (h : Sat cx β n H F w) (j : Nat) {size : Nat} {A : Option Addr} {k : Nat} {xs : List Value} (hj : nth F j = some (rdoF size A k xs)) : Sat cx β n H (putAt F j (rdF size A k xs)) w :=
  h.upd hj rfl (Chg.refl _ _) (show (rdF size A k xs).p w from rdo_rd (h.get j hj)) (fun _ hk => .inl hk)
theorem Sat.trd {cx : Cx} {β : Va} {n : Nat} {H : List Bk} {F : List Fact} {w : World} (h : Sat cx β n H F w) (js : List Nat) (t : Bx.Term) (a : TA) (hl : t.list = []) (hm : t.mask = []) (hj : takeIx F js = [bsF a.k t.key, bsF a.t t.text]) : Sat cx β n H (trdF t a :: F) w := by
  have get : ∀ f ∈ takeIx F js, f.p w := fun f hf => by obtain ⟨i, _, hi⟩ := takeIx_mem hf; exact h.fact f (List.mem_of_getElem? hi)
  refine h.subN js (fun f hf => ?_) _ rfl ⟨get (bsF a.k t.key) (by rw [hj]; simp), get (bsF a.t t.text) (by rw [hj]; simp), by rw [hl]; exact rd_nil w a.l, by rw [hm]; exact Bs.nil w a.m⟩ (fun k hk => ?_)
  · rw [hj] at hf
    simp only [List.mem_cons, List.not_mem_nil, or_false] at hf
    rcases hf with rfl | rfl <;> rfl
  · rw [hj]
    rcases hk with hk | hk | hk | hk
    · exact ⟨_, List.mem_cons_self, hk⟩
    · exact ⟨bsF a.t t.text, by simp, hk⟩
    · rw [hl] at hk
      exact absurd hk.1 (by simp)
    · rw [hm] at hk
      exact absurd hk.1 (by simp)
theorem parts_len {ps : List Part} : (ps.map (·.2.1)).flatten = partsT ps := by
  unfold partsT
  rw [List.flatMap_def]
theorem joinP_c (w : World) (b0 : Nat) (ps : List Part) (cP : Nat) (h : (partF (some ⟨b0, 0, none⟩) ps).p w) (h0 : ps ≠ []) (hc : ps.length ≤ cP) (hl : ps.length ≤ 1000) (hn : (partsT ps).length ≤ 1000000) :
    Con Tryz.prog n_bytes_Join #[.slice (some ⟨b0, 0, none⟩) ps.length cP, .slice none 0 0] w [] (readOut (partsT ps)) := by
  match ps with
  | [] => exact absurd rfl h0
  | [p] =>
    have e : partsT [p] = p.2.1 := by simp [partsT]
    rw [e] at hn ⊢
    exact join1R_c w (some ⟨b0, 0, none⟩) p.1 cP p.2.2 p.2.1 h.1 (h.2 p List.mem_cons_self) (by omega)
  | p :: q :: r =>
    have k := joinN_c w b0 cP ((p :: q :: r).map partV) ((p :: q :: r).map (·.2.1)) (by rw [List.length_map]; exact h.1) (fun i v l hv hl => by
      rw [List.getElem?_map] at hv hl
      obtain ⟨x, hx, rfl⟩ := Option.map_eq_some_iff.1 hv
      obtain ⟨x', hx', rfl⟩ := Option.map_eq_some_iff.1 hl
      rw [hx] at hx'
      obtain rfl := Option.some.inj hx'
      exact Bs.holds (h.2 x (List.mem_of_getElem? hx)) x.2.2) (by simp) (by rw [List.length_map]; exact hc) (by rw [List.length_map]; exact hl) (by rw [parts_len]; omega)
    rw [List.length_map, parts_len] at k
    exact k
theorem partOld {P : Option Addr} {ps : List Part} {W w : World} (h : (partF P ps).p W) (ho : (oldF W).p w) : (partF P ps).p w := ⟨Rd.old h.1 ho, fun p hp => Rd.old (h.2 p hp) ho⟩
theorem hashP_c (w : World) (b : Nat) (B : Bx.Box) (y : Lay) (b0 : Nat) (ps : List Part) (cP : Nat) (hts : y.ts.map (·.1) = B.L) (hL : B.L.length ≤ 4096) (h0 : ps ≠ []) (hc : ps.length ≤ cP) (hl : ps.length ≤ 1000) (hn : (partsT ps).length ≤ 1000000) (hm : Mem w [bxF b B y, partF (some ⟨b0, 0, none⟩) ps, oddF 2, firstF 0]) :
    Con Tryz.prog n_box_Box_Hash #[ptrB b, .slice (some ⟨b0, 0, none⟩) ps.length cP] w [bxF b B y] (boxOut b (hashB B (partsT ps))) := by
  have g := good_box_Box_Hash w (Un [bxF b B y])
  have hs0 : Sat (cx_box_Box_Hash w (Un [bxF b B y])) Va.z 0 [] [bxF b B y, partF (some ⟨b0, 0, none⟩) ps, oddF 2, firstF 0] w := hm.sat0 rfl (ownIn (Gs := [bxF b B y]) (fun f hf => by
    simp only [List.mem_cons, List.not_mem_nil, or_false] at hf
    rcases hf with rfl | rfl | rfl <;> rfl))
  refine con_of_sx (cx := cx_box_Box_Hash w (Un [bxF b B y])) g b_box_Box_Hash rfl rfl (β := Va.z) [.c (.v (ptrB b)), .c (.v (.slice (some ⟨b0, 0, none⟩) ps.length cP))] 0 [] [bxF b B y, partF (some ⟨b0, 0, none⟩) ps, oddF 2, firstF 0] rfl rfl hs0 ?_
  cases hsym : B.sym with
  | true =>
    refine ⟨.bool true, fun β w' hs => box_cell (bx_bk (hs.get 0 rfl)) (o := 0) (by simp [boxCells, hsym]), ?_⟩
    refine call_con [] (fun β w' hs => joinP_c w' b0 ps cP (hs.get 1 rfl) h0 hc hl hn) ?_
    rintro v Fs ⟨A1, c1, rfl, q1, q2, rfl⟩
    refine call_con [1] (R := boxOut b (B.tag (hashT (partsT ps)))) (fun β w' hs => by
      have k2 := ((hs.unown 0 rfl).noMem (bsF none []) (Bs.nil w' none) (fun k hk => absurd hk.1 (by simp))).trd [0, 1] (hashT (partsT ps)) ⟨none, A1, none, none, 0, c1, 0, 0⟩ rfl rfl rfl
      exact tag_c w' b B y (hashT (partsT ps)) ⟨none, A1, none, none, 0, c1, 0, 0⟩ hts hL (hashT_sz hn) (k2.mem.take (js := [3, 0]) rfl)) ?_
    rintro v Fs ⟨A2, c2, y2, rfl, r1, r2, r3, rfl⟩
    intro β w' hs
    have e : hashB B (partsT ps) = B.tag (hashT (partsT ps)) := by unfold hashB; rw [hsym]; rfl
    rw [e]
    exact hs.fin [0, 1] ⟨A2, c2, y2, rfl, r1, r2, r3, rfl⟩
  | false =>
    refine ⟨.bool false, fun β w' hs => box_cell (bx_bk (hs.get 0 rfl)) (o := 0) (by simp [boxCells, hsym]), ?_⟩
    refine call_con [] (fun β w' hs => sumJ_c w' (some ⟨b0, 0, none⟩) ps.length cP (partsT ps) (fun w2 ho => joinP_c w2 b0 ps cP (partOld (hs.get 1 rfl) ho) h0 hc hl hn) (by omega) (hs.get 2 rfl) (hs.get 3 rfl)) ?_
    rintro v Fs ⟨A2, c2, rfl, r1, r2, rfl⟩
    intro β w' hs
    have e : hashB B (partsT ps) = (Sha.sum (partsT ps), B) := by unfold hashB; rw [hsym]; rfl
    rw [e]
    exact hs.fin [0, 1] ⟨A2, c2, y, rfl, r1, r2, hts, rfl⟩
theorem macT_sz {k t : List UInt8} (hk : k.length ≤ 1000000) (hl : t.length ≤ 1000000) : TSz (macT k t) := ⟨by show 2 < 1000; decide, by show 0 < 1000; decide, hk, hl, Nat.zero_le _, fun _ h => (by cases h), Nat.zero_le _⟩
theorem strT_sz {k t : List UInt8} {r : Nat} (hk : k.length ≤ 1000000) (hl : t.length ≤ 1000000) (hr : r ≤ 64) : TSz (strT k t r) := ⟨by show 3 < 1000; decide, by show r < 1000; omega, hk, hl, Nat.zero_le _, fun _ h => (by cases h), Nat.zero_le _⟩
theorem macP_c (w : World) (b : Nat) (B : Bx.Box) (y : Lay) (K : Option Addr) (key : List UInt8) (cK : Nat) (b0 : Nat) (ps : List Part) (cP : Nat) (hts : y.ts.map (·.1) = B.L) (hL : B.L.length ≤ 4096) (hk : key.length ≤ 1000000) (h0 : ps ≠ []) (hc : ps.length ≤ cP) (hl : ps.length ≤ 1000) (hn : (partsT ps).length ≤ 1000000) (hm : Mem w [bxF b B y, partF (some ⟨b0, 0, none⟩) ps, bsF K key, oddF 2, firstF 0]) :
    Con Tryz.prog n_box_Box_Mac #[ptrB b, .slice K key.length cK, .slice (some ⟨b0, 0, none⟩) ps.length cP] w [bxF b B y] (boxOut b (macB B key (partsT ps))) := by
  have g := good_box_Box_Mac w (Un [bxF b B y])
  have hs0 : Sat (cx_box_Box_Mac w (Un [bxF b B y])) Va.z 0 [] [bxF b B y, partF (some ⟨b0, 0, none⟩) ps, bsF K key, oddF 2, firstF 0] w := hm.sat0 rfl (ownIn (Gs := [bxF b B y]) (fun f hf => by
    simp only [List.mem_cons, List.not_mem_nil, or_false] at hf
    rcases hf with rfl | rfl | rfl | rfl <;> rfl))
  refine con_of_sx (cx := cx_box_Box_Mac w (Un [bxF b B y])) g b_box_Box_Mac rfl rfl (β := Va.z) [.c (.v (ptrB b)), .c (.v (.slice K key.length cK)), .c (.v (.slice (some ⟨b0, 0, none⟩) ps.length cP))] 0 [] [bxF b B y, partF (some ⟨b0, 0, none⟩) ps, bsF K key, oddF 2, firstF 0] rfl rfl hs0 ?_
  cases hsym : B.sym with
  | true =>
    refine ⟨.bool true, fun β w' hs => box_cell (bx_bk (hs.get 0 rfl)) (o := 0) (by simp [boxCells, hsym]), ?_⟩
    refine call_con [] (fun β w' hs => joinP_c w' b0 ps cP (hs.get 1 rfl) h0 hc hl hn) ?_
    rintro v Fs ⟨A1, c1, rfl, q1, q2, rfl⟩
    refine call_con [1] (R := boxOut b (B.tag (macT key (partsT ps)))) (fun β w' hs => by
      have k2 := (hs.unown 0 rfl).trd [3, 0] (macT key (partsT ps)) ⟨K, A1, none, none, cK, c1, 0, 0⟩ rfl rfl rfl
      exact tag_c w' b B y (macT key (partsT ps)) ⟨K, A1, none, none, cK, c1, 0, 0⟩ hts hL (macT_sz hk hn) (k2.mem.take (js := [2, 0]) rfl)) ?_
    rintro v Fs ⟨A2, c2, y2, rfl, r1, r2, r3, rfl⟩
    intro β w' hs
    have e : macB B key (partsT ps) = B.tag (macT key (partsT ps)) := by unfold macB; rw [hsym]; rfl
    rw [e]
    exact hs.fin [0, 1] ⟨A2, c2, y2, rfl, r1, r2, r3, rfl⟩
  | false =>
    refine ⟨.bool false, fun β w' hs => box_cell (bx_bk (hs.get 0 rfl)) (o := 0) (by simp [boxCells, hsym]), ?_⟩
    refine call_con [] (fun β w' hs => hsum_c w' K (some ⟨b0, 0, none⟩) key (partsT ps) cK ps.length cP (hs.get 2 rfl) hk hn (fun w2 ho => joinP_c w2 b0 ps cP (partOld (hs.get 1 rfl) ho) h0 hc hl hn) (hs.get 3 rfl) (hs.get 4 rfl)) ?_
    rintro v Fs ⟨A2, c2, rfl, r1, r2, rfl⟩
    intro β w' hs
    have e : macB B key (partsT ps) = (hmL key (partsT ps), B) := by unfold macB; rw [hsym]; rfl
    rw [e]
    exact hs.fin [0, 1] ⟨A2, c2, y, rfl, r1, r2, hts, rfl⟩
def strOut (b : Nat) (B : Bx.Box) (y : Lay) (p s : List UInt8) (r : Int) (v : Value) (Fs : List Fact) : Prop :=
  if 1 ≤ r ∧ r ≤ 64 then ∃ A c y', v = .tuple #[.slice A 32 c, .int .i64 0] ∧ 32 ≤ c ∧ c ≤ maxLen ∧ y'.ts.map (·.1) = (strB B p s r.toNat).2.L ∧ Fs = [browF ty_uint8 A (strB B p s r.toNat).1 c, bxF b (strB B p s r.toNat).2 y']
  else v = .tuple #[.slice none 0 0, .int .i64 1] ∧ Fs = [bxF b B y]
theorem strP_c (w : World) (b : Nat) (B : Bx.Box) (y : Lay) (K S : Option Addr) (p s : List UInt8) (cK cS : Nat) (r : Int) (hts : y.ts.map (·.1) = B.L) (hL : B.L.length ≤ 4096) (hk : p.length ≤ 1000000) (hn : s.length ≤ 100000) (hm : Mem w [bxF b B y, bsF K p, bsF S s, oddF 2, firstF 0]) :
    Con Tryz.prog n_box_Box_Stretch #[ptrB b, .slice K p.length cK, .slice S s.length cS, .int .i64 r] w [bxF b B y] (strOut b B y p s r) := by
  have g := good_box_Box_Stretch w (Un [bxF b B y])
  have hs0 : Sat (cx_box_Box_Stretch w (Un [bxF b B y])) Va.z 0 [] [bxF b B y, bsF K p, bsF S s, oddF 2, firstF 0] w := hm.sat0 rfl (ownIn (Gs := [bxF b B y]) (fun f hf => by
    simp only [List.mem_cons, List.not_mem_nil, or_false] at hf
    rcases hf with rfl | rfl | rfl | rfl <;> rfl))
  refine con_of_sx (cx := cx_box_Box_Stretch w (Un [bxF b B y])) g b_box_Box_Stretch rfl rfl (β := Va.z) [.c (.v (ptrB b)), .c (.v (.slice K p.length cK)), .c (.v (.slice S s.length cS)), .c (.v (.int .i64 r))] 0 [] [bxF b B y, bsF K p, bsF S s, oddF 2, firstF 0] rfl rfl hs0 ?_
  refine BIf.dec (fun q => ?_) (fun q => ?_)
  · have q0 : r < 1 := q
    intro β w' hs
    refine hs.fin [0] ?_
    unfold strOut
    rw [if_neg (by omega)]
    exact ⟨rfl, rfl⟩
  have q0 : ¬ r < 1 := q
  refine BIf.dec (fun q2 => ?_) (fun q2 => ?_)
  · have q20 : 64 < r := q2
    intro β w' hs
    refine hs.fin [0] ?_
    unfold strOut
    rw [if_neg (by omega)]
    exact ⟨rfl, rfl⟩
  have q20 : ¬ 64 < r := q2
  obtain ⟨m, rfl⟩ : ∃ m : Nat, r = (m : Int) := ⟨r.toNat, by omega⟩
  have hso : strOut b B y p s (m : Int) = fun v Fs => ∃ A c y', v = .tuple #[.slice A 32 c, .int .i64 0] ∧ 32 ≤ c ∧ c ≤ maxLen ∧ y'.ts.map (·.1) = (strB B p s m).2.L ∧ Fs = [browF ty_uint8 A (strB B p s m).1 c, bxF b (strB B p s m).2 y'] := by
    funext v Fs
    unfold strOut
    rw [if_pos (by omega)]
    rfl
  rw [hso]
  cases hsym : B.sym with
  | true =>
    refine ⟨.bool true, fun β w' hs => box_cell (bx_bk (hs.get 0 rfl)) (o := 0) (by simp [boxCells, hsym]), ?_⟩
    refine call_con [0] (R := boxOut b (B.tag (strT p s m))) (fun β w' hs => by
      have k2 := hs.trd [1, 2] (strT p s m) ⟨K, S, none, none, cK, cS, 0, 0⟩ rfl rfl rfl
      exact tag_c w' b B y (strT p s m) ⟨K, S, none, none, cK, cS, 0, 0⟩ hts hL (strT_sz hk (by omega) (by omega)) (k2.mem.take (js := [1, 0]) rfl)) ?_
    rintro v Fs ⟨A2, c2, y2, rfl, r1, r2, r3, rfl⟩
    intro β w' hs
    have e : strB B p s m = B.tag (strT p s m) := by unfold strB; rw [hsym]; rfl
    rw [e]
    exact hs.fin [0, 1] ⟨A2, c2, y2, rfl, r1, r2, r3, rfl⟩
  | false =>
    refine ⟨.bool false, fun β w' hs => box_cell (bx_bk (hs.get 0 rfl)) (o := 0) (by simp [boxCells, hsym]), ?_⟩
    refine call_con [] (fun β w' hs => stretch_c w' K S p s cK cS m (hs.get 1 rfl) (hs.get 2 rfl) hk hn (by omega) (by omega) (hs.get 3 rfl) (hs.get 4 rfl)) ?_
    rintro v Fs ⟨A2, c2, rfl, r1, r2, rfl⟩
    intro β w' hs
    have e : strB B p s m = (stretchL p s m, B) := by unfold strB; rw [hsym]; rfl
    rw [e]
    exact hs.fin [0, 1] ⟨A2, c2, y, rfl, r1, r2, hts, rfl⟩
theorem rfront_c (w : World) : Con Tryz.prog n_ostiaryref05_front #[] w [] fun v Fs => ∃ A c, v = .slice A 28 c ∧ 28 ≤ c ∧ c ≤ maxLen ∧ Fs = [browF ty_uint8 A Bx.front c] := by
  refine con_of_sx (cx := cx_ostiaryref05_front w (Un [])) (good_ostiaryref05_front w (Un [])) b_ostiaryref05_front rfl rfl (β := Va.z) [] 0 [] [] rfl rfl (Sat.start rfl) ?_
  intro b
  refine ⟨0, 4, 24, 28, _, _, Bx.front.map byte, rfl, ⟨rfl, rfl, fun u hu => by obtain rfl := List.mem_singleton.1 hu; rfl⟩, rfl, rfl, by rw [maxLen_eq]; decide, by decide, ?_⟩
  intro A' c' h1 h2 _ β w' hs
  exact hs.fin [0] ⟨A', c', rfl, h1, h2, rfl⟩
theorem be4_eq (n : Nat) : be 4 n = Bx.be4 n := by
  have key : ∀ m : Nat, UInt8.ofNat (m % 256) = UInt8.ofNat m := fun m => by
    apply UInt8.toNat_inj.1
    simp
  simp [be, Bx.be4, key, Nat.div_div_eq_div_mul]
theorem rhandle_c (w : World) (n : Nat) (hn : n < 4294967296) : Con Tryz.prog n_ostiaryref05_Handle #[.int .i64 n] w [] fun v Fs => ∃ A c, v = .slice A 32 c ∧ 32 ≤ c ∧ c ≤ maxLen ∧ Fs = [browF ty_uint8 A (Bx.handle n) c] := by
  refine con_of_sx (cx := cx_ostiaryref05_Handle w (Un [])) (good_ostiaryref05_Handle w (Un [])) b_ostiaryref05_Handle rfl rfl (β := Va.z) [.c (.v (.int .i64 n))] 0 [] [] rfl rfl (Sat.start rfl) ?_
  refine call_con [] (fun β w' hs => rfront_c w') ?_
  rintro v Fs ⟨A, c, rfl, h1, h2, rfl⟩
  refine ⟨(n : Int), by rw [wrap_u32]; omega, ?_⟩
  refine ⟨(n : Int), by rw [wrap_u64']; omega, ?_⟩
  refine call_con [] (fun β w' hs => be_con w' n 4 (by omega) (by decide)) ?_
  rintro v Fs ⟨A2, c2, rfl, _, _, rfl⟩
  refine ⟨1, 28, 32, Bx.front.map byte, (be 4 n).map byte, (Bx.handle n).map byte, rfl, fun β w hs => row_rd (hs.get 0 rfl), bytes_one _, rfl, by rw [be4_eq, ← List.map_append]; rfl, by rw [maxLen_eq]; decide, by decide, ?_⟩
  intro A' c' q1 q2 _ β w' hs
  exact hs.fin [1] ⟨A', c', rfl, q1, q2, rfl⟩
theorem numB_num (l : List UInt8) : numB l = Bx.num l % 18446744073709551616 := by
  have key : ∀ (l : List UInt8) (a : Nat), l.foldl (fun a x => (a * 256 + x.toNat) % 18446744073709551616) (a % 18446744073709551616) = l.foldl (fun n b => n * 256 + b.toNat) a % 18446744073709551616 := by
    intro l
    induction l with
    | nil => intro a; rfl
    | cons x r ih =>
      intro a
      simp only [List.foldl_cons]
      rw [show (a % 18446744073709551616 * 256 + x.toNat) % 18446744073709551616 = (a * 256 + x.toNat) % 18446744073709551616 by omega, ih]
  exact key l 0
theorem num4 {l : List UInt8} (h : l.length = 32) : Bx.num (l.drop 28) < 4294967296 := by
  have h1 := num_lt (l.drop 28)
  have h2 : (l.drop 28).length = 4 := by rw [List.length_drop]; omega
  rw [h2] at h1
  exact h1
def looksV (l : List UInt8) : Value := match Bx.looks l with
  | some n => .tuple #[.int .i64 (n : Int), .bool true]
  | none => .tuple #[.int .i64 0, .bool false]
theorem looks_c (w : World) (A : Option Addr) (l : List UInt8) (c : Nat) (hr : Bs w A l) (hc : l.length ≤ c) (hn : l.length ≤ 1000000000) : Pu Tryz.prog n_ostiaryref05_Looks #[.slice A l.length c] w (looksV l) := by
  have g := good_ostiaryref05_Looks w (Un [])
  refine con_of_sx (cx := cx_ostiaryref05_Looks w (Un [])) g b_ostiaryref05_Looks rfl rfl (β := Va.z) [.c (.v (.slice A l.length c))] 0 [] [oldF w] rfl rfl (old_sat rfl) ?_
  refine draw_rule g p_ostiaryref05_Looks_1 (by kernel_rfl) [] [oldF w] Sub.refl ?_
  have none_ : (Bx.looks l = none) → ∀ (n : Nat) (H : List Bk) (F : List Fact), ∀ β w', Sat (cx_ostiaryref05_Looks w (Un [])) β n H F w' → Fin w [] (fun u Fs => u = looksV l ∧ Fs = []) (.tuple #[.int .i64 0, .bool false]) w' := fun h n H F β w' hs => hs.fin [] ⟨by unfold looksV; rw [h], rfl⟩
  refine BIf.not (BIf.dec (fun h32 => ?_) (fun h32 => ?_))
  · have hl : l.length = 32 := by omega
    refine ⟨c, 28, 0, 28, c, _, rfl, rfl, rfl, by omega, by omega, Nat.zero_le _, rfl, rfl, rfl, ?_⟩
    refine call_con [] (fun β w' hs => rfront_c w') ?_
    rintro v Fs ⟨A2, c2, rfl, q1, _, rfl⟩
    refine ⟨subPerm [1], ?_⟩
    have e28 : (l.take 28).length = 28 := by simp; omega
    refine call_pu (v := .bool (decide (l.take 28 = Bx.front))) (fun β w' hs => by
      have h := pu_of (same_c w' (cutA A c 0 1) A2 (l.take 28) Bx.front c c2 (Bs.cutB (Rd.old hr (hs.get 1 rfl)) hc (Nat.zero_le 28) (by omega) (by simp)) (row_rd (hs.get 0 rfl)))
      rw [e28] at h
      exact h) ?_
    refine ⟨subPerm [1], ?_⟩
    refine BIf.not (BIf.dec (fun hf => ?_) (fun hf => ?_))
    · have hlk : Bx.looks l = some (Bx.num (l.drop 28)) := by unfold Bx.looks; rw [if_pos ⟨hl, hf⟩]
      refine ⟨c, 32, 28, 4, c - 28, _, rfl, hl.symm, rfl, by omega, by omega, by omega, rfl, rfl, rfl, ?_⟩
      have hd : (l.drop 28).length = 4 := by simp; omega
      have h4 := num4 hl
      have hrd : ∀ w', (oldF w).p w' → Bs w' (cutA A c 28 1) (l.drop 28) := fun w' ho => Bs.cutB (Rd.old hr ho) hc (show 28 ≤ 32 by decide) (by omega) (by rw [List.take_of_length_le (by omega)])
      refine call_pu (v := .int .u64 (Bx.num (l.drop 28))) (fun β w' hs => by
        have h := pu_of (num_c w' (cutA A c 28 1) (l.drop 28) (c - 28) (hrd w' (hs.get 1 rfl)) (by rw [lim_eq]; omega))
        rw [hd, numB_num, Nat.mod_eq_of_lt (by omega)] at h
        exact h) ?_
      refine ⟨(Bx.num (l.drop 28) : Int), wrap_i64 (by omega) (by omega), ?_⟩
      intro β w' hs
      refine hs.fin [] ⟨?_, rfl⟩
      unfold looksV
      rw [hlk]
      rfl
    · exact none_ (by unfold Bx.looks; rw [if_neg (fun q => hf q.2)]) _ _ _
  · exact ⟨Sub.refl, Sub.refl, none_ (by unfold Bx.looks; rw [if_neg (fun q => h32 (by have := q.1; omega))]) _ _ _⟩
theorem rints_c (w : World) (A B : Option Addr) (l m : List Nat) (c d : Nat) (hl : Rd 1 A l.length (ints l) w) (hm : Rd 1 B m.length (ints m) w) (hn : l.length ≤ 1000000) :
    Pu Tryz.prog n_ostiaryref05_ints #[.slice A l.length c, .slice B m.length d] w (.bool (decide (l = m))) := by
  have g := good_ostiaryref05_ints w (Un [])
  refine con_of_sx (cx := cx_ostiaryref05_ints w (Un [])) g b_ostiaryref05_ints rfl rfl (β := Va.z) [.c (.v (.slice A l.length c)), .c (.v (.slice B m.length d))] 0 [] [oldF w] rfl rfl (old_sat rfl) ?_
  refine BIf.not (BIf.dec (fun h0 => ?_) (fun h0 => ?_))
  · have hlen : l.length = m.length := by omega
    refine loop_rule 0 (fun k : Nat => [(0, .c (.v (.slice A l.length c))), (1, .c (.v (.slice B m.length d))), (12, .c (.v (.int .i64 l.length))), (13, .c (.v (.int .i64 k)))]) (fun _ => []) (fun _ => [oldF w])
      (fun k => k ≤ l.length ∧ l.take k = m.take k) (fun k => l.length - k) 0 ⟨Nat.zero_le _, by simp⟩ (Ent.same ⟨rfl, rfl, rfl, rfl, trivial⟩ rfl) g ?_
    rintro k ⟨hk, htk⟩
    refine BIf.dec (fun hlt => ?_) (fun hge => ?_)
    · have hlt0 : (k : Int) < l.length := hlt
      have hkl : k < l.length := by omega
      have hkm : k < m.length := by omega
      obtain ⟨x, hx, _⟩ := at_lt hkl
      obtain ⟨y, hy, _⟩ := at_lt hkm
      obtain ⟨ad, hA, _⟩ := hl.2 (by omega)
      obtain ⟨bd, hB, _⟩ := hm.2 (by omega)
      refine draw_rule g p_ostiaryref05_ints_6 (by kernel_rfl) [] [oldF w] Sub.refl ?_
      refine ⟨ad, k, hA, rfl, hkl, .int .i64 (x : Int), fun β w' hs => Rd.cell1 (by have h := Rd.old hl (hs.get 0 rfl); rw [hA] at h; exact h) (ints_at hx), ?_⟩
      refine ⟨bd, k, hB, rfl, hkm, .int .i64 (y : Int), fun β w' hs => Rd.cell1 (by have h := Rd.old hm (hs.get 0 rfl); rw [hB] at h; exact h) (ints_at hy), ?_⟩
      have hsn : ∀ (l : List Nat) (x : Nat), l[k]? = some x → l.take (k + 1) = l.take k ++ [x] := fun l x h => by rw [List.take_add_one, h]; rfl
      refine BIf.not (BIf.dec (fun he => ?_) (fun he => ?_))
      · have he0 : x = y := by have : (x : Int) = (y : Int) := he; omega
        refine ⟨((k + 1 : Nat) : Int), by rw [wrap_i64 (by omega) (by omega)]; rfl, ?_⟩
        refine ⟨k + 1, ⟨hkl, by rw [hsn l x hx, hsn m y hy, htk, he0]⟩, by omega, Ent.same ⟨rfl, rfl, rfl, rfl, trivial⟩ rfl⟩
      · have he0 : ¬ x = y := fun q => he (by rw [q])
        intro β w' hs
        refine hs.fin [] ⟨?_, rfl⟩
        show Value.bool false = _
        congr 1
        refine (decide_eq_false fun q => he0 ?_).symm
        rw [q, hy] at hx
        exact (Option.some.inj hx).symm
    · have hge0 : ¬ (k : Int) < l.length := hge
      obtain rfl : k = l.length := by omega
      rw [List.take_length, List.take_of_length_le (by omega)] at htk
      intro β w' hs
      refine hs.fin [] ⟨?_, rfl⟩
      show Value.bool true = _
      congr 1
      exact (decide_eq_true htk).symm
  · intro β w' hs
    refine hs.fin [] ⟨?_, rfl⟩
    show Value.bool false = _
    congr 1
    exact (decide_eq_false (fun h => h0 (by rw [h]))).symm
open Classical in
theorem rterm_c (w : World) (s t : Bx.Term) (a b : TA) (hs : TRd s a w) (ht : TRd t b w) (hz : TSz s) :
    Pu Tryz.prog n_ostiaryref05_Same #[.agg (termV s a).toArray, .agg (termV t b).toArray] w (.bool (decide (s = t))) := by
  have g := good_ostiaryref05_Same w (Un [])
  have hlist := hz.list
  refine con_of_sx (cx := cx_ostiaryref05_Same w (Un [])) g b_ostiaryref05_Same rfl rfl (β := Va.z) [.agg (termS s a), .agg (termS t b)] 0 [] [oldF w] rfl rfl (old_sat rfl) ?_
  have no : ∀ {n : Nat} {H : List Bk}, ¬ s = t → ∀ β w', Sat (cx_ostiaryref05_Same w (Un [])) β n H [oldF w] w' → Fin w [] (fun u Fs => u = .bool (decide (s = t)) ∧ Fs = []) (.bool false) w' := fun h β w' hs => by
    refine (hs.keepB (List.nil_sublist _)).fin [] ⟨?_, rfl⟩
    show Value.bool false = _
    congr 1
    exact (decide_eq_false h).symm
  obtain ⟨k1, hk1⟩ : ∃ k1 : Int, (s.kind : Int) = k1 := ⟨_, rfl⟩
  obtain ⟨k2, hk2⟩ : ∃ k2 : Int, (t.kind : Int) = k2 := ⟨_, rfl⟩
  obtain ⟨r1, hr1⟩ : ∃ r1 : Int, (s.rounds : Int) = r1 := ⟨_, rfl⟩
  obtain ⟨r2, hr2⟩ : ∃ r2 : Int, (t.rounds : Int) = r2 := ⟨_, rfl⟩
  rw [show termS s a = [.v (.int .i64 k1), .v (.slice a.k s.key.length a.kc), .v (.slice a.t s.text.length a.tc), .v (.int .i64 r1), .v (.slice a.l s.list.length a.lc), .v (.slice a.m s.mask.length a.mc)] by rw [← hk1, ← hr1]; rfl, show termS t b = [.v (.int .i64 k2), .v (.slice b.k t.key.length b.kc), .v (.slice b.t t.text.length b.tc), .v (.int .i64 r2), .v (.slice b.l t.list.length b.lc), .v (.slice b.m t.mask.length b.mc)] by rw [← hk2, ← hr2]; rfl]
  conv => whnf
  generalize h1 : decide (k1 = k2) = b1
  cases b1 with
  | false => exact no (fun q => of_decide_eq_false h1 (by rw [← hk1, ← hk2, q]))
  | true =>
  obtain ⟨b2, h2⟩ : ∃ x, decide (s.key = t.key) = x := ⟨_, rfl⟩
  refine call_pu (v := .bool b2) (fun β w' hs' => by
    have h := pu_of (same_c w' a.k b.k s.key t.key a.kc b.kc (Rd.old hs.hk (hs'.get 0 rfl)) (Rd.old ht.hk (hs'.get 0 rfl)))
    rw [h2] at h
    exact h) ?_
  cases b2 with
  | false => exact no (fun q => of_decide_eq_false h2 (by rw [q]))
  | true =>
  obtain ⟨b3, h3⟩ : ∃ x, decide (s.text = t.text) = x := ⟨_, rfl⟩
  refine call_pu (v := .bool b3) (fun β w' hs' => by
    have h := pu_of (same_c w' a.t b.t s.text t.text a.tc b.tc (Rd.old hs.ht (hs'.get 0 rfl)) (Rd.old ht.ht (hs'.get 0 rfl)))
    rw [h3] at h
    exact h) ?_
  cases b3 with
  | false => exact no (fun q => of_decide_eq_false h3 (by rw [q]))
  | true =>
  conv => whnf
  generalize h4 : decide (r1 = r2) = b4
  cases b4 with
  | false => exact no (fun q => of_decide_eq_false h4 (by rw [← hr1, ← hr2, q]))
  | true =>
  obtain ⟨b5, h5⟩ : ∃ x, decide (s.list = t.list) = x := ⟨_, rfl⟩
  refine call_pu (v := .bool b5) (fun β w' hs' => by
    have h := rints_c w' a.l b.l s.list t.list a.lc b.lc (Rd.old hs.hl (hs'.get 0 rfl)) (Rd.old ht.hl (hs'.get 0 rfl)) (by omega)
    rw [h5] at h
    exact h) ?_
  cases b5 with
  | false => exact no (fun q => of_decide_eq_false h5 (by rw [q]))
  | true =>
  obtain ⟨b6, h6⟩ : ∃ x, decide (s.mask = t.mask) = x := ⟨_, rfl⟩
  refine call_pu (v := .bool b6) (fun β w' hs' => by
    have h := pu_of (same_c w' a.m b.m s.mask t.mask a.mc b.mc (Rd.old hs.hm (hs'.get 0 rfl)) (Rd.old ht.hm (hs'.get 0 rfl)))
    rw [h6] at h
    exact h) ?_
  cases b6 with
  | false => exact no (fun q => of_decide_eq_false h6 (by rw [q]))
  | true =>
  intro β w' hs'
  refine (hs'.keepB (List.nil_sublist _)).fin [] ⟨?_, rfl⟩
  show Value.bool true = _
  congr 1
  refine (decide_eq_true ?_).symm
  have e1 : s.kind = t.kind := by have := of_decide_eq_true h1; omega
  have e4 : s.rounds = t.rounds := by have := of_decide_eq_true h4; omega
  have e2 := of_decide_eq_true h2
  have e3 := of_decide_eq_true h3
  have e5 := of_decide_eq_true h5
  have e6 := of_decide_eq_true h6
  obtain ⟨sk, skk, st, sr, sl, sm⟩ := s
  obtain ⟨tk, tkk, tt, tr, tl, tm⟩ := t
  simp only at e1 e2 e3 e4 e5 e6
  subst e1 e2 e3 e4 e5 e6
  rfl
def rCells (B : Bx.Box) (y : Lay) : List Value := [.bool B.sym, .slice y.A B.L.length y.c, .bool B.full]
def rbxFs (b : Nat) (B : Bx.Box) (y : Lay) : List Fact := [bkF b ty_ostiaryref05_Box (rCells B y), rowF ty_ostiaryref05_Term 6 (.slice y.A B.L.length y.c) B.L.length (termsV y.ts), partsF y.ts]
def rbxF (b : Nat) (B : Bx.Box) (y : Lay) : Fact := sepF (rbxFs b B y)
def rtagOut (b : Nat) (r : List UInt8 × Bx.Box) (v : Value) (Fs : List Fact) : Prop :=
  ∃ A c y', v = .slice A 32 c ∧ 32 ≤ c ∧ c ≤ maxLen ∧ y'.ts.map (·.1) = r.2.L ∧ Fs = [browF ty_uint8 A r.1 c, rbxF b r.2 y']
theorem place_at {t : Bx.Term} : ∀ {L : List Bx.Term} {k : Nat}, L[k]? = some t → t ∉ L.take k → Bx.place t L = some k
  | x :: r, 0, h, _ => by
    obtain rfl : x = t := by simpa using h
    simp [Bx.place]
  | x :: r, k + 1, h, hn => by
    have hx : ¬ x = t := fun q => hn (by simp [q])
    have h2 := place_at (L := r) (k := k) (by simpa using h) (fun q => hn (by simp [q]))
    simp only [Bx.place, if_neg hx, h2]
    rfl
open Classical in
theorem rtag_c (w : World) (b : Nat) (B : Bx.Box) (y : Lay) (t : Bx.Term) (a : TA) (hts : y.ts.map (·.1) = B.L) (hL : B.L.length ≤ 4096) (hsz : ∀ t ∈ B.L, TSz t) (hs : TSz t) (hm : Mem w [rbxF b B y, partsF [(t, a)]]) :
    Con Tryz.prog n_ostiaryref05_Tag #[ptrB b, .agg (termV t a).toArray] w [rbxF b B y, partsF [(t, a)]] (rtagOut b (B.tag t)) := by
  have g := good_ostiaryref05_Tag w (Un [rbxF b B y, partsF [(t, a)]])
  have hs0 : Sat (cx_ostiaryref05_Tag w (Un [rbxF b B y, partsF [(t, a)]])) Va.z 0 [] [rbxF b B y, partsF [(t, a)]] w := hm.sat0 rfl (fun f hf _ k hk => ⟨f, hf, hk⟩)
  have hs1 := hs0.unsep 0 rfl
  have hlen : y.ts.length = B.L.length := by rw [← hts, List.length_map]
  refine con_of_sx (cx := cx_ostiaryref05_Tag w (Un [rbxF b B y, partsF [(t, a)]])) g b_ostiaryref05_Tag rfl rfl (β := Va.z) [.c (.v (ptrB b)), .agg (termS t a)] 0 [] (rbxFs b B y ++ [partsF [(t, a)]]) rfl rfl hs1 ?_
  refine ⟨.slice y.A B.L.length y.c, fun β w' hs' => bk_cell (hs'.get 0 rfl) (o := 1) rfl, ?_⟩
  refine loop_rule 1 (fun k : Nat => [(0, .c (.v (ptrB b))), (3, .c (.p 0 0)), (10, .c (.v (.slice y.A B.L.length y.c))), (11, .c (.v (.int .i64 B.L.length))), (12, .c (.v (.int .i64 k)))]) (fun _ => [⟨0, ty_ostiaryref05_Term, termS t a⟩]) (fun _ => rbxFs b B y ++ [partsF [(t, a)]])
    (fun k => k ≤ B.L.length ∧ t ∉ B.L.take k) (fun k => B.L.length - k) 0 ⟨Nat.zero_le _, by simp⟩ (Ent.same ⟨rfl, rfl, rfl, rfl, rfl, trivial⟩ rfl) g ?_
  rintro k ⟨hk, hno⟩
  refine BIf.dec (fun hlt => ?_) (fun hge => ?_)
  · have hlt0 : (k : Int) < B.L.length := hlt
    have hkl : k < B.L.length := by omega
    obtain ⟨q, hq, hqm⟩ := at_lt (l := y.ts) (k := k) (by omega)
    have hqL : B.L[k]? = some q.1 := by rw [← hts, List.getElem?_map, hq]; rfl
    have hqB : q.1 ∈ B.L := List.mem_of_getElem? hqL
    have hrd : ∀ w', (rowF ty_ostiaryref05_Term 6 (.slice y.A B.L.length y.c) B.L.length (termsV y.ts)).p w' → Rd 6 y.A B.L.length (termsV y.ts) w' := fun w' h => row_rd h
    obtain ⟨ad, hA, _⟩ := (hrd w (hs1.get 1 rfl)).2 (by omega)
    refine ⟨ad, k, hA, rfl, hkl, ?_⟩
    refine ⟨termV q.1 q.2, rfl, fun β w' hs' => ?_, ?_⟩
    · have h := hrd w' (hs'.get 1 rfl)
      rw [← hlen] at h
      obtain ⟨hil, hie⟩ := List.getElem?_eq_some_iff.1 hq
      have h2 := Rd.elem (f := fun p : Bx.Term × TA => termV p.1 p.2) (fun _ => rfl) h hA hil
      rw [hie] at h2
      exact h2
    refine call_pu (fun β w' hs' => rterm_c w' q.1 t q.2 a ((show (partsF y.ts).p w' from hs'.get 2 rfl) q hqm) ((show (partsF [(t, a)]).p w' from hs'.get 3 rfl) (t, a) (List.mem_singleton.2 rfl)) (hsz _ hqB)) ?_
    refine BIf.dec (fun he => ?_) (fun he => ?_)
    · have he0 : q.1 = t := he
      refine ⟨((k + 1 : Nat) : Int), by rw [wrap_i64 (by omega) (by omega)]; rfl, ?_⟩
      refine call_con [] (fun β w' hs' => rhandle_c w' (k + 1) (by omega)) ?_
      rintro v Fs ⟨A1, c1, rfl, q1, q2, rfl⟩
      have htag : B.tag t = (Bx.handle (k + 1), B) := by unfold Bx.Box.tag; rw [place_at (by rw [hqL, he0]) hno]
      intro β w' hs'
      have hs2 := (hs'.keepB (List.nil_sublist _)).sep [1, 2, 3] rfl ⟨rfl, rfl, rfl, trivial⟩
      exact hs2.fin [1, 0] ⟨A1, c1, y, rfl, q1, q2, by rw [htag]; exact hts, by rw [htag]; rfl⟩
    · have he0 : ¬ q.1 = t := he
      refine ⟨((k + 1 : Nat) : Int), by rw [wrap_i64 (by omega) (by omega)]; rfl, ?_⟩
      refine ⟨k + 1, ⟨hkl, ?_⟩, by omega, ?_⟩
      · rw [List.take_add_one, hqL]
        intro q'
        rcases List.mem_append.1 q' with q' | q'
        · exact hno q'
        · exact he0 (List.mem_singleton.1 q').symm
      · exact Ent.mk' ⟨rfl, rfl, rfl, rfl, rfl, trivial⟩ rfl (fun β w' hs' => (hs'.keepB (List.sublist_cons_self _ _)).lower)
  have hge0 : ¬ (k : Int) < B.L.length := hge
  obtain rfl : k = B.L.length := by omega
  rw [List.take_length] at hno
  have hpl := place_not hno
  refine ⟨.slice y.A B.L.length y.c, fun β w' hs' => bk_cell (hs'.get 0 rfl) (o := 1) rfl, ?_⟩
  refine BIf.dec (fun hge => ?_) (fun hlt => ?_)
  · have hge0 : (4096 : Int) ≤ (B.L.length : Int) := hge
    have hge1 : 4096 ≤ B.L.length := by omega
    refine ⟨_, fun β w' hs' => hs'.bkSet 0 (o := 2) (us := [.bool true]) rfl (by show 3 ≤ 3; decide) (one_mem rfl), ?_⟩
    refine ⟨32, 32, rfl, rfl, Nat.le_refl _, by decide, by decide, ?_⟩
    intro b2
    have htag : B.tag t = (Bx.noughts, { B with full := true }) := by unfold Bx.Box.tag; rw [hpl]; simp only; rw [if_pos hge1]
    intro β w' hs'
    have hs2 := (hs'.keepB (List.nil_sublist _)).sep [1, 2, 3] rfl ⟨rfl, rfl, rfl, trivial⟩
    exact hs2.fin [1, 0] ⟨some ⟨b2, 0, none⟩, 32, y, rfl, Nat.le_refl _, by decide, by rw [htag]; exact hts, by rw [htag]; rfl⟩
  have hlt0 : ¬ (4096 : Int) ≤ (B.L.length : Int) := hlt
  have hlt1 : ¬ 4096 ≤ B.L.length := by omega
  have htag : B.tag t = (Bx.handle (B.L.length + 1), { B with L := B.L ++ [t] }) := by unfold Bx.Box.tag; rw [hpl]; simp only; rw [if_neg hlt1]
  have hone : ∀ u ∈ termsV y.ts, u.oneCell' = true := by
    intro u hu
    obtain ⟨p, _, hp⟩ := List.mem_flatMap.1 hu
    exact termV_one _ _ u hp
  -- behind the store
  have fin_ : ∀ {A' : Option Addr} {c' : Nat} {β : Va} {w' : World} {n : Nat} {H : List Bk} {F : List Fact} {A9 : Option Addr} {c9 : Nat} (_ : 32 ≤ c9) (_ : c9 ≤ maxLen) (js : List Nat), nodupB js = true → takeIx F js = [browF ty_uint8 A9 (Bx.handle (B.L.length + 1)) c9, bkF b ty_ostiaryref05_Box [.bool B.sym, .slice A' (B.L.length + 1) c', .bool B.full], rowF ty_ostiaryref05_Term 6 (.slice A' (B.L.length + 1) c') (B.L.length + 1) (termsV (y.ts ++ [(t, a)])), partsF y.ts, partsF [(t, a)]] →
      Sat (cx_ostiaryref05_Tag w (Un [rbxF b B y, partsF [(t, a)]])) β n H F w' → Fin w [rbxF b B y, partsF [(t, a)]] (rtagOut b (B.tag t)) (.slice A9 32 c9) w' := by
    intro A' c' β w' n H F A9 c9 q1 q2 js hnd hjs hs'
    have hs2 := (hs'.keepB (List.nil_sublist _)).perm js hnd
    rw [hjs] at hs2
    have hs3 := hs2.fuse [3, 4] (partsF (y.ts ++ [(t, a)])) (fun w hm => ?_) (fun k hk => ?_) rfl ⟨rfl, rfl, trivial⟩
    · have hs4 := hs3.sep [2, 3, 0] rfl ⟨rfl, rfl, rfl, trivial⟩
      refine hs4.fin [1, 0] ⟨A9, c9, ⟨A', c', 0, y.ts ++ [(t, a)]⟩, rfl, q1, q2, ?_, ?_⟩
      · rw [htag]
        show (y.ts ++ [(t, a)]).map (·.1) = B.L ++ [t]
        rw [List.map_append, hts]
        rfl
      · rw [htag]
        have e : rbxF b { B with L := B.L ++ [t] } ⟨A', c', 0, y.ts ++ [(t, a)]⟩ = sepF [bkF b ty_ostiaryref05_Box [.bool B.sym, .slice A' (B.L.length + 1) c', .bool B.full], rowF ty_ostiaryref05_Term 6 (.slice A' (B.L.length + 1) c') (B.L.length + 1) (termsV (y.ts ++ [(t, a)])), partsF (y.ts ++ [(t, a)])] := by
          simp [rbxF, rbxFs, rCells]
        show _ = [browF ty_uint8 A9 (Bx.handle (B.L.length + 1)) c9, rbxF b { B with L := B.L ++ [t] } ⟨A', c', 0, y.ts ++ [(t, a)]⟩]
        rw [e]
        rfl
    · have hm' : Mem w [partsF y.ts, partsF [(t, a)]] := hm
      intro p hp
      rcases List.mem_append.1 hp with hp | hp
      · exact hm'.fact (partsF y.ts) (by simp) p hp
      · exact hm'.fact (partsF [(t, a)]) (by simp) p hp
    · show Un [partsF y.ts, partsF [(t, a)]] k
      obtain ⟨p, hp, hk⟩ := hk
      rcases List.mem_append.1 hp with hp | hp
      · exact ⟨partsF y.ts, by simp, p, hp, hk⟩
      · exact ⟨partsF [(t, a)], by simp, p, hp, hk⟩
  refine draw_rule g p_ostiaryref05_Tag_10 (by kernel_rfl) [⟨0, ty_ostiaryref05_Term, termS t a⟩] [bkF b ty_ostiaryref05_Box (rCells B y)] (subPerm [0]) ?_
  refine ⟨.slice y.A B.L.length y.c, fun β w' hs' => bk_cell (hs'.get 0 rfl) (o := 1) rfl, ?_⟩
  have hcap : B.L.length + 1 ≤ maxLen := by rw [maxLen_eq]; omega
  have hbx : ∀ (A' : Option Addr) (c' : Nat), putAll (rCells B y) 1 [.slice A' (B.L.length + 1) c'] = [.bool B.sym, .slice A' (B.L.length + 1) c', .bool B.full] := fun _ _ => rfl
  -- the last steps: the row is stored, the handle told
  refine ⟨?_, ?_⟩
  · intro b1
    refine ⟨subPerm [1], ?_⟩
    refine ⟨?_, ?_⟩
    · refine ⟨0, 0, B.L.length, [], termsV y.ts, termsV y.ts, rfl, fun β w' hs' => row_rd (hs'.get 2 rfl), hone, Nat.zero_add _, rfl, by omega, by show B.L.length * 112 ≤ _; omega, ?_⟩
      intro A1 c1 q1 q2 q3
      refine ⟨subPerm [1], ?_⟩
      intro b7
      refine ⟨subPerm [2], ?_⟩
      refine ⟨1, B.L.length, B.L.length + 1, termsV y.ts, termV t a, termsV (y.ts ++ [(t, a)]), rfl, fun β w' hs' => row_rd (hs'.get 0 rfl), termV_one t a, rfl, by simp [termsV], hcap, by show (B.L.length + 1) * 112 ≤ _; omega, ?_⟩
      intro A' c' q4 q5 q6
      refine ⟨subPerm [2], ?_⟩
      refine ⟨subPerm [2], ?_⟩
      refine ⟨_, fun β w' hs' => hs'.bkSet 2 (o := 1) (us := [.slice A' (B.L.length + 1) c']) rfl (by show 2 ≤ 3; decide) (one_mem rfl), ?_⟩
      rw [hbx]
      refine ⟨.slice A' (B.L.length + 1) c', fun β w' hs' => bk_cell (hs'.get 2 rfl) (o := 1) rfl, ?_⟩
      refine call_con [] (fun β w' hs' => rhandle_c w' (B.L.length + 1) (by omega)) ?_
      rintro v Fs ⟨A9, c9, rfl, r1, r2, rfl⟩
      intro β w' hs'
      exact fin_ r1 r2 [0, 3, 2, 5, 6] rfl rfl hs'
    · intro b7
      refine ⟨subPerm [2], ?_⟩
      refine ⟨1, 0, B.L.length, [], termsV y.ts, termsV y.ts, rfl, fun β w' hs' => row_rd (hs'.get 3 rfl), hone, Nat.zero_add _, rfl, by omega, by show B.L.length * 112 ≤ _; omega, ?_⟩
      intro A1 c1 q1 q2 q3
      refine ⟨subPerm [2], ?_⟩
      refine ⟨1, B.L.length, B.L.length + 1, termsV y.ts, termV t a, termsV (y.ts ++ [(t, a)]), rfl, fun β w' hs' => row_rd (hs'.get 0 rfl), termV_one t a, rfl, by simp [termsV], hcap, by show (B.L.length + 1) * 112 ≤ _; omega, ?_⟩
      intro A' c' q4 q5 q6
      refine ⟨subPerm [2], ?_⟩
      refine ⟨subPerm [2], ?_⟩
      refine ⟨_, fun β w' hs' => hs'.bkSet 2 (o := 1) (us := [.slice A' (B.L.length + 1) c']) rfl (by show 2 ≤ 3; decide) (one_mem rfl), ?_⟩
      rw [hbx]
      refine ⟨.slice A' (B.L.length + 1) c', fun β w' hs' => bk_cell (hs'.get 2 rfl) (o := 1) rfl, ?_⟩
      refine call_con [] (fun β w' hs' => rhandle_c w' (B.L.length + 1) (by omega)) ?_
      rintro v Fs ⟨A9, c9, rfl, r1, r2, rfl⟩
      intro β w' hs'
      exact fin_ r1 r2 [0, 3, 2, 5, 6] rfl rfl hs'
  · intro b7
    refine ⟨subPerm [1], ?_⟩
    intro b1
    refine ⟨subPerm [2], ?_⟩
    refine ⟨0, 0, B.L.length, [], termsV y.ts, termsV y.ts, rfl, fun β w' hs' => row_rd (hs'.get 3 rfl), hone, Nat.zero_add _, rfl, by omega, by show B.L.length * 112 ≤ _; omega, ?_⟩
    intro A1 c1 q1 q2 q3
    refine ⟨subPerm [2], ?_⟩
    refine ⟨0, B.L.length, B.L.length + 1, termsV y.ts, termV t a, termsV (y.ts ++ [(t, a)]), rfl, fun β w' hs' => row_rd (hs'.get 1 rfl), termV_one t a, rfl, by simp [termsV], hcap, by show (B.L.length + 1) * 112 ≤ _; omega, ?_⟩
    intro A' c' q4 q5 q6
    refine ⟨subPerm [2], ?_⟩
    refine ⟨subPerm [2], ?_⟩
    refine ⟨_, fun β w' hs' => hs'.bkSet 2 (o := 1) (us := [.slice A' (B.L.length + 1) c']) rfl (by show 2 ≤ 3; decide) (one_mem rfl), ?_⟩
    rw [hbx]
    refine ⟨.slice A' (B.L.length + 1) c', fun β w' hs' => bk_cell (hs'.get 2 rfl) (o := 1) rfl, ?_⟩
    refine call_con [] (fun β w' hs' => rhandle_c w' (B.L.length + 1) (by omega)) ?_
    rintro v Fs ⟨A9, c9, rfl, r1, r2, rfl⟩
    intro β w' hs'
    exact fin_ r1 r2 [0, 3, 1, 5, 6] rfl rfl hs'
theorem row_D {size e n c k : Nat} {A : Option Addr} {xs : List Value} (h : (rdF size A n xs).D k) : (rowF e size (.slice A n c) n xs).D k := by
  obtain ⟨_, ad, rfl, rfl⟩ := h
  rfl
theorem Sat.part2o {cx : Cx} {β : Va} {n : Nat} {H : List Bk} {F : List Fact} {w : World} (h : Sat cx β n H F w) (js : List Nat) (t : Bx.Term) (a : TA) (hl : t.list = []) (hm : t.mask = []) (hj : takeIx F js = [browF ty_uint8 a.k t.key a.kc, browF ty_uint8 a.t t.text a.tc]) (hn : nodupB js = true := by rfl) : Sat cx β n H (partsF [(t, a)] :: dropIx js 0 F) w :=
  h.fuse js (partsF [(t, a)]) (fun w hw p hp => by
    rw [hj] at hw
    obtain rfl := List.mem_singleton.1 hp
    exact ⟨row_rd (hw.fact (browF ty_uint8 a.k t.key a.kc) (by simp)), row_rd (hw.fact (browF ty_uint8 a.t t.text a.tc) (by simp)), by rw [hl]; exact rd_nil w a.l, by rw [hm]; exact Bs.nil w a.m⟩) (fun k hk => by
    rw [hj]
    obtain ⟨p, hp, hk⟩ := hk
    obtain rfl := List.mem_singleton.1 hp
    rcases hk with hk | hk | hk | hk
    · exact ⟨_, List.mem_cons_self, row_D hk⟩
    · exact ⟨browF ty_uint8 a.t t.text a.tc, by simp, row_D hk⟩
    · rw [hl] at hk
      exact absurd hk.1 (by simp)
    · rw [hm] at hk
      exact absurd hk.1 (by simp)) hn (by rw [hj]; exact ⟨rfl, rfl, trivial⟩)
theorem Sat.part2l {cx : Cx} {β : Va} {n : Nat} {H : List Bk} {F : List Fact} {w : World} (h : Sat cx β n H F w) (js : List Nat) (t : Bx.Term) (a : TA) (hl : t.key = []) (hm : t.text = []) (hj : takeIx F js = [irowF a.l t.list a.lc, browF ty_uint8 a.m t.mask a.mc]) (hn : nodupB js = true := by rfl) : Sat cx β n H (partsF [(t, a)] :: dropIx js 0 F) w :=
  h.fuse js (partsF [(t, a)]) (fun w hw p hp => by
    rw [hj] at hw
    obtain rfl := List.mem_singleton.1 hp
    exact ⟨by rw [hl]; exact Bs.nil w a.k, by rw [hm]; exact Bs.nil w a.t, row_rd (hw.fact (irowF a.l t.list a.lc) (by simp)), row_rd (hw.fact (browF ty_uint8 a.m t.mask a.mc) (by simp))⟩) (fun k hk => by
    rw [hj]
    obtain ⟨p, hp, hk⟩ := hk
    obtain rfl := List.mem_singleton.1 hp
    rcases hk with hk | hk | hk | hk
    · rw [hl] at hk
      exact absurd hk.1 (by simp)
    · rw [hm] at hk
      exact absurd hk.1 (by simp)
    · exact ⟨_, List.mem_cons_self, row_D hk⟩
    · exact ⟨browF ty_uint8 a.m t.mask a.mc, by simp, row_D hk⟩) hn (by rw [hj]; exact ⟨rfl, rfl, trivial⟩)
theorem rbx_bk {b : Nat} {B : Bx.Box} {y : Lay} {w : World} (h : (rbxF b B y).p w) : (bkF b ty_ostiaryref05_Box (rCells B y)).p w := h.1 _ (by simp [rbxFs])
theorem rbx_rd {b : Nat} {B : Bx.Box} {y : Lay} {w : World} (h : (rbxF b B y).p w) : Rd 6 y.A B.L.length (termsV y.ts) w := row_rd (h.1 (rowF ty_ostiaryref05_Term 6 (.slice y.A B.L.length y.c) B.L.length (termsV y.ts)) (by simp [rbxFs]))
theorem rbx_parts {b : Nat} {B : Bx.Box} {y : Lay} {w : World} (h : (rbxF b B y).p w) : (partsF y.ts).p w := h.1 (partsF y.ts) (by simp [rbxFs])
theorem rhash_c (w : World) (b : Nat) (B : Bx.Box) (y : Lay) (P : Option Addr) (text : List UInt8) (cP : Nat) (hts : y.ts.map (·.1) = B.L) (hL : B.L.length ≤ 4096) (hsz : ∀ t ∈ B.L, TSz t) (hn : text.length ≤ 1000000) (hm : Mem w [rbxF b B y, bsF P text, oddF 3]) :
    Con Tryz.prog n_ostiaryref05_Hash #[ptrB b, .slice P text.length cP] w [rbxF b B y] (rtagOut b (hashB B text)) := by
  have g := good_ostiaryref05_Hash w (Un [rbxF b B y])
  have hs0 : Sat (cx_ostiaryref05_Hash w (Un [rbxF b B y])) Va.z 0 [] [rbxF b B y, bsF P text, oddF 3] w := hm.sat0 rfl (ownIn (Gs := [rbxF b B y]) (fun f hf => by
    simp only [List.mem_cons, List.not_mem_nil, or_false] at hf
    rcases hf with rfl | rfl | rfl <;> rfl))
  refine con_of_sx (cx := cx_ostiaryref05_Hash w (Un [rbxF b B y])) g b_ostiaryref05_Hash rfl rfl (β := Va.z) [.c (.v (ptrB b)), .c (.v (.slice P text.length cP))] 0 [] _ rfl rfl hs0 ?_
  cases hsym : B.sym with
  | true =>
    have e : hashB B text = B.tag (hashT text) := by unfold hashB; rw [hsym]; rfl
    rw [e]
    refine ⟨.bool true, fun β w' hs => bk_cell (rbx_bk (hs.get 0 rfl)) (o := 0) (by simp [rCells, hsym]), ?_⟩
    refine call_conS [] (fun β w' hs => copyC w' P text cP (hs.get 1 rfl) (by rw [lim_eq]; omega)) ?_
    rintro v Fs ⟨A1, c1, rfl, q1, q2, rfl⟩
    refine ⟨_, _, fun β w' hs => (hs.nilRow ty_uint8 1).part2o [0, 1] (hashT text) ⟨none, A1, none, none, 0, c1, 0, 0⟩ rfl rfl rfl, ?_⟩
    refine call_con [1, 0] (R := rtagOut b (B.tag (hashT text))) (fun β w' hs => rtag_c w' b B y (hashT text) ⟨none, A1, none, none, 0, c1, 0, 0⟩ hts hL hsz (hashT_sz hn) (hs.mem.take (js := [1, 0]) rfl)) ?_
    rintro v Fs ⟨A2, c2, y2, rfl, r1, r2, r3, rfl⟩
    intro β w' hs
    exact hs.fin [0, 1] ⟨A2, c2, y2, rfl, r1, r2, r3, rfl⟩
  | false =>
    have e : hashB B text = (Sha.sum text, B) := by unfold hashB; rw [hsym]; rfl
    rw [e]
    refine ⟨.bool false, fun β w' hs => bk_cell (rbx_bk (hs.get 0 rfl)) (o := 0) (by simp [rCells, hsym]), ?_⟩
    refine call_con [] (fun β w' hs => rsum_c w' P text cP (hs.get 1 rfl) (hs.get 2 rfl) (by omega)) ?_
    rintro v Fs ⟨A2, c2, rfl, r1, r2, rfl⟩
    intro β w' hs
    exact hs.fin [0, 1] ⟨A2, c2, y, rfl, r1, r2, hts, rfl⟩
theorem rmac_c (w : World) (b : Nat) (B : Bx.Box) (y : Lay) (K P : Option Addr) (key text : List UInt8) (cK cP : Nat) (hts : y.ts.map (·.1) = B.L) (hL : B.L.length ≤ 4096) (hsz : ∀ t ∈ B.L, TSz t) (hk : key.length ≤ 1000000) (hn : text.length ≤ 1000000) (hm : Mem w [rbxF b B y, bsF K key, bsF P text, oddF 3]) :
    Con Tryz.prog n_ostiaryref05_Mac #[ptrB b, .slice K key.length cK, .slice P text.length cP] w [rbxF b B y] (rtagOut b (macB B key text)) := by
  have g := good_ostiaryref05_Mac w (Un [rbxF b B y])
  have hs0 : Sat (cx_ostiaryref05_Mac w (Un [rbxF b B y])) Va.z 0 [] [rbxF b B y, bsF K key, bsF P text, oddF 3] w := hm.sat0 rfl (ownIn (Gs := [rbxF b B y]) (fun f hf => by
    simp only [List.mem_cons, List.not_mem_nil, or_false] at hf
    rcases hf with rfl | rfl | rfl | rfl <;> rfl))
  refine con_of_sx (cx := cx_ostiaryref05_Mac w (Un [rbxF b B y])) g b_ostiaryref05_Mac rfl rfl (β := Va.z) [.c (.v (ptrB b)), .c (.v (.slice K key.length cK)), .c (.v (.slice P text.length cP))] 0 [] _ rfl rfl hs0 ?_
  cases hsym : B.sym with
  | true =>
    have e : macB B key text = B.tag (macT key text) := by unfold macB; rw [hsym]; rfl
    rw [e]
    refine ⟨.bool true, fun β w' hs => bk_cell (rbx_bk (hs.get 0 rfl)) (o := 0) (by simp [rCells, hsym]), ?_⟩
    refine call_con [] (fun β w' hs => copyC w' K key cK (hs.get 1 rfl) (by rw [lim_eq]; omega)) ?_
    rintro v Fs ⟨A1, c1, rfl, q1, q2, rfl⟩
    refine call_conS [] (fun β w' hs => copyC w' P text cP (hs.get 3 rfl) (by rw [lim_eq]; omega)) ?_
    rintro v Fs ⟨A2, c2, rfl, q3, q4, rfl⟩
    refine ⟨_, _, fun β w' hs => hs.part2o [1, 0] (macT key text) ⟨A1, A2, none, none, c1, c2, 0, 0⟩ rfl rfl rfl, ?_⟩
    refine call_con [1, 0] (R := rtagOut b (B.tag (macT key text))) (fun β w' hs => rtag_c w' b B y (macT key text) ⟨A1, A2, none, none, c1, c2, 0, 0⟩ hts hL hsz (macT_sz hk hn) (hs.mem.take (js := [1, 0]) rfl)) ?_
    rintro v Fs ⟨A3, c3, y2, rfl, r1, r2, r3, rfl⟩
    intro β w' hs
    exact hs.fin [0, 1] ⟨A3, c3, y2, rfl, r1, r2, r3, rfl⟩
  | false =>
    have e : macB B key text = (hmL key text, B) := by unfold macB; rw [hsym]; rfl
    rw [e]
    refine ⟨.bool false, fun β w' hs => bk_cell (rbx_bk (hs.get 0 rfl)) (o := 0) (by simp [rCells, hsym]), ?_⟩
    refine call_con [] (fun β w' hs => rhsum_c w' K P key text cK cP (hs.get 1 rfl) (hs.get 2 rfl) hk hn (hs.get 3 rfl)) ?_
    rintro v Fs ⟨A2, c2, rfl, r1, r2, rfl⟩
    intro β w' hs
    exact hs.fin [0, 1] ⟨A2, c2, y, rfl, r1, r2, hts, rfl⟩
def rstrOut (b : Nat) (B : Bx.Box) (y : Lay) (p s : List UInt8) (r : Int) (v : Value) (Fs : List Fact) : Prop :=
  if 1 ≤ r ∧ r ≤ 64 then rtagOut b (strB B p s r.toNat) v Fs
  else v = .slice none 0 0 ∧ Fs = [rbxF b B y]
theorem rstr_c (w : World) (b : Nat) (B : Bx.Box) (y : Lay) (K P : Option Addr) (key text : List UInt8) (cK cP : Nat) (r : Int) (hts : y.ts.map (·.1) = B.L) (hL : B.L.length ≤ 4096) (hsz : ∀ t ∈ B.L, TSz t) (hk : key.length ≤ 1000000) (hn : text.length ≤ 100000) (hm : Mem w [rbxF b B y, bsF K key, bsF P text, oddF 3]) :
    Con Tryz.prog n_ostiaryref05_Stretch #[ptrB b, .slice K key.length cK, .slice P text.length cP, .int .i64 r] w [rbxF b B y] (rstrOut b B y key text r) := by
  have g := good_ostiaryref05_Stretch w (Un [rbxF b B y])
  have hs0 : Sat (cx_ostiaryref05_Stretch w (Un [rbxF b B y])) Va.z 0 [] [rbxF b B y, bsF K key, bsF P text, oddF 3] w := hm.sat0 rfl (ownIn (Gs := [rbxF b B y]) (fun f hf => by
    simp only [List.mem_cons, List.not_mem_nil, or_false] at hf
    rcases hf with rfl | rfl | rfl | rfl <;> rfl))
  refine con_of_sx (cx := cx_ostiaryref05_Stretch w (Un [rbxF b B y])) g b_ostiaryref05_Stretch rfl rfl (β := Va.z) [.c (.v (ptrB b)), .c (.v (.slice K key.length cK)), .c (.v (.slice P text.length cP)), .c (.v (.int .i64 r))] 0 [] _ rfl rfl hs0 ?_
  refine BIf.dec (fun q => ?_) (fun q => ?_)
  · have q0 : r < 1 := q
    intro β w' hs
    refine hs.fin [0] ?_
    unfold rstrOut
    rw [if_neg (by omega)]
    exact ⟨rfl, rfl⟩
  have q0 : ¬ r < 1 := q
  refine BIf.dec (fun q2 => ?_) (fun q2 => ?_)
  · have q20 : 64 < r := q2
    intro β w' hs
    refine hs.fin [0] ?_
    unfold rstrOut
    rw [if_neg (by omega)]
    exact ⟨rfl, rfl⟩
  have q20 : ¬ 64 < r := q2
  obtain ⟨m, rfl⟩ : ∃ m : Nat, r = (m : Int) := ⟨r.toNat, by omega⟩
  have hso : rstrOut b B y key text (m : Int) = rtagOut b (strB B key text m) := by
    funext v Fs
    unfold rstrOut
    rw [if_pos (by omega)]
    rfl
  rw [hso]
  cases hsym : B.sym with
  | true =>
    have e : strB B key text m = B.tag (strT key text m) := by unfold strB; rw [hsym]; rfl
    rw [e]
    refine ⟨.bool true, fun β w' hs => bk_cell (rbx_bk (hs.get 0 rfl)) (o := 0) (by simp [rCells, hsym]), ?_⟩
    refine call_con [] (fun β w' hs => copyC w' K key cK (hs.get 1 rfl) (by rw [lim_eq]; omega)) ?_
    rintro v Fs ⟨A1, c1, rfl, q1, q2, rfl⟩
    refine call_conS [] (fun β w' hs => copyC w' P text cP (hs.get 3 rfl) (by rw [lim_eq]; omega)) ?_
    rintro v Fs ⟨A2, c2, rfl, q3, q4, rfl⟩
    refine ⟨_, _, fun β w' hs => hs.part2o [1, 0] (strT key text m) ⟨A1, A2, none, none, c1, c2, 0, 0⟩ rfl rfl rfl, ?_⟩
    refine call_con [1, 0] (R := rtagOut b (B.tag (strT key text m))) (fun β w' hs => rtag_c w' b B y (strT key text m) ⟨A1, A2, none, none, c1, c2, 0, 0⟩ hts hL hsz (strT_sz hk (by omega) (by omega)) (hs.mem.take (js := [1, 0]) rfl)) ?_
    rintro v Fs ⟨A3, c3, y2, rfl, r1, r2, r3, rfl⟩
    intro β w' hs
    exact hs.fin [0, 1] ⟨A3, c3, y2, rfl, r1, r2, r3, rfl⟩
  | false =>
    have e : strB B key text m = (stretchL key text m, B) := by unfold strB; rw [hsym]; rfl
    rw [e]
    have hT : (stretchL key text m).length = 32 := strX_len _ _ _
    refine ⟨.bool false, fun β w' hs => bk_cell (rbx_bk (hs.get 0 rfl)) (o := 0) (by simp [rCells, hsym]), ?_⟩
    refine call_con [] (R := fun v Fs => ∃ A' c', v = .slice A' 32 c' ∧ 32 ≤ c' ∧ c' ≤ maxLen ∧ Fs = [browF ty_uint8 A' (stretchL key text m) c']) (fun β w' hs => (rstretch_c w' K P key text cK cP m (hs.get 1 rfl) (hs.get 2 rfl) hk hn (by omega) (by omega) (hs.get 3 rfl)).mono (fun v Fs h => by
      obtain ⟨A', c', h1, h2, h3, h4⟩ := h
      rw [hT] at h1 h2
      exact ⟨A', c', h1, h2, h3, h4⟩)) ?_
    rintro v Fs ⟨A2, c2, rfl, r1, r2, rfl⟩
    intro β w' hs
    exact hs.fin [0, 1] ⟨A2, c2, y, rfl, r1, r2, hts, rfl⟩
def nilO : Fact where
  own := true
  D := fun _ => False
  p := fun _ => True
  st := fun _ _ _ _ => trivial
theorem looks_v (l : List UInt8) : ∃ (n : Nat) (ok : Bool), looksV l = .tuple #[.int .i64 (n : Int), .bool ok] ∧ ((ok = true ∧ l.take 28 = Bx.front ∧ n = Bx.num (l.drop 28)) ∨ (ok = false ∧ ¬ (l.length = 32 ∧ l.take 28 = Bx.front))) := by
  by_cases h : l.length = 32 ∧ l.take 28 = Bx.front
  · exact ⟨Bx.num (l.drop 28), true, by unfold looksV Bx.looks; rw [if_pos h], .inl ⟨rfl, h.2, rfl⟩⟩
  · exact ⟨0, false, by unfold looksV Bx.looks; rw [if_neg h]; rfl, .inr ⟨rfl, h⟩⟩
def ropenOut (b : Nat) (B : Bx.Box) (y : Lay) (tag : List UInt8) (v : Value) (Fs : List Fact) : Prop := match B.opens tag with
  | none => v = .tuple #[.slice none 0 0, .slice none 0 0, .bool false] ∧ Fs = []
  | some (l, m) => ∃ A1 c1 A2 c2 o, v = .tuple #[.slice A1 l.length c1, .slice A2 m.length c2, .bool true] ∧ o.own = true ∧ (∀ w', (rbxF b B y).p w' → o.p w' → Rd 1 A1 l.length (ints l) w' ∧ Bs w' A2 m) ∧ Fs = [o]
theorem ropenOut_none {b : Nat} {B : Bx.Box} {y : Lay} {tag : List UInt8} (h : B.opens tag = none) : ropenOut b B y tag = fun v Fs => v = .tuple #[.slice none 0 0, .slice none 0 0, .bool false] ∧ Fs = [] := by funext v Fs; unfold ropenOut; rw [h]
theorem ropenOut_some {b : Nat} {B : Bx.Box} {y : Lay} {tag : List UInt8} {l : List Nat} {m : List UInt8} (h : B.opens tag = some (l, m)) : ropenOut b B y tag = fun v Fs => ∃ A1 c1 A2 c2 o, v = .tuple #[.slice A1 l.length c1, .slice A2 m.length c2, .bool true] ∧ o.own = true ∧ (∀ w', (rbxF b B y).p w' → o.p w' → Rd 1 A1 l.length (ints l) w' ∧ Bs w' A2 m) ∧ Fs = [o] := by funext v Fs; unfold ropenOut; rw [h]
theorem ropen_c (w : World) (b : Nat) (B : Bx.Box) (y : Lay) (A : Option Addr) (l : List UInt8) (c : Nat) (hts : y.ts.map (·.1) = B.L) (hL : B.L.length ≤ 4096) (hsz : ∀ t ∈ B.L, TSz t) (hb : (rbxF b B y).p w) (hbD : ∀ k, (rbxF b B y).D k → k < w.heap.size) (hr : Bs w A l) (hc : l.length ≤ c) (hl : l.length ≤ 1000000) :
    Con Tryz.prog n_ostiaryref05_open #[ptrB b, .slice A l.length c] w [] (ropenOut b B y l) := by
  have g := good_ostiaryref05_open w (Un [])
  refine con_of_sx (cx := cx_ostiaryref05_open w (Un [])) g b_ostiaryref05_open rfl rfl (β := Va.z) [.c (.v (ptrB b)), .c (.v (.slice A l.length c))] 0 [] [oldF w] rfl rfl (old_sat rfl) ?_
  obtain ⟨n, ok, hnv, hnn⟩ := looks_v l
  have hbx : ∀ w', (oldF w).p w' → (rbxF b B y).p w' := fun w' ho => fact_old hb hbD ho
  refine BIf.not (BIf.dec (fun h32 => ?_) (fun h32 => ?_))
  · have hl32 : l.length = 32 := by omega
    refine call_pu (v := .tuple #[.int .i64 (n : Int), .bool ok]) (fun β w' hs => by
      have h := looks_c w' A l c (Rd.old hr (hs.get 0 rfl)) hc (by omega)
      rw [hnv] at h
      exact h) ?_
    -- what isn't taken for a handle
    have raw : ¬ (B.sym = true ∧ l.take 28 = Bx.front) → ∀ {A2 : Option Addr} {c2 : Nat} {n : Nat} {H : List Bk} {F : List Fact} (j : Nat) (_ : nth F j = some (browF ty_uint8 A2 l c2)) (β : Va) (w' : World), Sat (cx_ostiaryref05_open w (Un [])) β n H F w' → Fin w [] (ropenOut b B y l) (.tuple #[.slice none 0 0, .slice A2 l.length c2, .bool true]) w' := by
      intro hno A2 c2 n H F j hj β w' hs
      rw [ropenOut_some (Bx.opens_raw hl32 hno)]
      have hs2 := (hs.keepB (List.nil_sublist _)).perm [j]
      have e : takeIx F [j] = [browF ty_uint8 A2 l c2] := by simp only [takeIx, hj]
      rw [e] at hs2
      exact hs2.fin [0] ⟨none, 0, A2, c2, _, rfl, rfl, fun w' _ h => ⟨rd_nil w' none, row_rd h⟩, rfl⟩
    cases hsym : B.sym with
    | false =>
      refine ⟨.bool false, fun β w' hs => bk_cell (rbx_bk (hbx w' (hs.get 0 rfl))) (o := 0) (by simp [rCells, hsym]), ?_⟩
      refine call_con [] (fun β w' hs => copyC w' A l c (Rd.old hr (hs.get 0 rfl)) (by rw [lim_eq]; omega)) ?_
      rintro v Fs ⟨A2, c2, rfl, q1, _, rfl⟩
      exact fun β w' hs => raw (fun q => by rw [hsym] at q; cases q.1) 0 rfl β w' hs
    | true =>
      refine ⟨.bool true, fun β w' hs => bk_cell (rbx_bk (hbx w' (hs.get 0 rfl))) (o := 0) (by simp [rCells, hsym]), ?_⟩
      rcases hnn with ⟨rfl, hf, hn⟩ | ⟨rfl, hf⟩
      · have out_ : (n < 1 ∨ B.L.length < n) → ∀ {m : Nat} {H : List Bk} {F : List Fact} (β : Va) (w' : World), Sat (cx_ostiaryref05_open w (Un [])) β m H F w' → Fin w [] (ropenOut b B y l) (.tuple #[.slice none 0 0, .slice none 0 0, .bool false]) w' := by
          intro ho m H F β w' hs
          rw [ropenOut_none (Bx.opens_out hl32 hsym hf hn.symm ho)]
          exact (hs.keepB (List.nil_sublist _)).fin [] ⟨rfl, rfl⟩
        refine BIf.dec (fun hn1 => ?_) (fun hn1 => ?_)
        · have hn1' : (n : Int) < 1 := hn1
          exact fun β w' hs => out_ (.inl (by omega)) β w' hs
        have hn1' : ¬ (n : Int) < 1 := hn1
        refine ⟨.slice y.A B.L.length y.c, fun β w' hs => bk_cell (rbx_bk (hbx w' (hs.get 0 rfl))) (o := 1) rfl, ?_⟩
        refine BIf.dec (fun hgt => ?_) (fun hgt => ?_)
        · have hgt' : (B.L.length : Int) < (n : Int) := hgt
          exact fun β w' hs => out_ (.inr (by omega)) β w' hs
        have hgt' : ¬ (B.L.length : Int) < (n : Int) := hgt
        have hlen : y.ts.length = B.L.length := by rw [← hts, List.length_map]
        obtain ⟨q, hq, hqm⟩ := at_lt (l := y.ts) (k := n - 1) (by omega)
        have hqL : B.L[n - 1]? = some q.1 := by rw [← hts, List.getElem?_map, hq]; rfl
        have hqB : q.1 ∈ B.L := List.mem_of_getElem? hqL
        have hqs := hsz _ hqB
        have hin := Bx.opens_in hl32 hsym hf hn.symm (by omega) hqL
        obtain ⟨ad, hA, _⟩ := (rbx_rd hb).2 (by omega)
        refine ⟨.slice y.A B.L.length y.c, fun β w' hs => bk_cell (rbx_bk (hbx w' (hs.get 0 rfl))) (o := 1) rfl, ?_⟩
        refine ⟨((n - 1 : Nat) : Int), by rw [wrap_i64 (by omega) (by omega)]; omega, ?_⟩
        refine ⟨ad, n - 1, hA, rfl, by omega, ?_⟩
        refine ⟨termV q.1 q.2, rfl, fun β w' hs => ?_, ?_⟩
        · have h := rbx_rd (hbx w' (hs.get 0 rfl))
          rw [← hlen] at h
          obtain ⟨hil, hie⟩ := List.getElem?_eq_some_iff.1 hq
          have h2 := Rd.elem (f := fun p : Bx.Term × TA => termV p.1 p.2) (fun _ => rfl) h hA hil
          rw [hie] at h2
          exact h2
        have hkey := hqs.mask
        have hlst := hqs.list
        refine BIf.dec (fun hk => ?_) (fun hk => ?_)
        · have hk' : ((q.1.kind : Nat) : Int) = 4 := hk
          have hk4 : q.1.kind = 4 := by omega
          rw [if_pos hk4] at hin
          rw [ropenOut_some hin]
          refine draw_rule g p_ostiaryref05_open_10 (by kernel_rfl) [⟨0, ty_ostiaryref05_Term, termS q.1 q.2⟩] [] (Sub.of (List.Sublist.refl _) (List.nil_sublist _)) ?_
          intro β w' hs
          exact ((hs.keepB (List.nil_sublist _)).noMem nilO trivial (fun _ h => h)).fin [0] ⟨q.2.l, q.2.lc, q.2.m, q.2.mc, nilO, rfl, rfl, fun w' h _ => ⟨(rbx_parts h q hqm).hl, (rbx_parts h q hqm).hm⟩, rfl⟩
        · have hk' : ¬ ((q.1.kind : Nat) : Int) = 4 := hk
          have hk4 : ¬ q.1.kind = 4 := by omega
          rw [if_neg hk4] at hin
          rw [ropenOut_some hin]
          have fin_ : ∀ {A1 A2 : Option Addr} {β : Va} {w' : World} {m : Nat} {H : List Bk} {F : List Fact} {c1 c2 : Nat} (js : List Nat), nodupB js = true → takeIx F js = [irowF A1 [n] c1, browF ty_uint8 A2 Bx.noughts c2] →
              Sat (cx_ostiaryref05_open w (Un [])) β m H F w' → Fin w [] (fun v Fs => ∃ A1 c1 A2 c2 o, v = .tuple #[.slice A1 [n].length c1, .slice A2 Bx.noughts.length c2, .bool true] ∧ o.own = true ∧ (∀ w', (rbxF b B y).p w' → o.p w' → Rd 1 A1 [n].length (ints [n]) w' ∧ Bs w' A2 Bx.noughts) ∧ Fs = [o]) (.tuple #[.slice A1 1 c1, .slice A2 32 c2, .bool true]) w' := by
            intro A1 A2 β w' m H F c1 c2 js hnd hjs hs'
            have hs2 := (hs'.keepB (List.nil_sublist _)).perm js hnd
            rw [hjs] at hs2
            have hs3 := hs2.sep [0, 1] rfl ⟨rfl, rfl, trivial⟩
            exact hs3.fin [0] ⟨A1, c1, A2, c2, sepF [irowF A1 [n] c1, browF ty_uint8 A2 Bx.noughts c2], rfl, rfl, fun w' _ h => ⟨row_rd (h.1 (irowF A1 [n] c1) List.mem_cons_self), row_rd (h.1 (browF ty_uint8 A2 Bx.noughts c2) (List.mem_cons_of_mem _ List.mem_cons_self))⟩, rfl⟩
          refine draw_rule g p_ostiaryref05_open_11 (by kernel_rfl) [] [] (Sub.of (List.nil_sublist _) (List.nil_sublist _)) ?_
          refine ⟨?_, ?_⟩
          · intro b1
            refine ⟨Sub.of (List.nil_sublist _) (List.nil_sublist _), ?_⟩
            refine ⟨32, 32, rfl, rfl, Nat.le_refl _, by decide, by decide, ?_⟩
            intro b2
            refine ⟨Sub.of (List.nil_sublist _) (List.nil_sublist _), ?_⟩
            intro β w' hs
            exact fin_ [1, 0] rfl rfl hs
          · refine ⟨32, 32, rfl, rfl, Nat.le_refl _, by decide, by decide, ?_⟩
            intro b1
            refine ⟨Sub.of (List.nil_sublist _) (List.nil_sublist _), ?_⟩
            intro b2
            refine ⟨Sub.of (List.nil_sublist _) (List.nil_sublist _), ?_⟩
            intro β w' hs
            exact fin_ [0, 1] rfl rfl hs
      · refine call_con [] (fun β w' hs => copyC w' A l c (Rd.old hr (hs.get 0 rfl)) (by rw [lim_eq]; omega)) ?_
        rintro v Fs ⟨A2, c2, rfl, q1, _, rfl⟩
        exact fun β w' hs => raw (fun q => hf ⟨hl32, q.2⟩) 0 rfl β w' hs
  · have hl32 : l.length ≠ 32 := by omega
    intro β w' hs
    rw [ropenOut_none (Bx.opens_len hl32)]
    exact (hs.keepB (List.nil_sublist _)).fin [] ⟨rfl, rfl⟩
theorem rin_c (w : World) (A : Option Addr) (l : List Nat) (c x : Nat) (hr : Rd 1 A l.length (ints l) w) (hn : l.length ≤ 10000000000000) :
    Pu Tryz.prog n_ostiaryref05_in #[.slice A l.length c, .int .i64 x] w (.bool (decide (x ∈ l))) := by
  have g := good_ostiaryref05_in w (Un [])
  refine con_of_sx (cx := cx_ostiaryref05_in w (Un [])) g b_ostiaryref05_in rfl rfl (β := Va.z) [.c (.v (.slice A l.length c)), .c (.v (.int .i64 x))] 0 [] [rdF 1 A l.length (ints l)] rfl rfl ((Sat.start rfl).rd (fun _ h => by cases h) hr) ?_
  refine loop_rule 0 (fun k : Nat => [(0, .c (.v (.slice A l.length c))), (1, .c (.v (.int .i64 x))), (7, .c (.v (.slice A l.length c))), (8, .c (.v (.int .i64 l.length))), (9, .c (.v (.int .i64 k)))]) (fun _ => []) (fun _ => [rdF 1 A l.length (ints l)])
    (fun k => k ≤ l.length ∧ x ∉ l.take k) (fun k => l.length - k) 0 ⟨Nat.zero_le _, by simp⟩ (Ent.same ⟨rfl, rfl, rfl, rfl, rfl, trivial⟩ rfl) g ?_
  rintro k ⟨hk, hx⟩
  refine BIf.dec (fun hlt => ?_) (fun hge => ?_)
  · have hlt0 : (k : Int) < l.length := hlt
    have hkl : k < l.length := by omega
    obtain ⟨y, hy, hym⟩ := at_lt hkl
    obtain ⟨ad, rfl, _⟩ := hr.2 (by omega)
    refine ⟨ad, k, rfl, rfl, hkl, _, fun β w' hs => Rd.cell1 (hs.get 0 rfl) (ints_at hy), ?_⟩
    refine BIf.dec (fun he => ?_) (fun hne => ?_)
    · have he0 : (y : Int) = (x : Int) := he
      intro β w' hs
      refine hs.fin [] ⟨?_, rfl⟩
      have hxy : y = x := by omega
      subst hxy
      show Value.bool true = _
      congr 1
      exact (decide_eq_true hym).symm
    · have hne0 : ¬ (y : Int) = (x : Int) := hne
      refine ⟨((k + 1 : Nat) : Int), by rw [wrap_i64 (by omega) (by omega)]; rfl, ?_⟩
      refine ⟨k + 1, ⟨hkl, ?_⟩, by omega, Ent.same ⟨rfl, rfl, rfl, rfl, rfl, trivial⟩ rfl⟩
      rw [List.take_add_one, hy]
      intro q
      rcases List.mem_append.1 q with q | q
      · exact hx q
      · have hq : x = y := by simpa using q
        exact hne0 (by rw [hq])
  · have hge0 : ¬ (k : Int) < l.length := hge
    intro β w' hs
    refine hs.fin [] ⟨?_, rfl⟩
    have hke : k = l.length := by omega
    rw [hke, List.take_length] at hx
    show Value.bool false = _
    congr 1
    exact (decide_eq_false hx).symm
def symL (l1 l2 : List Nat) (k : Nat) : List Nat := (List.range' 1 k).filter fun n => decide (n ∈ l1) != decide (n ∈ l2)
theorem symL_snoc (l1 l2 : List Nat) (k : Nat) : symL l1 l2 (k + 1) = symL l1 l2 k ++ (if (decide (k + 1 ∈ l1) != decide (k + 1 ∈ l2)) = true then [k + 1] else []) := by
  unfold symL
  rw [List.range'_1_concat, List.filter_append, Nat.add_comm 1 k, List.filter_cons, List.filter_nil]
theorem symL_len (l1 l2 : List Nat) (k : Nat) : (symL l1 l2 k).length ≤ k := by
  have h := List.length_filter_le (fun n => decide (n ∈ l1) != decide (n ∈ l2)) (List.range' 1 k)
  rw [List.length_range'] at h
  exact h
theorem symL_mix {l1 l2 : List Nat} {N : Nat} (d1 : l1.Nodup) (d2 : l2.Nodup) (h1 : ∀ n ∈ l1, 1 ≤ n ∧ n ≤ N) (h2 : ∀ n ∈ l2, 1 ≤ n ∧ n ≤ N) : symL l1 l2 N = mixL l1 l2 := by
  have hp : (symL l1 l2 N).Perm (notIn l1 l2 ++ notIn l2 l1) := by
    refine (List.perm_ext_iff_of_nodup ?_ ?_).2 (fun n => ?_)
    · exact List.Nodup.sublist List.filter_sublist (List.nodup_range' 1)
    · refine List.nodup_append.2 ⟨List.Nodup.sublist List.filter_sublist d1, List.Nodup.sublist List.filter_sublist d2, ?_⟩
      intro x hx y hy q
      subst q
      have a := (List.mem_filter.1 hx).2
      have b := (List.mem_filter.1 hy).1
      simp [b] at a
    · simp only [symL, notIn, List.mem_filter, List.mem_append, List.mem_range'_1]
      have k1 := h1 n
      have k2 := h2 n
      by_cases a : n ∈ l1 <;> by_cases b : n ∈ l2 <;> simp [a, b]
      · have := k1 a; omega
      · have := k2 b; omega
  have hs : (mixL l1 l2).Perm (notIn l1 l2 ++ notIn l2 l1) := List.mergeSort_perm _ _
  refine List.Perm.eq_of_pairwise (le := fun a b => a ≤ b) (fun a b _ _ p q => Nat.le_antisymm p q) ?_ ?_ (hp.trans hs.symm)
  · exact ((List.pairwise_lt_range' 1).sublist List.filter_sublist).imp (fun h => Nat.le_of_lt h)
  · have h := List.pairwise_mergeSort (le := fun x y : Nat => decide (x ≤ y)) (by simp only [decide_eq_true_eq]; omega) (by simp only [Bool.or_eq_true, decide_eq_true_eq]; omega) (notIn l1 l2 ++ notIn l2 l1)
    exact h.imp (fun h => of_decide_eq_true h)
def rturnOut (b : Nat) (B : Bx.Box) (y : Lay) (s t : List UInt8) (v : Value) (Fs : List Fact) : Prop := match turnB B s t with
  | (none, _) => v = .slice none 0 0 ∧ Fs = [rbxF b B y]
  | (some h, B') => rtagOut b (h, B') v Fs
theorem rturnOut_none {b : Nat} {B : Bx.Box} {y : Lay} {s t : List UInt8} (h : turnB B s t = (none, B)) : rturnOut b B y s t = fun v Fs => v = .slice none 0 0 ∧ Fs = [rbxF b B y] := by funext v Fs; unfold rturnOut; rw [h]
theorem rturnOut_some {b : Nat} {B B' : Bx.Box} {y : Lay} {s t h : List UInt8} (e : turnB B s t = (some h, B')) : rturnOut b B y s t = rtagOut b (h, B') := by funext v Fs; unfold rturnOut; rw [e]
theorem Con.grow {P : Program} {k : FuncId} {args : Array Value} {w : World} {Gs Gs' : List Fact} {R : Value → List Fact → Prop} (hsub : ∀ k, Un Gs k → Un Gs' k) (h : Con P k args w Gs R) : Con P k args w Gs' R :=
  Calls.mono h fun _ _ ⟨v, he, Fs, hR, hc, hm, ho, hD⟩ => ⟨v, he, Fs, hR, hc.mono (fun i _ => hsub i), hm, ho, fun f hf k hk => (hD f hf k hk).imp_left (hsub k)⟩
theorem part_D {L : List Nat} {M : List UInt8} {A u : Option Addr} {c g : Nat} {f : Fact} : ∀ k, Un [f, partsF [(turnT L M, ⟨none, none, A, u, 0, 0, c, g⟩)]] k → Un [f, irowF A L c, browF ty_uint8 u M g] k := by
  rintro k ⟨x, hx, hk⟩
  simp only [List.mem_cons, List.not_mem_nil, or_false] at hx
  rcases hx with rfl | rfl
  · exact ⟨x, by simp, hk⟩
  · obtain ⟨p, hp, hk⟩ := hk
    obtain rfl := List.mem_singleton.1 hp
    rcases hk with hk | hk | hk | hk
    · exact absurd hk.1 (Nat.lt_irrefl 0)
    · exact absurd hk.1 (Nat.lt_irrefl 0)
    · exact ⟨irowF A L c, by simp, row_D hk⟩
    · exact ⟨browF ty_uint8 u M g, by simp, row_D hk⟩
def OkN (B : Bx.Box) (l : List Nat) (m : List UInt8) : Prop := OkS l m ∧ l.Nodup ∧ ∀ n ∈ l, 1 ≤ n ∧ n ≤ B.L.length
theorem rturn_c (w : World) (b : Nat) (B : Bx.Box) (y : Lay) (A1 A2 : Option Addr) (s t : List UInt8) (c1 c2 : Nat) (hts : y.ts.map (·.1) = B.L) (hL : B.L.length ≤ 4096) (hsz : ∀ t ∈ B.L, TSz t) (hok : ∀ tag l m, B.opens tag = some (l, m) → OkN B l m)
    (hm : Mem w [rbxF b B y, bsF A1 s, bsF A2 t]) (hc1 : s.length ≤ c1) (hc2 : t.length ≤ c2) (hl1 : s.length ≤ 1000000) (hl2 : t.length ≤ 1000000) :
    Con Tryz.prog n_ostiaryref05_Turn #[ptrB b, .slice A1 s.length c1, .slice A2 t.length c2] w [rbxF b B y] (rturnOut b B y s t) := by
  have g := good_ostiaryref05_Turn w (Un [rbxF b B y])
  have hs0 : Sat (cx_ostiaryref05_Turn w (Un [rbxF b B y])) Va.z 0 [] [rbxF b B y, bsF A1 s, bsF A2 t] w := hm.sat0 rfl (ownIn (Gs := [rbxF b B y]) (fun f hf => by
    simp only [List.mem_cons, List.not_mem_nil, or_false] at hf
    rcases hf with rfl | rfl | rfl <;> rfl))
  refine con_of_sx (cx := cx_ostiaryref05_Turn w (Un [rbxF b B y])) g b_ostiaryref05_Turn rfl rfl (β := Va.z) [.c (.v (ptrB b)), .c (.v (.slice A1 s.length c1)), .c (.v (.slice A2 t.length c2))] 0 [] _ rfl rfl hs0 ?_
  have bad : turnB B s t = (none, B) → ∀ {n : Nat} {H : List Bk} {F : List Fact} (j : Nat) (_ : nth F j = some (rbxF b B y)) (β : Va) (w' : World), Sat (cx_ostiaryref05_Turn w (Un [rbxF b B y])) β n H F w' → Fin w [rbxF b B y] (rturnOut b B y s t) (.slice none 0 0) w' := by
    intro hno n H F j hj β w' hs
    rw [rturnOut_none hno]
    have hs2 := (hs.keepB (List.nil_sublist _)).perm [j]
    have e : takeIx F [j] = [rbxF b B y] := by simp only [takeIx, hj]
    rw [e] at hs2
    exact hs2.fin [0] ⟨rfl, rfl⟩
  refine call_con [] (R := ropenOut b B y s) (fun β w' hs => ropen_c w' b B y A1 s c1 hts hL hsz (hs.get 0 rfl) (fun k hk => hs.flt _ (List.mem_of_getElem? (i := 0) rfl) k hk) (hs.get 1 rfl) hc1 hl1) ?_
  cases h1 : B.opens s with
  | none =>
    rw [ropenOut_none h1]
    rintro v Fs ⟨rfl, rfl⟩
    refine call_con [] (R := ropenOut b B y t) (fun β w' hs => ropen_c w' b B y A2 t c2 hts hL hsz (hs.get 0 rfl) (fun k hk => hs.flt _ (List.mem_of_getElem? (i := 0) rfl) k hk) (hs.get 2 rfl) hc2 hl2) ?_
    cases h2 : B.opens t with
    | none =>
      rw [ropenOut_none h2]
      rintro v Fs ⟨rfl, rfl⟩
      exact fun β w' hs => bad (turnB_none1 h1) 0 rfl β w' hs
    | some q =>
      obtain ⟨l2, m2⟩ := q
      rw [ropenOut_some h2]
      rintro v Fs ⟨B1, d1, B2, d2, o2, rfl, _, _, rfl⟩
      exact fun β w' hs => bad (turnB_none1 h1) 1 rfl β w' hs
  | some p =>
    obtain ⟨l1, m1⟩ := p
    obtain ⟨ok1, nd1, rg1⟩ := hok s l1 m1 h1
    rw [ropenOut_some h1]
    rintro v Fs ⟨a1, e1, a2, e2, o1, rfl, ho1, hp1, rfl⟩
    refine call_con [] (R := ropenOut b B y t) (fun β w' hs => ropen_c w' b B y A2 t c2 hts hL hsz (hs.get 1 rfl) (fun k hk => hs.flt _ (List.mem_of_getElem? (i := 1) rfl) k hk) (hs.get 3 rfl) hc2 hl2) ?_
    cases h2 : B.opens t with
    | none =>
      rw [ropenOut_none h2]
      rintro v Fs ⟨rfl, rfl⟩
      exact fun β w' hs => bad (turnB_none2 h2) 1 rfl β w' hs
    | some q =>
      obtain ⟨l2, m2⟩ := q
      obtain ⟨ok2, nd2, rg2⟩ := hok t l2 m2 h2
      rw [ropenOut_some h2]
      rintro v Fs ⟨d1, f1, d2, f2, o2, rfl, ho2, hp2, rfl⟩
      have hk1 := ok1.len
      have hk2 := ok2.len
      have hk3 := ok1.mask
      have hk4 := ok2.mask
      have hx : (Bx.xorB m1 m2).length = 32 := by rw [xorB_len]; omega
      refine loop_rule (ι := Nat × Option Addr × Nat) 0 (fun i => [(0, .c (.v (ptrB b))), (7, .c (.v (.slice a1 l1.length e1))), (8, .c (.v (.slice a2 m1.length e2))), (10, .c (.v (.slice d1 l2.length f1))), (11, .c (.v (.slice d2 m2.length f2))), (13, .c (.v (.slice i.2.1 (symL l1 l2 i.1).length i.2.2))), (14, .c (.v (.int .i64 ((i.1 + 1 : Nat) : Int))))]) (fun _ => [])
        (fun i => [irowF i.2.1 (symL l1 l2 i.1) i.2.2, o2, o1, rbxF b B y]) (fun i => i.1 ≤ B.L.length ∧ (symL l1 l2 i.1 = [] ∨ ∃ ad, i.2.1 = some ad)) (fun i => B.L.length - i.1) (0, none, 0) ⟨Nat.zero_le _, .inl rfl⟩ (Ent.mk' ⟨rfl, rfl, rfl, rfl, rfl, rfl, rfl, trivial⟩ rfl (fun β w hs => (hs.nilRow ty_int 1).perm [0, 1, 2, 3])) g ?_
      rintro ⟨k, A, c⟩ ⟨hk, hA⟩
      simp only at hk hA
      have hsl := symL_len l1 l2 k
      refine ⟨.slice y.A B.L.length y.c, fun β w' hs => bk_cell (rbx_bk (hs.get 3 rfl)) (o := 1) rfl, ?_⟩
      refine BIf.dec (fun hle => ?_) (fun hgt => ?_)
      · have hle0 : ((k + 1 : Nat) : Int) ≤ (B.L.length : Int) := hle
        have hkl : k < B.L.length := by omega
        obtain ⟨b1, hb1⟩ : ∃ x, decide (k + 1 ∈ l1) = x := ⟨_, rfl⟩
        obtain ⟨b2, hb2⟩ : ∃ x, decide (k + 1 ∈ l2) = x := ⟨_, rfl⟩
        have hsn := symL_snoc l1 l2 k
        rw [hb1, hb2] at hsn
        refine call_pu (v := .bool b1) (fun β w' hs => by
          have h := rin_c w' a1 l1 e1 (k + 1) (hp1 w' (hs.get 3 rfl) (hs.get 2 rfl)).1 (by omega)
          rw [hb1] at h
          exact h) ?_
        refine call_pu (v := .bool b2) (fun β w' hs => by
          have h := rin_c w' d1 l2 f1 (k + 1) (hp2 w' (hs.get 3 rfl) (hs.get 1 rfl)).1 (by omega)
          rw [hb2] at h
          exact h) ?_
        cases b1 <;> cases b2
        · have e : symL l1 l2 (k + 1) = symL l1 l2 k := by rw [hsn]; simp
          refine ⟨((k + 1 + 1 : Nat) : Int), by rw [wrap_i64 (by omega) (by omega)]; rfl, ?_⟩
          refine ⟨(k + 1, A, c), ⟨hkl, by rw [e]; exact hA⟩, by show B.L.length - (k + 1) < B.L.length - k; omega, ?_⟩
          simp only [e]
          exact Ent.same ⟨rfl, rfl, rfl, rfl, rfl, rfl, rfl, trivial⟩ rfl
        · have e : symL l1 l2 (k + 1) = symL l1 l2 k ++ [k + 1] := by rw [hsn]; rfl
          intro b3
          refine ⟨1, (symL l1 l2 k).length, (symL l1 l2 k).length + 1, ints (symL l1 l2 k), ints [k + 1], ints (symL l1 l2 k ++ [k + 1]), rfl, fun β w hs => row_rd (hs.get 0 rfl), ints_one _, rfl, by simp [ints], by rw [maxLen_eq]; omega, by show ((symL l1 l2 k).length + 1) * 8 ≤ _; omega, ?_⟩
          intro A' c' q1 q2 q3
          have hA' : ∃ ad, A' = some ad := by
            cases A' with
            | none => exact absurd (q3 rfl).2 (by decide)
            | some ad => exact ⟨ad, rfl⟩
          refine ⟨((k + 1 + 1 : Nat) : Int), by rw [wrap_i64 (by omega) (by omega)]; rfl, ?_⟩
          refine ⟨(k + 1, A', c'), ⟨hkl, .inr hA'⟩, by show B.L.length - (k + 1) < B.L.length - k; omega, ?_⟩
          simp only [irowF, e, List.length_append, List.length_cons, List.length_nil, Nat.zero_add]
          refine Ent.mk' ⟨rfl, rfl, rfl, rfl, rfl, rfl, rfl, trivial⟩ rfl (fun β w' hs => ?_)
          exact hs.weaken (List.Sublist.refl _) (List.sublist_cons_self _ _)
        · have e : symL l1 l2 (k + 1) = symL l1 l2 k ++ [k + 1] := by rw [hsn]; rfl
          intro b3
          refine ⟨1, (symL l1 l2 k).length, (symL l1 l2 k).length + 1, ints (symL l1 l2 k), ints [k + 1], ints (symL l1 l2 k ++ [k + 1]), rfl, fun β w hs => row_rd (hs.get 0 rfl), ints_one _, rfl, by simp [ints], by rw [maxLen_eq]; omega, by show ((symL l1 l2 k).length + 1) * 8 ≤ _; omega, ?_⟩
          intro A' c' q1 q2 q3
          have hA' : ∃ ad, A' = some ad := by
            cases A' with
            | none => exact absurd (q3 rfl).2 (by decide)
            | some ad => exact ⟨ad, rfl⟩
          refine ⟨((k + 1 + 1 : Nat) : Int), by rw [wrap_i64 (by omega) (by omega)]; rfl, ?_⟩
          refine ⟨(k + 1, A', c'), ⟨hkl, .inr hA'⟩, by show B.L.length - (k + 1) < B.L.length - k; omega, ?_⟩
          simp only [irowF, e, List.length_append, List.length_cons, List.length_nil, Nat.zero_add]
          refine Ent.mk' ⟨rfl, rfl, rfl, rfl, rfl, rfl, rfl, trivial⟩ rfl (fun β w' hs => ?_)
          exact hs.weaken (List.Sublist.refl _) (List.sublist_cons_self _ _)
        · have e : symL l1 l2 (k + 1) = symL l1 l2 k := by rw [hsn]; simp
          refine ⟨((k + 1 + 1 : Nat) : Int), by rw [wrap_i64 (by omega) (by omega)]; rfl, ?_⟩
          refine ⟨(k + 1, A, c), ⟨hkl, by rw [e]; exact hA⟩, by show B.L.length - (k + 1) < B.L.length - k; omega, ?_⟩
          simp only [e]
          exact Ent.same ⟨rfl, rfl, rfl, rfl, rfl, rfl, rfl, trivial⟩ rfl
      have hgt0 : ¬ ((k + 1 : Nat) : Int) ≤ (B.L.length : Int) := hgt
      obtain rfl : k = B.L.length := by omega
      have hmix := symL_mix nd1 nd2 rg1 rg2
      have hmem : ∀ n ∈ symL l1 l2 B.L.length, n ≤ 4096 := fun n hn => by
        have h3 := (List.mem_filter.1 hn).1
        rw [List.mem_range'_1] at h3
        omega
      have hR := turnB_raw (B := B) h1 h2
      have hO := fun n => turnB_one (B := B) (n := n) h1 h2
      have hT := turnB_tag (B := B) h1 h2
      rw [← hmix] at hR hO hT
      clear hmix
      generalize symL l1 l2 B.L.length = L at *
      have hxor := fun (w' : World) (h3 : Bs w' a2 m1) (h4 : Bs w' d2 m2) => rxor_c w' a2 d2 m1 m2 e2 f2 h3 h4 (by omega)
      rw [hx] at hxor
      generalize Bx.xorB m1 m2 = M at *
      refine call_con [] (fun β w' hs => hxor w' (hp1 w' (hs.get 3 rfl) (hs.get 2 rfl)).2 (hp2 w' (hs.get 3 rfl) (hs.get 1 rfl)).2) ?_
      rintro v Fs ⟨u2, g2, rfl, hg2, hgm, rfl⟩
      obtain ⟨n, ok, hnv, hnn⟩ := looks_v M
      refine call_pu (v := .tuple #[.int .i64 (n : Int), .bool ok]) (fun β w' hs => by
        have h := looks_c w' u2 M g2 (row_rd (hs.get 0 rfl)) (by omega) (by omega)
        rw [hnv, hx] at h
        exact h) ?_
      have hTs : TSz (turnT L M) := ⟨by show 4 < 1000; decide, by show 0 < 1000; decide, Nat.zero_le _, Nat.zero_le _, by show L.length ≤ 10000; omega, fun n hn => by have := hmem n hn; omega, by show M.length ≤ 1000000; omega⟩
      have htv : ∀ L : List Nat, termV (turnT L M) ⟨none, none, A, u2, 0, 0, c, g2⟩ = [.int .i64 ((4 : Nat) : Int), .slice none 0 0, .slice none 0 0, .int .i64 ((0 : Nat) : Int), .slice A L.length c, .slice u2 32 g2] := fun L => by
        simp only [termV, turnT, hx, List.length_nil]
      cases L with
      | nil =>
        cases hsym : B.sym with
        | false =>
          refine ⟨.bool false, fun β w' hs => bk_cell (rbx_bk (hs.get 4 rfl)) (o := 0) (by simp [rCells, hsym]), ?_⟩
          intro β w' hs
          rw [rturnOut_some (hR rfl (fun q => by rw [hsym] at q; cases q.1))]
          exact hs.fin [0, 4] ⟨u2, g2, y, rfl, hg2, hgm, hts, rfl⟩
        | true =>
          refine ⟨.bool true, fun β w' hs => bk_cell (rbx_bk (hs.get 4 rfl)) (o := 0) (by simp [rCells, hsym]), ?_⟩
          rcases hnn with ⟨rfl, hf, hn⟩ | ⟨rfl, hf⟩
          · skip
            refine call_con [4, 1, 0] (R := rtagOut b (B.tag (turnT [] M))) (fun β w' hs => by
              have h2 := hs.part2l [1, 0] (turnT [] M) ⟨none, none, A, u2, 0, 0, c, g2⟩ rfl rfl rfl
              have h3 := rtag_c w' b B y (turnT [] M) ⟨none, none, A, u2, 0, 0, c, g2⟩ hts hL hsz hTs (h2.mem.take (js := [3, 0]) rfl)
              rw [htv []] at h3
              exact Con.grow part_D h3) ?_ ⟨rfl, rfl, rfl, trivial⟩
            rintro v Fs ⟨A3, c3, y3, rfl, r1, r2, r3, rfl⟩
            intro β w' hs
            rw [rturnOut_some (hT (fun q => q.2 ⟨hsym, hf⟩) (fun q => by cases q.1))]
            exact hs.fin [0, 1] ⟨A3, c3, y3, rfl, r1, r2, r3, rfl⟩
          · intro β w' hs
            rw [rturnOut_some (hR rfl (fun q => hf ⟨hx, q.2⟩))]
            exact hs.fin [0, 4] ⟨u2, g2, y, rfl, hg2, hgm, hts, rfl⟩
      | cons n1 r =>
        cases r with
        | nil =>
          refine ⟨32, 32, rfl, rfl, Nat.le_refl _, by decide, by decide, ?_⟩
          intro b1
          refine call_pu (v := .bool (decide (M = Bx.noughts))) (fun β w' hs => by
            have h := pu_of (same_c w' u2 (some ⟨b1, 0, none⟩) M Bx.noughts g2 32 (row_rd (hs.get 1 rfl)) (row_rd (hs.get 0 rfl)))
            rw [hx] at h
            exact h) ?_
          refine BIf.dec (fun hz => ?_) (fun hz => ?_)
          · have hz0 : M = Bx.noughts := hz
            obtain ⟨ad, rfl⟩ : ∃ ad, A = some ad := hA.resolve_left (fun q => by cases q)
            have hn1 := hmem n1 List.mem_cons_self
            refine ⟨ad, 0, rfl, rfl, Nat.lt_succ_self 0, _, fun β w' hs => Rd.cell1 (row_rd (hs.get 2 rfl)) rfl, ?_⟩
            refine call_con [] (fun β w' hs => rhandle_c w' n1 (by omega)) ?_
            rintro v Fs ⟨A3, c3, rfl, q1, q2, rfl⟩
            intro β w' hs
            rw [rturnOut_some (hO n1 rfl hz0)]
            exact hs.fin [0, 6] ⟨A3, c3, y, rfl, q1, q2, hts, rfl⟩
          · have hz0 : ¬ M = Bx.noughts := hz
            refine call_con [5, 2, 1] (R := rtagOut b (B.tag (turnT [n1] M))) (fun β w' hs => by
              have h2 := hs.part2l [2, 1] (turnT [n1] M) ⟨none, none, A, u2, 0, 0, c, g2⟩ rfl rfl rfl
              have h3 := rtag_c w' b B y (turnT [n1] M) ⟨none, none, A, u2, 0, 0, c, g2⟩ hts hL hsz hTs (h2.mem.take (js := [4, 0]) rfl)
              rw [htv [n1]] at h3
              exact Con.grow part_D h3) ?_ ⟨rfl, rfl, rfl, trivial⟩
            rintro v Fs ⟨A3, c3, y3, rfl, r1, r2, r3, rfl⟩
            intro β w' hs
            rw [rturnOut_some (hT (fun q => by cases q.1) (fun q => hz0 q.2))]
            exact hs.fin [0, 1] ⟨A3, c3, y3, rfl, r1, r2, r3, rfl⟩
        | cons n2 r2 =>
          refine call_con [4, 1, 0] (R := rtagOut b (B.tag (turnT (n1 :: n2 :: r2) M))) (fun β w' hs => by
            have h2 := hs.part2l [1, 0] (turnT (n1 :: n2 :: r2) M) ⟨none, none, A, u2, 0, 0, c, g2⟩ rfl rfl rfl
            have h3 := rtag_c w' b B y (turnT (n1 :: n2 :: r2) M) ⟨none, none, A, u2, 0, 0, c, g2⟩ hts hL hsz hTs (h2.mem.take (js := [3, 0]) rfl)
            rw [htv (n1 :: n2 :: r2)] at h3
            exact Con.grow part_D h3) ?_ ⟨rfl, rfl, rfl, trivial⟩
          rintro v Fs ⟨A3, c3, y3, rfl, r1, r2, r3, rfl⟩
          intro β w' hs
          rw [rturnOut_some (hT (fun q => by cases q.1) (fun q => by cases q.1))]
          exact hs.fin [0, 1] ⟨A3, c3, y3, rfl, r1, r2, r3, rfl⟩
structure Nf (B : Bx.Box) (l : List Nat) (m : List UInt8) : Prop where
  mask : m.length = 32
  sorted : l.Pairwise (· < ·)
  nums : ∀ n ∈ l, 1 ≤ n ∧ n ≤ B.L.length
  base : ∀ n ∈ l, ∀ u, B.L[n - 1]? = some u → u.kind ≠ 4
structure K4 (B : Bx.Box) (t : Bx.Term) : Prop where
  nf : Nf B t.list t.mask
  form : t = turnT t.list t.mask
  one : ¬ (t.list.length = 1 ∧ t.mask = Bx.noughts)
  raw : ¬ (t.list = [] ∧ ¬ t.mask.take 28 = Bx.front)
structure BInv (B : Bx.Box) : Prop where
  sz : ∀ t ∈ B.L, TSz t
  nodup : B.L.Nodup
  k4 : ∀ t ∈ B.L, t.kind = 4 → K4 B t
  plain : B.sym = false → B.L = []
  len : B.L.length ≤ 4096
structure Ext (B B' : Bx.Box) : Prop where
  sym : B'.sym = B.sym
  full : B'.full = B.full
  len : B'.L.length ≤ B.L.length + 1
  inv : BInv B'
  mono : ∀ h r, B.opens h = some r → B'.opens h = some r
theorem Ext.refl {B : Bx.Box} (h : BInv B) : Ext B B := ⟨rfl, rfl, Nat.le_succ _, h, fun _ _ h => h⟩
theorem Nf.grow {B : Bx.Box} {l : List Nat} {m : List UInt8} (t : Bx.Term) (h : Nf B l m) : Nf { B with L := B.L ++ [t] } l m := by
  refine ⟨h.mask, h.sorted, fun n hn => ?_, fun n hn u hu => ?_⟩
  · have := h.nums n hn
    simp only [List.length_append, List.length_cons, List.length_nil]
    omega
  · have := h.nums n hn
    refine h.base n hn u ?_
    simp only at hu
    rw [List.getElem?_append_left (by omega)] at hu
    exact hu
theorem Nf.ok {B : Bx.Box} {l : List Nat} {m : List UInt8} (hi : BInv B) (h : Nf B l m) : OkN B l m := by
  have hnd : l.Nodup := h.sorted.imp (fun q => Nat.ne_of_lt q)
  refine ⟨⟨?_, fun n hn => ?_, h.mask⟩, hnd, h.nums⟩
  · have e := symL_mix (l2 := []) hnd List.nodup_nil h.nums (fun n hn => (by cases hn))
    have e2 : (mixL l []).length = l.length := by
      rw [mixL, sortN_len]
      have e3 : notIn l [] = l := List.filter_eq_self.2 (fun a _ => by simp)
      rw [e3]
      simp [notIn]
    have := symL_len l [] B.L.length
    rw [e, e2] at this
    have := hi.len
    omega
  · have := h.nums n hn
    have := hi.len
    omega
theorem opens_grow {B : Bx.Box} {t : Bx.Term} {h : List UInt8} {r : List Nat × List UInt8} (h0 : B.opens h = some r) : ({ B with L := B.L ++ [t] } : Bx.Box).opens h = some r := by
  unfold Bx.Box.opens at h0 ⊢
  split at h0
  · rename_i h32
    rw [if_pos h32]
    split at h0
    · rename_i hs
      rw [if_pos hs]
      split at h0
      · cases h0
      · rename_i hn
        have hn' : ¬ (Bx.num (h.drop 28) < 1 ∨ (B.L ++ [t]).length < Bx.num (h.drop 28)) := by
          rw [List.length_append]
          omega
        rw [if_neg hn']
        simp only
        rw [List.getElem?_append_left (by omega)]
        exact h0
    · rename_i hs
      rw [if_neg hs]
      exact h0
  · cases h0
theorem be4_of_num {l : List UInt8} (h : l.length = 4) : Bx.be4 (Bx.num l) = l := by
  have key : ∀ (x : Nat) (u : UInt8), x % 256 = u.toNat → UInt8.ofNat x = u := fun x u h => by
    apply UInt8.toNat_inj.1
    rw [UInt8.toNat_ofNat']
    exact h
  match l, h with
  | [a, b, c, d], _ =>
    have ha := a.toNat_lt
    have hb := b.toNat_lt
    have hc := c.toNat_lt
    have hd := d.toNat_lt
    simp only [Bx.num, List.foldl, Bx.be4]
    rw [key _ a (by omega), key _ b (by omega), key _ c (by omega), key _ d (by omega)]
theorem opens_nf {B : Bx.Box} (hi : BInv B) {x : List UInt8} {l : List Nat} {m : List UInt8} (h : B.opens x = some (l, m)) :
    x.length = 32 ∧ Nf B l m ∧ ((l = [] ∧ m = x ∧ ¬ (B.sym = true ∧ m.take 28 = Bx.front)) ∨ (∃ n, l = [n] ∧ m = Bx.noughts ∧ x = Bx.handle n ∧ B.sym = true) ∨ (∃ k t, B.sym = true ∧ B.L[k]? = some t ∧ t = turnT l m ∧ K4 B t ∧ x = Bx.handle (k + 1))) := by
  unfold Bx.Box.opens at h
  split at h
  · rename_i h32
    refine ⟨h32, ?_⟩
    split at h
    · rename_i hs
      split at h
      · cases h
      · rename_i hn
        have hx : x = Bx.handle (Bx.num (x.drop 28)) := by
          have h1 := num4 h32
          have h2 : x = Bx.front ++ x.drop 28 := by rw [← hs.2, List.take_append_drop]
          rw [Bx.handle]
          rw [be4_of_num (by rw [List.length_drop, h32])]
          exact h2
        generalize hN : Bx.num (x.drop 28) = N at h hn hx
        split at h
        · rename_i t ht
          have htm : t ∈ B.L := List.mem_of_getElem? ht
          split at h
          · rename_i hk
            obtain ⟨rfl, rfl⟩ := Prod.mk.inj (Option.some.inj h)
            have h4 := hi.k4 t htm hk
            exact ⟨h4.nf, .inr (.inr ⟨N - 1, t, hs.1, ht, h4.form, h4, by rw [hx]; congr 1; omega⟩)⟩
          · rename_i hk
            obtain ⟨rfl, rfl⟩ := Prod.mk.inj (Option.some.inj h)
            refine ⟨⟨rfl, List.pairwise_singleton _ _, fun n hn' => ?_, fun n hn' u hu => ?_⟩, .inr (.inl ⟨N, rfl, rfl, hx, hs.1⟩)⟩
            · obtain rfl := List.mem_singleton.1 hn'
              omega
            · obtain rfl := List.mem_singleton.1 hn'
              rw [ht] at hu
              obtain rfl := Option.some.inj hu
              exact hk
        · cases h
    · rename_i hs
      obtain ⟨rfl, rfl⟩ := Prod.mk.inj (Option.some.inj h)
      exact ⟨⟨h32, List.Pairwise.nil, fun _ q => (by cases q), fun _ q => (by cases q)⟩, .inl ⟨rfl, rfl, hs⟩⟩
  · cases h
end Go.Proofs.YtoifclfanabalaaGreatDoor.Sx

namespace Go.Proofs.YtoifclfanabalaaGreatDoor.Sx
open Go
attribute [local irreducible] Calls
open Classical in
noncomputable def canon (B : Bx.Box) (l : List Nat) (m : List UInt8) : List UInt8 × Bx.Box :=
  if l = [] ∧ ¬ (B.sym = true ∧ m.take 28 = Bx.front) then (m, B)
  else match l, decide (m = Bx.noughts) with
    | [n], true => (Bx.handle n, B)
    | L, _ => B.tag (turnT L m)
theorem canon_raw {B : Bx.Box} {l : List Nat} {m : List UInt8} (h : l = [] ∧ ¬ (B.sym = true ∧ m.take 28 = Bx.front)) : canon B l m = (m, B) := by unfold canon; rw [if_pos h]
theorem canon_one {B : Bx.Box} {n : Nat} : canon B [n] Bx.noughts = (Bx.handle n, B) := by
  unfold canon
  rw [if_neg (fun q => by cases q.1), decide_eq_true rfl]
theorem canon_tag {B : Bx.Box} {l : List Nat} {m : List UInt8} (h : ¬ (l = [] ∧ ¬ (B.sym = true ∧ m.take 28 = Bx.front))) (h1 : ¬ (l.length = 1 ∧ m = Bx.noughts)) : canon B l m = B.tag (turnT l m) := by
  unfold canon
  rw [if_neg h]
  split
  · rename_i n h4
    exact absurd ⟨rfl, of_decide_eq_true h4⟩ h1
  · rfl
theorem turnB_canon {B : Bx.Box} {s t : List UInt8} {l1 l2 : List Nat} {m1 m2 : List UInt8} (h1 : B.opens s = some (l1, m1)) (h2 : B.opens t = some (l2, m2)) : turnB B s t = (some (canon B (mixL l1 l2) (Bx.xorB m1 m2)).1, (canon B (mixL l1 l2) (Bx.xorB m1 m2)).2) := by
  by_cases q1 : mixL l1 l2 = [] ∧ ¬ (B.sym = true ∧ (Bx.xorB m1 m2).take 28 = Bx.front)
  · rw [turnB_raw h1 h2 q1.1 q1.2, canon_raw q1]
  by_cases q2 : (mixL l1 l2).length = 1 ∧ Bx.xorB m1 m2 = Bx.noughts
  · obtain ⟨n, hn⟩ := List.length_eq_one_iff.1 q2.1
    rw [turnB_one h1 h2 hn q2.2, hn, q2.2, canon_one]
  · rw [turnB_tag h1 h2 q1 q2, canon_tag q1 q2]
theorem K4.grow {B : Bx.Box} {t : Bx.Term} (u : Bx.Term) (h : K4 B t) : K4 { B with L := B.L ++ [u] } t := ⟨h.nf.grow u, h.form, h.one, h.raw⟩
theorem tag_ext {B : Bx.Box} (hi : BInv B) (hs : B.sym = true) (hl : B.L.length < 4096) {t : Bx.Term} (hz : TSz t) (h4 : t.kind = 4 → K4 B t) : Ext B (B.tag t).2 ∧ ∃ k, (B.tag t).1 = Bx.handle (k + 1) ∧ (B.tag t).2.L[k]? = some t := by
  unfold Bx.Box.tag
  cases hp : Bx.place t B.L with
  | some i => exact ⟨Ext.refl hi, i, rfl, Bx.place_some hp⟩
  | none =>
    simp only
    rw [if_neg (by omega)]
    refine ⟨⟨rfl, rfl, by simp, ⟨fun u hu => ?_, ?_, fun u hu hk => ?_, fun q => ?_, ?_⟩, fun h r q => opens_grow q⟩, B.L.length, rfl, by simp⟩
    · rcases List.mem_append.1 hu with hu | hu
      · exact hi.sz u hu
      · obtain rfl := List.mem_singleton.1 hu
        exact hz
    · refine List.nodup_append.2 ⟨hi.nodup, List.nodup_cons.2 ⟨fun q => (by cases q), List.nodup_nil⟩, fun a ha b hb q => ?_⟩
      obtain rfl := List.mem_singleton.1 hb
      exact Bx.place_none hp (q ▸ ha)
    · rcases List.mem_append.1 hu with hu | hu
      · exact (hi.k4 u hu hk).grow t
      · obtain rfl := List.mem_singleton.1 hu
        exact (h4 hk).grow u
    · rw [show ({ B with L := B.L ++ [t] } : Bx.Box).sym = B.sym from rfl, hs] at q
      cases q
    · simp only [List.length_append, List.length_cons, List.length_nil]
      omega
theorem turnT_sz {B : Bx.Box} (hi : BInv B) {l : List Nat} {m : List UInt8} (h : Nf B l m) : TSz (turnT l m) := by
  obtain ⟨h1, _, _⟩ := h.ok hi
  have := h1.len
  have := h1.mask
  exact ⟨by show 4 < 1000; decide, by show 0 < 1000; decide, Nat.zero_le _, Nat.zero_le _, by show l.length ≤ 10000; omega, fun n hn => by have := h1.nums n hn; omega, by show m.length ≤ 1000000; omega⟩
theorem canon_ext {B : Bx.Box} (hi : BInv B) (hl : B.L.length < 4096) {l : List Nat} {m : List UInt8} (h : Nf B l m) : Ext B (canon B l m).2 ∧ (canon B l m).1.length = 32 ∧ (canon B l m).2.opens (canon B l m).1 = some (l, m) := by
  have hsym : l ≠ [] → B.sym = true := fun hne => by
    cases hs : B.sym with
    | true => rfl
    | false =>
      obtain ⟨n, r, rfl⟩ := List.exists_cons_of_ne_nil hne
      have := h.nums n List.mem_cons_self
      rw [hi.plain hs] at this
      have h0 : n ≤ 0 := this.2
      omega
  by_cases h1 : l = [] ∧ ¬ (B.sym = true ∧ m.take 28 = Bx.front)
  · rw [canon_raw h1]
    refine ⟨Ext.refl hi, h.mask, ?_⟩
    rw [h1.1]
    exact Bx.opens_raw h.mask h1.2
  by_cases h2 : l.length = 1 ∧ m = Bx.noughts
  · obtain ⟨h2, rfl⟩ := h2
    obtain ⟨n, rfl⟩ := List.length_eq_one_iff.1 h2
    have hs := hsym (fun q => by cases q)
    rw [canon_one]
    refine ⟨Ext.refl hi, rfl, ?_⟩
    have hn := h.nums n List.mem_cons_self
    obtain ⟨u, hu, _⟩ := at_lt (l := B.L) (k := n - 1) (by omega)
    have hb := h.base n List.mem_cons_self u hu
    exact (opens_h hs (by omega) hn.1 hn.2 hu).trans (if_neg hb)
  · rw [canon_tag h1 h2]
    have hs : B.sym = true := by
      by_cases hne : l = []
      · cases hs : B.sym with
        | true => rfl
        | false => exact absurd ⟨hne, fun q => by rw [hs] at q; cases q.1⟩ h1
      · exact hsym hne
    obtain ⟨he, k, hk, hkt⟩ := tag_ext hi hs hl (turnT_sz hi h) (fun _ => ⟨h, rfl, h2, fun q => h1 ⟨q.1, fun f => q.2 f.2⟩⟩)
    refine ⟨he, by rw [hk]; rfl, ?_⟩
    rw [hk]
    have hlen := he.inv.len
    have hlt := (List.getElem?_eq_some_iff.1 hkt).1
    exact (opens_h (he.sym.trans hs) (by omega) (by omega) (by omega) hkt).trans (if_pos rfl)
theorem mem_mix {l1 l2 : List Nat} {n : Nat} (h : n ∈ mixL l1 l2) : n ∈ l1 ∨ n ∈ l2 := by
  have h3 : n ∈ notIn l1 l2 ++ notIn l2 l1 := (List.mergeSort_perm _ _).mem_iff.1 h
  rcases List.mem_append.1 h3 with q | q
  · exact .inl (List.mem_filter.1 q).1
  · exact .inr (List.mem_filter.1 q).1
theorem Nf.mix {B : Bx.Box} {l1 l2 : List Nat} {m1 m2 : List UInt8} (h1 : Nf B l1 m1) (h2 : Nf B l2 m2) : Nf B (mixL l1 l2) (Bx.xorB m1 m2) := by
  have d1 : l1.Nodup := h1.sorted.imp (fun q => Nat.ne_of_lt q)
  have d2 : l2.Nodup := h2.sorted.imp (fun q => Nat.ne_of_lt q)
  refine ⟨by rw [xorB_len, h1.mask, h2.mask]; exact Nat.min_self _, ?_, fun n hn => ?_, fun n hn => ?_⟩
  · rw [← symL_mix d1 d2 h1.nums h2.nums]
    exact (List.pairwise_lt_range' 1).sublist List.filter_sublist
  · rcases mem_mix hn with q | q
    · exact h1.nums n q
    · exact h2.nums n q
  · rcases mem_mix hn with q | q
    · exact h1.base n q
    · exact h2.base n q
theorem turn_ext {B : Bx.Box} (hi : BInv B) (hl : B.L.length < 4096) {s t : List UInt8} {l1 l2 : List Nat} {m1 m2 : List UInt8} (h1 : B.opens s = some (l1, m1)) (h2 : B.opens t = some (l2, m2)) :
    ∃ h B', turnB B s t = (some h, B') ∧ Ext B B' ∧ h.length = 32 ∧ B'.opens h = some (mixL l1 l2, Bx.xorB m1 m2) := by
  obtain ⟨_, n1, _⟩ := opens_nf hi h1
  obtain ⟨_, n2, _⟩ := opens_nf hi h2
  obtain ⟨e1, e2, e3⟩ := canon_ext hi hl (n1.mix n2)
  exact ⟨_, _, turnB_canon h1 h2, e1, e2, e3⟩
theorem xor_comm (a b : List UInt8) : Bx.xorB a b = Bx.xorB b a := by
  unfold Bx.xorB
  rw [List.zipWith_comm]
  congr 1
  funext x y
  exact UInt8.xor_comm _ _
end Go.Proofs.YtoifclfanabalaaGreatDoor.Sx

namespace Go.Proofs.YtoifclfanabalaaGreatDoor.Sx
open Go
attribute [local irreducible] Calls
theorem len_cons {l : List Value} {n : Nat} (h : l.length = n + 1) : ∃ a r, l = a :: r ∧ r.length = n := by
  cases l with
  | nil => cases h
  | cons a r => exact ⟨a, r, rfl, by simpa using h⟩
theorem cutC (w : World) (A : Option Addr) (l : List UInt8) (c k : Nat) (hr : Bs w A l) (hc : l.length ≤ c) (hn : k ≤ lim) :
    Con Tryz.prog n_ostiaryref01_Cut #[.slice A l.length c, .int .i64 k] w [] fun v Fs => ∃ A' c', v = .slice A' (l.take k).length c' ∧ (l.take k).length ≤ c' ∧ c' ≤ maxLen ∧ Fs = [browF ty_uint8 A' (l.take k) c'] := con_row (cut_c w A l c k hr hc hn)
theorem cut_D {A : Option Addr} {l m : List UInt8} {c i k : Nat} (hm : m.length ≤ l.length) (h : (bsF (cutA A c i 1) m).D k) : (bsF A l).D k := by
  obtain ⟨h0, ad, hA, rfl⟩ := h
  have h0' : 0 < m.length * 1 := h0
  unfold cutA at hA
  split at hA
  · exact ⟨by show 0 < l.length * 1; omega, ad, hA, rfl⟩
  · cases A with
    | none => cases hA
    | some a =>
      have hA' : a.add (i * 1) = ad := by simpa using hA
      exact ⟨by show 0 < l.length * 1; omega, a, rfl, by rw [← hA']; unfold Addr.add; split <;> rfl⟩
def GoodT (B : Bx.Box) (r : List UInt8 × Bx.Box) : Prop := Ext B r.2 ∧ r.1.length = 32 ∧ ∃ q, r.2.opens r.1 = some q
theorem tag_good {B : Bx.Box} (hi : BInv B) (hs : B.sym = true) (hl : B.L.length < 4096) {t : Bx.Term} (hz : TSz t) (h4 : t.kind ≠ 4) : GoodT B (B.tag t) := by
  obtain ⟨he, k, hk, hkt⟩ := tag_ext hi hs hl hz (fun q => absurd q h4)
  refine ⟨he, by rw [hk]; rfl, ?_⟩
  rw [hk]
  have hlen := he.inv.len
  have hlt := (List.getElem?_eq_some_iff.1 hkt).1
  exact ⟨_, (opens_h (he.sym.trans hs) (by omega) (by omega) (by omega) hkt).trans (if_neg h4)⟩
theorem raw_good {B : Bx.Box} (hi : BInv B) (hs : B.sym = false) {h : List UInt8} (hh : h.length = 32) : GoodT B (h, B) :=
  ⟨Ext.refl hi, hh, _, Bx.opens_raw hh (fun q => by rw [hs] at q; cases q.1)⟩
theorem hash_good {B : Bx.Box} (hi : BInv B) (hl : B.L.length < 4096) {t : List UInt8} (ht : t.length ≤ 1000000) : GoodT B (hashB B t) := by
  cases hs : B.sym with
  | true => rw [show hashB B t = B.tag (hashT t) by unfold hashB; rw [hs]; rfl]; exact tag_good hi hs hl (hashT_sz ht) (by show ¬ 1 = 4; decide)
  | false => rw [show hashB B t = (Sha.sum t, B) by unfold hashB; rw [hs]; rfl]; exact raw_good hi hs (sum_len t)
theorem mac_good {B : Bx.Box} (hi : BInv B) (hl : B.L.length < 4096) {k t : List UInt8} (hk : k.length ≤ 1000000) (ht : t.length ≤ 1000000) : GoodT B (macB B k t) := by
  cases hs : B.sym with
  | true => rw [show macB B k t = B.tag (macT k t) by unfold macB; rw [hs]; rfl]; exact tag_good hi hs hl (macT_sz hk ht) (by show ¬ 2 = 4; decide)
  | false => rw [show macB B k t = (hmL k t, B) by unfold macB; rw [hs]; rfl]; exact raw_good hi hs (hmL_len k t)
theorem str_good {B : Bx.Box} (hi : BInv B) (hl : B.L.length < 4096) {k t : List UInt8} {r : Nat} (hk : k.length ≤ 1000000) (ht : t.length ≤ 1000000) (hr : r ≤ 64) : GoodT B (strB B k t r) := by
  cases hs : B.sym with
  | true => rw [show strB B k t r = B.tag (strT k t r) by unfold strB; rw [hs]; rfl]; exact tag_good hi hs hl (strT_sz hk ht hr) (by show ¬ 3 = 4; decide)
  | false => rw [show strB B k t r = (stretchL k t r, B) by unfold strB; rw [hs]; rfl]; exact raw_good hi hs (strX_len _ _ _)
theorem turn_cases {B : Bx.Box} (hi : BInv B) (hl : B.L.length < 4096) (s t : List UInt8) : turnB B s t = (none, B) ∨ ∃ h B', turnB B s t = (some h, B') ∧ GoodT B (h, B') := by
  cases h1 : B.opens s with
  | none => exact .inl (turnB_none1 h1)
  | some p =>
    cases h2 : B.opens t with
    | none => exact .inl (turnB_none2 h2)
    | some q =>
      obtain ⟨h, B', e1, e2, e3, e4⟩ := turn_ext hi hl h1 h2
      exact .inr ⟨h, B', e1, e2, e3, _, e4⟩
structure OpA where
  d : UInt8
  p : Int
  q : Int
  K : Option Addr
  key : List UInt8
  cK : Nat
  X : Option Addr
  text : List UInt8
  cX : Nat
  r : Int
  raw : Bool
def OpA.cells (o : OpA) : List Value := [.int .u8 o.d.toNat, .int .i64 o.p, .int .i64 o.q, .slice o.K o.key.length o.cK, .slice o.X o.text.length o.cX, .int .i64 o.r, .bool o.raw]
def OpA.sl (o : OpA) : List SL := o.cells.map SL.v
structure TOk (B : Bx.Box) (ts : List Part) : Prop where
  inv : BInv B
  n : ts.length ≤ 1000
  tg : ∀ p ∈ ts, p.2.1.length = 32 ∧ ∃ r, B.opens p.2.1 = some r
structure Lo (B : Bx.Box) (y z : Lay) : Prop where
  y : y.ts.map (·.1) = B.L
  z : z.ts.map (·.1) = B.L
def OpA.ok (w : World) (o : OpA) : Prop := (Bs w o.K o.key ∧ o.key.length ≤ o.cK) ∧ (Bs w o.X o.text ∧ o.text.length ≤ o.cX)
structure LS where
  k : Nat
  B : Bx.Box
  y : Lay
  z : Lay
  T : Option Addr
  c : Nat
  ts : List Part
structure LS.Ok (i : LS) (n m : Nat) : Prop where
  k : i.k ≤ n
  lo : Lo i.B i.y i.z
  ok : TOk i.B i.ts
  bl : i.B.L.length ≤ min i.k m
  tl : i.ts.length ≤ min i.k m
def LS.start (sym : Bool) (y0 : Lay) : LS := ⟨0, ⟨sym, false, []⟩, y0, ⟨none, 0, 0, []⟩, none, 0, []⟩
theorem LS.Ok.next {i : LS} {n m : Nat} (h : i.Ok n m) (hk : i.k < n) (hm : i.k < m) {B' : Bx.Box} {y z : Lay} {T : Option Addr} {c : Nat} {ts' : List Part} (he : Ext i.B B') (hl : Lo B' y z) (ho : TOk B' ts') (ht : ts'.length ≤ i.ts.length + 1) : (LS.mk (i.k + 1) B' y z T c ts').Ok n m := by
  have h1 := h.bl
  have h2 := h.tl
  have h3 := he.len
  exact ⟨hk, hl, ho, by show B'.L.length ≤ min (i.k + 1) m; omega, by show ts'.length ≤ min (i.k + 1) m; omega⟩
theorem lenX_c (w : World) (b : Nat) (B : Bx.Box) (y : Lay) (hb : (bxF b B y).p w) (hbD : ∀ k, (bxF b B y).D k → k < w.heap.size) : Pu Tryz.prog n_box_Box_Len #[ptrB b] w (.int .i64 (B.L.length : Int)) := by
  have g := good_box_Box_Len w (Un [])
  refine con_of_sx (cx := cx_box_Box_Len w (Un [])) g b_box_Box_Len rfl rfl (β := Va.z) [.c (.v (ptrB b))] 0 [] [oldF w] rfl rfl (old_sat rfl) ?_
  refine ⟨.slice y.A B.L.length y.c, fun β w' hs => box_cell (bx_bk (fact_old hb hbD (hs.get 0 rfl))) (o := 2) rfl, ?_⟩
  intro β w' hs
  exact hs.fin [] ⟨rfl, rfl⟩
theorem symX_c (w : World) (b : Nat) (B : Bx.Box) (y : Lay) (hb : (bxF b B y).p w) (hbD : ∀ k, (bxF b B y).D k → k < w.heap.size) : Pu Tryz.prog n_box_Box_Symbolic #[ptrB b] w (.bool B.sym) := by
  have g := good_box_Box_Symbolic w (Un [])
  refine con_of_sx (cx := cx_box_Box_Symbolic w (Un [])) g b_box_Box_Symbolic rfl rfl (β := Va.z) [.c (.v (ptrB b))] 0 [] [oldF w] rfl rfl (old_sat rfl) ?_
  refine ⟨.bool B.sym, fun β w' hs => box_cell (bx_bk (fact_old hb hbD (hs.get 0 rfl))) (o := 0) rfl, ?_⟩
  intro β w' hs
  exact hs.fin [] ⟨rfl, rfl⟩
theorem tri_know {cx : Cx} {n : Nat} {env : Env} {H : List Bk} {F : List Fact} {c : Code} {Q : Exit → KT} {p : Prop} (h : ∀ β w, Sat cx β n H F w → p) (k : p → Tri cx c Q n env H F) : Tri cx c Q n env H F :=
  ⟨fun β a w hi => (k (h β w hi.sat)).run β a w hi⟩
theorem row_cap {e size n c : Nat} {A : Option Addr} {xs : List Value} {w : World} (h : (rowF e size (.slice A n c) n xs).p w) : n ≤ c := by
  rcases h.2 with ⟨_, h0⟩ | ⟨g, cap, cur, he, _, _, hnc, _⟩
  · omega
  · injection he with _ _ h3
    omega
theorem elem6 {w : World} {A : Option Addr} {ad : Addr} {n : Nat} {ts : List (Bx.Term × TA)} (h : Rd 6 A n (termsV ts) w) (hn : ts.length = n) (hA : A = some ad) {k : Nat} {q : Bx.Term × TA} (hq : ts[k]? = some q) : ∀ j u, (termV q.1 q.2)[j]? = some u → w.cell? ((ad.add (k * 6)).add j) = some u := by
  subst hn
  obtain ⟨hil, hie⟩ := List.getElem?_eq_some_iff.1 hq
  have h2 := Rd.elem (f := fun p : Bx.Term × TA => termV p.1 p.2) (fun _ => rfl) h hA hil
  rw [hie] at h2
  exact h2
end Go.Proofs.YtoifclfanabalaaGreatDoor.Sx
