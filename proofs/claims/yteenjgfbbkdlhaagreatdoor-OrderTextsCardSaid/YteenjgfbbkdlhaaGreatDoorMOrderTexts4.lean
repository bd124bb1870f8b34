/- Texts joined: SxIter, KyI, ColI, SrU, SrU2, FmU, RgL, Bk2, Bk3, Bk4, Bk5, Bk6, Bk7, Bk8, Bk9, RgK, MpI, StepG, SumJ, HmL, Rep, Rep2, RoF, Hm1, Srt, Xor, Hm2, Hm3, Hsh, Hsh2, Hsh3, Mac, Pie, Pie2, Str, Trn, Turn, Ak5, Ak6, BxP, Rf5, Rt1, Rt2, Rt3, Rt4, Rt5, Tl2, Tl3, TlG, BxL, RgR, TrR, RgN, RgW, RgS, RgV, RgD, Rg0, Rg1, Kn1, RgP, RgS2, DkN. -/
import Derived.Test.YteenjgfbbkdlhaaGreatDoorMOrderTexts3
import Derived.Test.YteenjgfbbkdlhaaGreatDoorMOrderTexts2
import Derived.Maps.RangeRun
import Derived.Lib.SlParts
import Derived.Lib.SlFresh
import Derived.Lib.MakeNoZero
import Derived.Laws.Externs
import Derived.Sort.OwnSortedInts
set_option linter.unusedVariables false
set_option linter.unusedSimpArgs false
namespace Go.Proofs.YteenjgfbbkdlhaaGreatDoor.Sx
open Go
open Go.ChangeMaps (setBlock)
variable {kk : IntKind}
def itIP (kk : IntKind) (b r : Nat) (l ss : MLI) (cur : Option (Int × Value)) (w : World) : Prop :=
  ∃ (es ds : List MEI) (k since c0 : Nat) (seen : Array Nat), w.heap[b]? = some (.map (es.map (MEI.ent kk)).toArray k) ∧ MapIOk es k l ∧ w.heap[r]? = some (.mapIter (some b) since seen c0) ∧ r ≠ b ∧ (∀ e ∈ es, e.2.2 < since) ∧ since ≤ c0 ∧ since ≤ k ∧
    ds.map MEI.cut = ss ∧ seen.toList = ds.map (·.2.2) ∧ (∀ d ∈ ds, d ∈ es) ∧ (ds.map (·.2.2)).Nodup ∧
    ∀ x, cur = some x → ∃ (d : MEI) (s0 : Array Nat), d ∈ es ∧ d.cut = x ∧ seen = s0.push d.2.2 ∧ c0 = k
def itIF (kk : IntKind) (b r : Nat) (l ss : MLI) (cur : Option (Int × Value)) : Fact where
  own := true
  D := fun g => g = b ∨ g = r
  p := itIP kk b r l ss cur
  st := fun w w' hs ⟨es, ds, k, since, c0, seen, h1, h2, h3, h4⟩ => ⟨es, ds, k, since, c0, seen, by rw [hs b (.inl rfl)]; exact h1, h2, by rw [hs r (.inr rfl)]; exact h3, h4⟩
theorem born_inj {es : List MEI} {k : Nat} {l : MLI} (h : MapIOk es k l) {d e : MEI} (hd : d ∈ es) (he : e ∈ es) (q : d.2.2 = e.2.2) : d = e := by
  have hp := List.pairwise_map.1 h.inc
  clear h
  induction es with
  | nil => cases hd
  | cons a r ih =>
    obtain ⟨h1, h2⟩ := List.pairwise_cons.1 hp
    rcases List.mem_cons.1 hd with rfl | hd'
    · rcases List.mem_cons.1 he with rfl | he'
      · rfl
      · have := h1 e he'
        omega
    · rcases List.mem_cons.1 he with rfl | he'
      · have := h1 d hd'
        omega
      · exact ih hd' he' h2
theorem born_nodup {es : List MEI} {k : Nat} {l : MLI} (h : MapIOk es k l) : (es.map (·.2.2)).Nodup := h.inc.imp fun h => Nat.ne_of_lt h
theorem nodup_len : ∀ {xs ys : List Nat}, xs.Nodup → (∀ x ∈ xs, x ∈ ys) → xs.length ≤ ys.length
  | [], _, _, _ => Nat.zero_le _
  | x :: r, ys, hn, hs => by
    obtain ⟨h1, h2⟩ := List.nodup_cons.1 hn
    have hx := hs x (by simp)
    have ih := nodup_len (xs := r) (ys := ys.erase x) h2 fun y hy => (List.mem_erase_of_ne (fun q : y = x => h1 (q ▸ hy))).2 (hs y (by simp [hy]))
    have hl := List.length_erase_of_mem hx
    have hp := List.length_pos_of_mem hx
    simp only [List.length_cons]
    omega
def nxtV (kk : IntKind) : Option (Int × Value) → Value
  | none => .tuple #[.bool false]
  | some x => .tuple #[.bool true, .int kk x.1, x.2]
def NxtI (l ss : MLI) : Option (Int × Value) → Prop
  | none => ss.Perm l
  | some x => x ∈ l ∧ ss.length < l.length
def nxtF (kk : IntKind) (b r : Nat) (l ss : MLI) (cur : Option (Int × Value)) : Option (Int × Value) → Fact
  | none => itIF kk b r l ss cur
  | some x => itIF kk b r l (ss ++ [x]) (some x)
theorem perm_of {es ds : List MEI} (h1 : (es.map (·.2.2)).Nodup) (h2 : (ds.map (·.2.2)).Nodup) (hs : ∀ d ∈ ds, d ∈ es) (ha : ∀ e ∈ es, e ∈ ds) : ds.Perm es := by
  have n1 : es.Nodup := (List.pairwise_map.1 h1).imp fun {a b} q e => q (by rw [e])
  have n2 : ds.Nodup := (List.pairwise_map.1 h2).imp fun {a b} q e => q (by rw [e])
  exact (List.perm_ext_iff_of_nodup n2 n1).2 fun x => ⟨hs x, ha x⟩
section
variable {cx : Cx} {β : Va} {n : Nat} {H : List Bk} {F : List Fact} {w : World}
theorem Sat.rangeI (h : Sat cx β n H F w) (g : Good cx) (j : Nat) {b : Nat} {l : MLI} (hj : nth F j = some (mapIF kk b l)) {t kt et : TypeId} {i : TI} (hi : lk cx.tt t = some i := by rfl) (hd : i.desc = .map kt et := by rfl) :
    ∃ r w', (Instr.range t (.map (some b))).run cx.P w = .ok (.pointer (some ⟨r, 0, none⟩)) w' ∧ Sat cx β n H (putAt F j (itIF kk b r l [] none)) w' := by
  obtain ⟨es, k, hb, hm⟩ := h.get j hj
  have hlt : b < w.heap.size := (Array.getElem?_eq_some_iff.1 hb).1
  refine ⟨w.heap.size, _, run_range_map w t kt et b _ k ((g.ti hi).real (d := .map _ _) hd rfl) hb, h.upd hj rfl ((Chg.alloc w _).mono fun _ _ h => h.elim) ⟨es, [], k, k, k, #[], ?_, hm, heap_alloc_new w _, by omega, hm.lt, Nat.le_refl _, Nat.le_refl _, rfl, rfl, (fun d h => by cases h), List.nodup_nil, fun x h => by cases h⟩ (fun q hq => ?_)⟩
  · exact ((MapKept.heap_alloc w _).2 b hlt).trans hb
  · rcases hq with rfl | rfl
    · exact .inl rfl
    · exact .inr ⟨Nat.le_refl _, by simp⟩
theorem Sat.nextI (h : Sat cx β n H F w) (j : Nat) {b r : Nat} {l ss : MLI} {cur : Option (Int × Value)} (hj : nth F j = some (itIF kk b r l ss cur)) (ty : TypeId) :
    ∃ (o : {o : Option (Int × Value) // NxtI l ss o}) (w' : World), (Instr.next (.pointer (some ⟨r, 0, none⟩)) false ty).run cx.P w = .ok (nxtV kk o.1) w' ∧ Sat cx β n H (putAt F j (nxtF kk b r l ss cur o.1)) w' := by
  have hp := h.get j hj
  obtain ⟨es, ds, k, since, c0, seen, hb, hm, hr, hne, hold, hsc, hsk, hss, hseen, hsub, hnd, hcur⟩ := hp
  have hold' : ∀ x ∈ (es.map (MEI.ent kk)).toArray.toList, x.born < since := by
    intro x hx
    rw [List.toList_toArray] at hx
    obtain ⟨e, he, rfl⟩ := List.mem_map.1 hx
    exact hold e he
  have hin : ∀ e ∈ es, seen.contains e.2.2 = true → e ∈ ds := by
    intro e he q
    have q2 : e.2.2 ∈ ds.map (·.2.2) := by rw [← hseen]; simpa using q
    obtain ⟨d, hd, e2⟩ := List.mem_map.1 q2
    rwa [← born_inj hm (hsub d hd) he e2]
  rcases run_next_at (P := cx.P) w ty r b since c0 seen _ k hr hb hold' hsc with ⟨h0, hrun⟩ | ⟨e, he, w1, hal, hrun⟩
  · have hall : ∀ e ∈ es, e ∈ ds := by
      intro e he
      refine hin e he ?_
      cases q : seen.contains e.2.2 with
      | true => rfl
      | false =>
        have : (MEI.ent kk e) ∈ leftOf (es.map (MEI.ent kk)).toArray seen := by
          unfold leftOf
          rw [Array.mem_filter]
          exact ⟨by rw [List.mem_toArray]; exact List.mem_map.2 ⟨e, he, rfl⟩, by show (!seen.contains e.2.2) = true; rw [q]; rfl⟩
        have e0 := Array.eq_empty_of_size_eq_zero h0
        rw [e0] at this
        simp at this
    have hperm : ss.Perm l := by
      rw [← hss, ← hm.cut]
      exact (perm_of (born_nodup hm) hnd hsub hall).map _
    refine ⟨⟨none, hperm⟩, w, hrun, ?_⟩
    show Sat cx β n H (putAt F j (itIF kk b r l ss cur)) w
    exact h.upd hj rfl (Chg.refl _ _) (h.get j hj) (fun q hq => .inl hq)
  · unfold leftOf at he
    rw [Array.mem_toList_iff, Array.mem_filter] at he
    obtain ⟨he1, he2⟩ := he
    obtain ⟨d, hd, rfl⟩ : ∃ d ∈ es, MEI.ent kk d = e := by simpa using he1
    have hns : ¬ seen.contains d.2.2 = true := by
      intro q
      have q2 : (!seen.contains d.2.2) = true := he2
      rw [q] at q2
      cases q2
    have hnd2 : d ∉ ds := fun q => hns (by
      have : d.2.2 ∈ seen.toList := by rw [hseen]; exact List.mem_map.2 ⟨d, q, rfl⟩
      simpa using this)
    have hlen : ss.length < l.length := by
      have hx := nodup_len (xs := d.2.2 :: ds.map (·.2.2)) (ys := es.map (·.2.2)) (List.nodup_cons.2 ⟨fun q => ?_, hnd⟩) (fun x hx => ?_)
      · rw [← hss, ← hm.cut, List.length_map, List.length_map]
        simp only [List.length_cons, List.length_map] at hx
        omega
      · obtain ⟨d', hd', e2⟩ := List.mem_map.1 q
        rw [born_inj hm (hsub d' hd') hd e2] at hd'
        exact hnd2 hd'
      · rcases List.mem_cons.1 hx with rfl | hx
        · exact List.mem_map.2 ⟨d, hd, rfl⟩
        · obtain ⟨d', hd', rfl⟩ := List.mem_map.1 hx
          exact List.mem_map.2 ⟨d', hsub d' hd', rfl⟩
    have hmem : d.cut ∈ l := by rw [← hm.cut]; exact List.mem_map.2 ⟨d, hd, rfl⟩
    refine ⟨⟨some d.cut, hmem, hlen⟩, _, hrun, ?_⟩
    have hr1 : w1.heap[r]? = some (.mapIter (some b) since seen c0) := by rcases hal with rfl | rfl <;> exact hr
    have hb1 : w1.heap[b]? = some (.map (es.map (MEI.ent kk)).toArray k) := by rcases hal with rfl | rfl <;> exact hb
    have hset := MapKept.heap_set (o' := .mapIter (some b) since (seen.push d.2.2) k) hr1
    refine h.upd hj rfl ?_ ?_ (fun q hq => .inl hq)
    · rcases hal with rfl | rfl <;> exact ⟨rfl, rfl, rfl, by simp [setBlock], fun i _ hi => hset.2 i (fun e1 => hi (.inr e1))⟩
    · refine ⟨es, ds ++ [d], k, since, k, seen.push d.2.2, (hset.2 b (fun e1 => hne e1.symm)).trans hb1, hm, hset.1, hne, hold, hsk, hsk, ?_, ?_, ?_, ?_, ?_⟩
      · rw [List.map_append, hss]
        rfl
      · rw [Array.toList_push, hseen, List.map_append]
        rfl
      · intro x hx
        rcases List.mem_append.1 hx with hx | hx
        · exact hsub x hx
        · obtain rfl := List.mem_singleton.1 hx
          exact hd
      · rw [List.map_append]
        refine List.nodup_append.2 ⟨hnd, by simp, fun x hx y hy q => ?_⟩
        simp only [List.map_cons, List.map_nil, List.mem_singleton] at hy
        subst hy q
        rw [← hseen] at hx
        exact hns (by simpa using hx)
      · intro x hx
        cases hx
        exact ⟨d, seen, hd, rfl, rfl, rfl⟩
theorem Sat.entryI (h : Sat cx β n H F w) (j : Nat) {b r : Nat} {l ss : MLI} {x : Int × Value} (hj : nth F j = some (itIF kk b r l ss (some x))) :
    (Instr.entry (.pointer (some ⟨r, 0, none⟩))).run cx.P w = .ok (.tuple #[.int kk x.1, x.2]) w := by
  obtain ⟨es, ds, k, since, c0, seen, hb, hm, hr, hne, hold, hsc, hsk, hss, hseen, hsub, hnd, hcur⟩ := h.get j hj
  obtain ⟨d, s0, hd, rfl, rfl, rfl⟩ := hcur x rfl
  have hn : ((es.map (MEI.ent kk)).toArray.toList.map (·.born)).Nodup := by
    rw [List.toList_toArray, List.map_map]
    exact born_nodup hm
  exact run_entry_at w r b since s0 _ c0 (MEI.ent kk d) hr hb (by rw [List.toList_toArray]; exact List.mem_map.2 ⟨d, hd, rfl⟩) hn
end
end Go.Proofs.YteenjgfbbkdlhaaGreatDoor.Sx

namespace Go.Proofs.YteenjgfbbkdlhaaGreatDoor.Sx
open Go
attribute [local irreducible] Calls
theorem Sat.endI {cx : Cx} {β : Va} {n : Nat} {H : List Bk} {F : List Fact} {w : World} {kk : IntKind} (h : Sat cx β n H F w) (j : Nat) {b r : Nat} {l ss : MLI} {cur : Option (Int × Value)} (hj : nth F j = some (itIF kk b r l ss cur)) : Sat cx β n H (putAt F j (mapIF kk b l)) w := by
  obtain ⟨es, ds, k, since, c0, seen, hb, hm, _⟩ := h.get j hj
  exact h.upd hj rfl (Chg.refl _ _) ⟨es, k, hb, hm⟩ (fun q hq => .inl (.inl hq))
theorem Sat.emptyI {cx : Cx} {β : Va} {n : Nat} {H : List Bk} {F : List Fact} {w : World} {kk : IntKind} (h : Sat cx β n H F w) (j : Nat) {b : Nat} (hj : nth F j = some (mapF b [])) : Sat cx β n H (putAt F j (mapIF kk b [])) w := by
  obtain ⟨es, k, hb, hm⟩ := h.get j hj
  obtain rfl : es = [] := List.map_eq_nil_iff.1 hm.cut
  exact h.upd hj rfl (Chg.refl _ _) ⟨[], k, hb, rfl, List.Pairwise.nil, fun _ q => by cases q⟩ (fun q hq => .inl hq)
def insK (n : Nat) (pre : List Int) (x : Int) (args : Array Value) (X : Fact) : Prop := args = #[.int .u64 x] ∧ X = noF ∧ pre.length < n
theorem keysI_c (w : World) (mb : Option Nat) : Con Tryz.prog 115 #[.map mb] w [] fun v Fs => ∃ B, v = .func (.func 172) #[] #[.pointer (some ⟨B, 0, none⟩)] ∧ Fs = [bkF B ty_map_uint64_sl_uint8 [.map mb]] := by
  refine con_of_sx (cx := cx_maps_Keys_map_uint64_byte_uint64_byte w (Un [])) (good_maps_Keys_map_uint64_byte_uint64_byte w (Un [])) b_maps_Keys_map_uint64_byte_uint64_byte rfl rfl (β := Va.z) [.c (.v (.map mb))] 0 [] [] rfl rfl (Sat.start rfl) ?_
  intro β w' hs
  exact hs.ofBk.fin [0] ⟨β 0, rfl, rfl⟩
theorem keysI_it (l : Nat) (w : World) (bx b : Nat) (lm : MLI) (f0 R : Fact) (J Jx : List Int → Fact → Prop) (hJ0 : J [] f0) (hJo : ∀ pre f, J pre f → f.own = true) (hRo : R.own = false) (hY : Yc Tryz.prog l J Jx R (insK lm.length))
    (hm : Mem w (f0 :: R :: [bkF bx ty_map_uint64_sl_uint8 [.map (some b)], mapIF .u64 b lm])) :
    Con Tryz.prog 172 #[.func (.yield l) #[] #[], .pointer (some ⟨bx, 0, none⟩)] w [f0, bkF bx ty_map_uint64_sl_uint8 [.map (some b)], mapIF .u64 b lm]
      (fun _ Fs => ∃ f Fs', Fs = f :: Fs' ∧ ((∃ xs, J xs f ∧ xs.Perm (lm.map (·.1)) ∧ Fs' = [mapIF .u64 b lm]) ∨ (∃ pre, Jx pre f ∧ Fs' = [mapIF .u64 b lm]))) := by
  have g := good_maps_Keys_map_uint64_byte_uint64_byte_1 w (Un [f0, bkF bx ty_map_uint64_sl_uint8 [.map (some b)], mapIF .u64 b lm]) [bx]
  have hs0 : Sat (cx_maps_Keys_map_uint64_byte_uint64_byte_1 w (Un [f0, bkF bx ty_map_uint64_sl_uint8 [.map (some b)], mapIF .u64 b lm]) [bx]) (Va.of fun _ => bx) 1 [] (f0 :: R :: [bkF bx ty_map_uint64_sl_uint8 [.map (some b)], mapIF .u64 b lm]) w := by
    refine hm.sat rfl (fun f hf ho k hk => ?_) ⟨Nat.le_refl 1, fun i hi => by obtain rfl : i = 0 := Nat.lt_one_iff.1 hi; rfl⟩
    simp only [List.mem_cons, List.not_mem_nil, or_false] at hf
    rcases hf with rfl | rfl | rfl | rfl
    · exact ⟨_, by simp, hk⟩
    · rw [hRo] at ho; cases ho
    · exact ⟨bkF bx ty_map_uint64_sl_uint8 [.map (some b)], by simp, hk⟩
    · exact ⟨mapIF .u64 b lm, by simp, hk⟩
  have hs1 := hs0.toBk 2 rfl 0 Nat.zero_lt_one rfl
  refine con_of_sx (cx := cx_maps_Keys_map_uint64_byte_uint64_byte_1 w (Un [f0, bkF bx ty_map_uint64_sl_uint8 [.map (some b)], mapIF .u64 b lm]) [bx]) g b_maps_Keys_map_uint64_byte_uint64_byte_1 rfl rfl (β := Va.of fun _ => bx) [.c (.v (.func (.yield l) #[] #[])), .c (.p 0 0)] 1 _ _ rfl rfl hs1 ?_
  refine ⟨Nat, fun r => .pointer (some ⟨r, 0, none⟩), fun r => [f0, R, itIF .u64 b r lm [] none], fun β w' ty hs => hs.rangeI g 2 rfl, fun r => ?_⟩
  refine loop_rule (ι := MLI × Fact × Option (Int × Value)) 1 (fun _ => [(0, .c (.v (.func (.yield l) #[] #[]))), (1, .c (.p 0 0)), (5, .c (.v (.pointer (some ⟨r, 0, none⟩))))]) (fun _ => [⟨0, ty_map_uint64_sl_uint8, [.v (.map (some b))]⟩]) (fun i => [i.2.1, R, itIF .u64 b r lm i.1 i.2.2])
    (fun i => J (i.1.map (·.1)) i.2.1) (fun i => lm.length - i.1.length) ([], f0, none) hJ0 (Ent.same ⟨rfl, rfl, rfl, trivial⟩ rfl) g ?_
  rintro ⟨ss, f, cur⟩ hJ
  simp only at hJ
  have hfo := hJo _ _ hJ
  simp only
  refine ⟨{o : Option (Int × Value) // NxtI lm ss o}, fun o => nxtV .u64 o.1, fun o => [f, R, nxtF .u64 b r lm ss cur o.1], fun β w' ty hs => hs.nextI 2 rfl ty, ?_⟩
  rintro ⟨o, ho⟩
  cases o with
  | none =>
    have hperm : ss.Perm lm := ho
    intro β w' hs
    exact ((hs.endI 2 rfl).keepB (List.nil_sublist _)).fin [0, 2] ⟨f, _, rfl, .inl ⟨_, hJ, hperm.map _, rfl⟩⟩ rfl rfl rfl ⟨hfo, rfl, trivial⟩
  | some x =>
    have hlt : ss.length < lm.length := ho.2
    refine ⟨Unit, fun _ => .tuple #[.int .u64 x.1, x.2], fun _ => [f, R, itIF .u64 b r lm (ss ++ [x]) (some x)], fun β w' ty hs => ⟨(), w', hs.entryI 2 rfl, hs⟩, fun _ => ?_⟩
    refine yield_ro (X := noF) (x := x.1) hY 0 1 rfl hJ hfo rfl hRo (by decide) (fun β => ⟨rfl, rfl, by rw [List.length_map]; exact hlt⟩) rfl (fun β w _ => ⟨trivial, fun k hk => hk.elim, fun k _ h => h.elim⟩) ?_ ?_
    · intro f2 hfo2 hJ2
      refine ⟨(ss ++ [x], f2, some x), by show J ((ss ++ [x]).map (·.1)) f2; rw [List.map_append]; exact hJ2, by show lm.length - (ss ++ [x]).length < lm.length - ss.length; rw [List.length_append]; show lm.length - (ss.length + 1) < _; omega, Ent.same ⟨rfl, rfl, rfl, trivial⟩ rfl⟩
    · intro f2 hfo2 hJ2 β w' hs
      exact ((hs.endI 2 rfl).keepB (List.nil_sublist _)).fin [0, 2] ⟨f2, _, rfl, .inr ⟨_, hJ2, rfl⟩⟩ rfl rfl rfl ⟨hfo2, rfl, trivial⟩
abbrev urowF (A : Option Addr) (l : List Int) (c : Nat) : Fact := rowF ty_uint64 1 (.slice A l.length c) l.length (l.map (Value.int .u64))
structure ColN where
  A : Option Addr
  c : Nat
  l : List Int
def GivesN (k : FuncId) (bx : Nat) (ty : TypeId) (cs : List Value) (G G' : Fact) (n : Nat) (P : List Int → Prop) : Prop :=
  ∀ (l : Nat) (w : World) (f0 R : Fact) (J Jx : List Int → Fact → Prop), J [] f0 → (∀ pre f, J pre f → f.own = true) → R.own = false → Yc Tryz.prog l J Jx R (insK n) → Mem w (f0 :: R :: [bkF bx ty cs, G]) →
    Con Tryz.prog k #[.func (.yield l) #[] #[], .pointer (some ⟨bx, 0, none⟩)] w [f0, bkF bx ty cs, G] (fun _ Fs => ∃ f Fs', Fs = f :: Fs' ∧ ((∃ xs, J xs f ∧ P xs ∧ Fs' = [G']) ∨ (∃ pre, Jx pre f ∧ Fs' = [G'])))
theorem appendN_c (w : World) (k : FuncId) (bx : Nat) (ty : TypeId) (cs : List Value) (G G' : Fact) (n : Nat) (P : List Int → Prop) (hcall : callable Tryz.prog k = true) (hG : G.own = true) (hG' : G'.own = true) (hn : n ≤ 1000) (hg : GivesN k bx ty cs G G' n P) (hm : Mem w [bkF bx ty cs, G]) :
    Con Tryz.prog 209 #[.slice none 0 0, .func (.func k) #[] #[.pointer (some ⟨bx, 0, none⟩)]] w [bkF bx ty cs, G] fun v Fs => ∃ A c l, v = .slice A l.length c ∧ P l ∧ l.length ≤ n ∧ (0 < l.length → ∃ ad, A = some ad) ∧ Fs = [urowF A l c, G'] := by
  have g := good_slices_AppendSeq_uint64_uint64 w (Un [bkF bx ty cs, G])
  have hml := maxLen_eq
  have hs0 : Sat (cx_slices_AppendSeq_uint64_uint64 w (Un [bkF bx ty cs, G])) Va.z 0 [] [bkF bx ty cs, G] w := hm.sat0 rfl (fun f hf _ k hk => ⟨f, hf, hk⟩)
  refine con_of_sx (cx := cx_slices_AppendSeq_uint64_uint64 w (Un [bkF bx ty cs, G])) g b_slices_AppendSeq_uint64_uint64 rfl rfl (β := Va.z) [.c (.v (.slice none 0 0)), .c (.v (.func (.func k) #[] #[.pointer (some ⟨bx, 0, none⟩)]))] 0 [] _ rfl rfl hs0 ?_
  refine range_rule (α := Int) (ι := ColN) (κ := Unit) g rfl (cv := [.pointer (some ⟨bx, 0, none⟩)]) rfl hcall 1 (Nat.le_refl 1)
    (fun pre i => i.l = pre ∧ pre.length ≤ n ∧ (0 < i.l.length → ∃ ad, i.A = some ad)) (fun i => [⟨0, ty_sl_uint64, [.v (.slice i.A i.l.length i.c)]⟩]) (fun i => [urowF i.A i.l i.c]) (fun i => ⟨rfl, trivial⟩)
    (fun _ _ _ => False) (fun _ => []) (fun _ => []) (fun _ => trivial)
    [bkF bx ty cs, G] [] [] ⟨rfl, hG, trivial⟩ (fun g h => by cases h) ⟨none, 0, []⟩ ⟨rfl, Nat.zero_le _, fun h => absurd h (by decide)⟩
    (fun β w hs => ⟨β, Agr.refl _ _, (hs.nilRow ty_uint64 1).perm [1, 2, 0]⟩) (insK n)
    (fun xs Fs' => P xs ∧ Fs' = [G']) (fun _ Fs' => Fs' = [G'])
    (fun l w f0 R J Jx hJ0 hJo hRo hY hm => (hg l w f0 R J Jx hJ0 hJo hRo hY hm).mono fun _ Fs h => h) ?_ ?_ ?_
  · rintro ⟨A, c, l⟩ pre x args X W S' lb bs pn pn' hbs ⟨rfl, hlen, hA⟩ ⟨rfl, rfl, hx⟩
    simp only at hA
    have hx0 : l.length < n := hx
    refine ⟨_, rfl, ?_⟩
    intro b2
    refine ⟨2, l.length, (l ++ [x]).length, l.map (Value.int .u64), [Value.int .u64 x], (l ++ [x]).map (Value.int .u64), rfl, fun β w hs => row_rd (hs.get 0 rfl), fun u hu => by obtain rfl := List.mem_singleton.1 hu; rfl, by simp, by simp, by rw [List.length_append, hml]; show l.length + 1 ≤ _; omega, by rw [List.length_append]; show (l.length + 1) * 8 ≤ _; omega, ?_⟩
    intro A' c' h1 h2 h3
    have e1 : (l ++ [x]).length = l.length + 1 := by rw [List.length_append]; rfl
    refine ⟨⟨A', c', l ++ [x]⟩, ⟨rfl, by rw [e1]; omega, fun _ => ?_⟩, Ent.mk' trivial rfl (fun β w hs => hs.perm [2])⟩
    cases A' with
    | none => exact absurd (h3 rfl).2 (by decide)
    | some ad => exact ⟨ad, rfl⟩
  · rintro xs ⟨A, c, l⟩ Fs ⟨rfl, hlen, hA⟩ ⟨hP, rfl⟩
    simp only at hA
    intro β w' hs
    exact (hs.keepB (List.nil_sublist _)).fin [1, 0] ⟨A, c, l, rfl, hP, hlen, hA, rfl⟩ rfl rfl rfl ⟨rfl, hG', trivial⟩
  · rintro e pre j Fs ⟨⟩
theorem collectN_c (w : World) (k : FuncId) (bx : Nat) (ty : TypeId) (cs : List Value) (G G' : Fact) (n : Nat) (P : List Int → Prop) (hcall : callable Tryz.prog k = true) (hG : G.own = true) (hG' : G'.own = true) (hn : n ≤ 1000) (hg : GivesN k bx ty cs G G' n P) (hm : Mem w [bkF bx ty cs, G]) :
    Con Tryz.prog 170 #[.func (.func k) #[] #[.pointer (some ⟨bx, 0, none⟩)]] w [bkF bx ty cs, G] fun v Fs => ∃ A c l, v = .slice A l.length c ∧ P l ∧ l.length ≤ n ∧ (0 < l.length → ∃ ad, A = some ad) ∧ Fs = [urowF A l c, G'] := by
  have g := good_slices_Collect_uint64 w (Un [bkF bx ty cs, G])
  have hs0 : Sat (cx_slices_Collect_uint64 w (Un [bkF bx ty cs, G])) Va.z 0 [] [bkF bx ty cs, G] w := hm.sat0 rfl (fun f hf _ k hk => ⟨f, hf, hk⟩)
  refine con_of_sx (cx := cx_slices_Collect_uint64 w (Un [bkF bx ty cs, G])) g b_slices_Collect_uint64 rfl rfl (β := Va.z) [.c (.v (.func (.func k) #[] #[.pointer (some ⟨bx, 0, none⟩)]))] 0 [] _ rfl rfl hs0 ?_
  refine call_con [0, 1] (hown := ⟨rfl, hG, trivial⟩) (fun β w' hs => appendN_c w' k bx ty cs G G' n P hcall hG hG' hn hg (hs.mem.take (js := [0, 1]) rfl)) ?_
  rintro v Fs ⟨A, c, l, rfl, hP, hlen, hA, rfl⟩
  intro β w' hs
  exact hs.fin [0, 1] ⟨A, c, l, rfl, hP, hlen, hA, rfl⟩ rfl rfl rfl ⟨rfl, hG', trivial⟩
theorem keysI_gives (bx b : Nat) (lm : MLI) : GivesN 172 bx ty_map_uint64_sl_uint8 [.map (some b)] (mapIF .u64 b lm) (mapIF .u64 b lm) lm.length (fun xs => xs.Perm (lm.map (·.1))) :=
  fun l w f0 R J Jx hJ0 hJo hRo hY hm => keysI_it l w bx b lm f0 R J Jx hJ0 hJo hRo hY hm
theorem isNaNU_c (w : World) (x : Int) : Pu Tryz.prog n_cmp_isNaN_uint64 #[.int .u64 x] w (.bool false) := by
  have g := good_cmp_isNaN_uint64 w (Un [])
  refine con_of_sx (cx := cx_cmp_isNaN_uint64 w (Un [])) g b_cmp_isNaN_uint64 rfl rfl (β := Va.z) [.c (.v (.int .u64 x))] 0 [] [] rfl rfl (Sat.start rfl) ?_
  intro β w' hs
  refine hs.fin [] ⟨?_, rfl⟩
  show Value.bool (!decide (x = x)) = _
  simp
theorem lessU_c (w : World) (x y : Int) : Pu Tryz.prog n_cmp_Less_uint64 #[.int .u64 x, .int .u64 y] w (.bool (decide (x < y))) := by
  have g := good_cmp_Less_uint64 w (Un [])
  refine con_of_sx (cx := cx_cmp_Less_uint64 w (Un [])) g b_cmp_Less_uint64 rfl rfl (β := Va.z) [.c (.v (.int .u64 x)), .c (.v (.int .u64 y))] 0 [] [] rfl rfl (Sat.start rfl) ?_
  refine call_pu (fun β w' hs => isNaNU_c w' x) ?_
  intro β w' hs
  exact hs.fin [] ⟨rfl, rfl⟩
def at0 (l : List Int) (q : Nat) : Int := l.getD q 0
def sw (l : List Int) (j : Nat) : List Int := (l.set j (at0 l (j - 1))).set (j - 1) (at0 l j)
theorem at0_some {l : List Int} {q : Nat} (h : q < l.length) : l[q]? = some (at0 l q) := by
  simp [at0, List.getD, h]
theorem sw_len (l : List Int) (j : Nat) : (sw l j).length = l.length := by simp [sw]
theorem sw_get {l : List Int} {j : Nat} (h1 : 1 ≤ j) (h2 : j < l.length) (q : Nat) : at0 (sw l j) q = if q = j - 1 then at0 l j else if q = j then at0 l (j - 1) else at0 l q := by
  unfold sw at0
  simp only [List.getD_eq_getElem?_getD, List.getElem?_set, List.length_set]
  by_cases a : j - 1 = q
  · have a' : q = j - 1 := a.symm
    rw [if_pos a, if_pos (by omega), if_pos a']
    rfl
  · have a' : ¬ q = j - 1 := fun e => a e.symm
    rw [if_neg a, if_neg a']
    by_cases b : j = q
    · have b' : q = j := b.symm
      rw [if_pos b, if_pos h2, if_pos b']
      rfl
    · have b' : ¬ q = j := fun e => b e.symm
      rw [if_neg b, if_neg b']
theorem sw_perm {l : List Int} {j : Nat} (h1 : 1 ≤ j) (h2 : j < l.length) : (sw l j).Perm l := by
  have e1 : at0 l (j - 1) = l[j - 1]'(by omega) := by simp [at0, List.getD, List.getElem?_eq_getElem (show j - 1 < l.length by omega)]
  have e2 : at0 l j = l[j] := by simp [at0, List.getD, List.getElem?_eq_getElem h2]
  unfold sw
  rw [e1, e2]
  exact List.set_set_perm h2 (by omega)
def But (l : List Int) (i j : Nat) : Prop := ∀ p q, p < q → q ≤ i → q ≠ j → at0 l p ≤ at0 l q
def Upto (l : List Int) (i : Nat) : Prop := ∀ p q, p < q → q < i → at0 l p ≤ at0 l q
theorem But.start {l : List Int} {i : Nat} (h : Upto l i) : But l i i := fun p q h1 h2 h3 => h p q h1 (by omega)
theorem But.swap {l : List Int} {i j : Nat} (h : But l i j) (h1 : 1 ≤ j) (h2 : j ≤ i) (h3 : i < l.length) (hlt : at0 l j < at0 l (j - 1)) : But (sw l j) i (j - 1) := by
  intro p q hpq hq hne
  rw [sw_get h1 (by omega), sw_get h1 (by omega), if_neg hne]
  by_cases b : q = j
  · subst b
    rw [if_pos rfl]
    by_cases a : p = q - 1
    · rw [if_pos a]
      omega
    · rw [if_neg a, if_neg (by omega)]
      exact h p (q - 1) (by omega) (by omega) (by omega)
  · rw [if_neg b]
    by_cases a : p = j - 1
    · rw [if_pos a]
      exact h j q (by omega) hq b
    · rw [if_neg a]
      by_cases c : p = j
      · rw [if_pos c]
        exact h (j - 1) q (by omega) hq b
      · rw [if_neg c]
        exact h p q hpq hq b
theorem But.done {l : List Int} {i j : Nat} (h : But l i j) (h2 : j ≤ i) (hj : 1 ≤ j → ¬ at0 l j < at0 l (j - 1)) : Upto l (i + 1) := by
  intro p q hpq hq
  by_cases b : q = j
  · subst b
    have h3 := hj (by omega)
    by_cases a : p = q - 1
    · subst a
      omega
    · have := h p (q - 1) (by omega) (by omega) (by omega)
      omega
  · exact h p q hpq (by omega) b
theorem uset (l : List Int) (j : Nat) (x : Int) : putAll (l.map (Value.int .u64)) (j * 1) [.int .u64 x] = (l.set j x).map (Value.int .u64) := by
  rw [putAll, putAll, putAt_eq, Nat.mul_one, List.map_set]
theorem insU_c (w : World) (A : Option Addr) (l : List Int) (c : Nat) (hl : l.length ≤ 12) (hm : Mem w [urowF A l c]) :
    Con Tryz.prog n_slices_insertionSortOrdered_uint64 #[.slice A l.length c, .int .i64 0, .int .i64 (l.length : Int)] w [urowF A l c] fun v Fs => v = .tuple #[] ∧ ∃ l', l'.Perm l ∧ Upto l' l.length ∧ Fs = [urowF A l' c] := by
  have g := good_slices_insertionSortOrdered_uint64 w (Un [urowF A l c])
  have hs0 : Sat (cx_slices_insertionSortOrdered_uint64 w (Un [urowF A l c])) Va.z 0 [] [urowF A l c] w := hm.sat0 rfl (fun f hf _ k hk => ⟨f, hf, hk⟩)
  have hA : 0 < l.length → ∃ g0, A = some ⟨g0, 0, none⟩ := fun h => by
    have ho : w.ownsRow 0 ty_uint64 1 (.slice A l.length c) l.length (l.map (Value.int .u64)) := hm.fact _ List.mem_cons_self
    rcases ho.2 with ⟨_, h0⟩ | ⟨g0, cap, cur, hv, _⟩
    · exact absurd h0 (by omega)
    · injection hv with q _ _
      exact ⟨g0, q⟩
  obtain ⟨N, hN⟩ : ∃ N, l.length = N := ⟨_, rfl⟩
  rw [hN] at hl hA ⊢
  refine con_of_sx (cx := cx_slices_insertionSortOrdered_uint64 w (Un [urowF A l c])) g b_slices_insertionSortOrdered_uint64 rfl rfl (β := Va.z) [.c (.v (.slice A N c)), .c (.v (.int .i64 0)), .c (.v (.int .i64 (N : Int)))] 0 [] _ rfl rfl hs0 ?_
  refine ⟨1, rfl, ?_⟩
  refine loop_rule (ι := List Int × Nat) 0 (fun i => [(0, .c (.v (.slice A N c))), (1, .c (.v (.int .i64 0))), (2, .c (.v (.int .i64 (N : Int)))), (6, .c (.v (.int .i64 (i.2 : Int))))]) (fun _ => []) (fun i => [urowF A i.1 c])
    (fun i => i.1.Perm l ∧ 1 ≤ i.2 ∧ Upto i.1 i.2 ∧ i.2 ≤ N + 1) (fun i => N + 1 - i.2) (l, 1) ⟨List.Perm.refl _, Nat.le_refl _, fun p q h1 h2 => by omega, by omega⟩ (Ent.same ⟨rfl, rfl, rfl, rfl, trivial⟩ rfl) g ?_
  rintro ⟨xs, i⟩ ⟨hp, hi1, hu, hiN⟩
  simp only at hp hi1 hu hiN
  have hxl : xs.length = N := by rw [hp.length_eq, hN]
  refine BIf.dec (fun hlt => ?_) (fun hge => ?_)
  · have hlt0 : (i : Int) < N := hlt
    have hiN2 : i < N := by omega
    obtain ⟨g0, rfl⟩ := hA (by omega)
    refine loop_rule (ι := List Int × Nat) 0 (fun y => [(0, .c (.v (.slice (some ⟨g0, 0, none⟩) N c))), (1, .c (.v (.int .i64 0))), (2, .c (.v (.int .i64 (N : Int)))), (6, .c (.v (.int .i64 (i : Int)))), (7, .c (.v (.int .i64 (y.2 : Int))))]) (fun _ => []) (fun y => [urowF (some ⟨g0, 0, none⟩) y.1 c])
      (fun y => y.1.Perm l ∧ But y.1 i y.2 ∧ y.2 ≤ i) (fun y => y.2) (xs, i) ⟨hp, But.start hu, Nat.le_refl _⟩ (Ent.same ⟨rfl, rfl, rfl, rfl, rfl, trivial⟩ rfl) g ?_
    rintro ⟨ys, j⟩ ⟨hyp, hb, hji⟩
    simp only at hyp hb hji
    have hyl : ys.length = N := by rw [hyp.length_eq, hN]
    refine draw_rule g p_slices_insertionSortOrdered_uint64_4 (by kernel_rfl) _ _ Sub.refl ?_
    have hcell : ∀ q, q < N → ∀ {cx : Cx} {β : Va} {w' : World} {n : Nat} {H : List Bk}, Sat cx β n H [urowF (some ⟨g0, 0, none⟩) ys c] w' → w'.cell? ((⟨g0, 0, none⟩ : Addr).add (q * 1)) = some (.int .u64 (at0 ys q)) := by
      intro q hq cx β w' n H hs
      have h := row_rd (hs.get 0 rfl)
      exact Rd.cell1 h (by rw [List.getElem?_map, at0_some (by omega)]; rfl)
    refine BIf.dec (fun hj => ?_) (fun hj => ?_)
    · have hj0 : (0 : Int) < j := hj
      refine ⟨⟨g0, 0, none⟩, j, rfl, rfl, by omega, .int .u64 (at0 ys j), fun β w' hs => hcell j (by omega) hs, ?_⟩
      refine ⟨((j - 1 : Nat) : Int), by rw [wrap_i64 (by omega) (by omega)]; omega, ?_⟩
      refine ⟨⟨g0, 0, none⟩, j - 1, rfl, rfl, by omega, .int .u64 (at0 ys (j - 1)), fun β w' hs => hcell (j - 1) (by omega) hs, ?_⟩
      obtain ⟨bb, hbb⟩ : ∃ bb, decide (at0 ys j < at0 ys (j - 1)) = bb := ⟨_, rfl⟩
      refine call_pu (v := .bool bb) (fun β w' hs => by rw [← hbb]; exact lessU_c w' _ _) ?_
      refine ⟨Sub.refl, ?_⟩
      cases bb with
      | true =>
        have hlt2 : at0 ys j < at0 ys (j - 1) := of_decide_eq_true hbb
        have hS : ∀ {n : Nat} {H : List Bk} {F : List Fact}, Sub (cx_slices_insertionSortOrdered_uint64 w (Un [urowF (some ⟨g0, 0, none⟩) l c])) n H F [] [] := fun {n H F} => Sub.of (List.nil_sublist _) (List.nil_sublist _)
        refine draw_rule g p_slices_insertionSortOrdered_uint64_6 (by kernel_rfl) [] [] hS ?_
        refine ⟨((j - 1 : Nat) : Int), by rw [wrap_i64 (by omega) (by omega)]; omega, ?_⟩
        refine ⟨((j - 1 : Nat) : Int), by rw [wrap_i64 (by omega) (by omega)]; omega, ?_⟩
        refine ⟨⟨g0, 0, none⟩, j - 1, rfl, rfl, by omega, ?_⟩
        refine ⟨⟨g0, 0, none⟩, j, rfl, rfl, by omega, ?_⟩
        have hsl : (sw ys j).length = N := by rw [sw_len, hyl]
        refine ⟨?_, ?_⟩
        · skip
          refine ⟨.int .u64 (at0 ys (j - 1)), fun β w' hs => hcell (j - 1) (by omega) hs, ?_⟩
          refine ⟨hS, ?_⟩
          refine ⟨.int .u64 (at0 ys j), fun β w' hs => hcell j (by omega) hs, ?_⟩
          refine ⟨hS, ?_⟩
          refine ⟨⟨g0, 0, none⟩, j, rfl, rfl, by omega, ?_⟩
          refine ⟨_, fun β w' hs => Sat.rowSet hs (j := 0) (us := [.int .u64 (at0 ys (j - 1))]) rfl (by show j * 1 + 1 ≤ ys.length * 1; omega) (fun u hu => by obtain rfl := List.mem_singleton.1 hu; rfl), ?_⟩
          refine ⟨hS, ?_⟩
          refine ⟨⟨g0, 0, none⟩, j - 1, rfl, rfl, by omega, ?_⟩
          refine ⟨_, fun β w' hs => Sat.rowSet hs (j := 0) (us := [.int .u64 (at0 ys j)]) rfl (by show (j - 1) * 1 + 1 ≤ ys.length * 1; omega) (fun u hu => by obtain rfl := List.mem_singleton.1 hu; rfl), ?_⟩
          refine ⟨hS, ?_⟩
          refine ⟨((j - 1 : Nat) : Int), by rw [wrap_i64 (by omega) (by omega)]; omega, ?_⟩
          exact ⟨(sw ys j, j - 1), ⟨(sw_perm (by omega) (by omega)).trans hyp, hb.swap (by omega) hji (by omega) hlt2, by show j - 1 ≤ i; omega⟩, by show j - 1 < j; omega, Ent.mk' ⟨rfl, rfl, rfl, rfl, rfl, trivial⟩ rfl (fun β w' hs => by
            show Sat _ _ _ _ [rowF ty_uint64 1 (.slice (some ⟨g0, 0, none⟩) (sw ys j).length c) (sw ys j).length ((sw ys j).map (Value.int .u64))] _
            rw [sw_len]
            have e : (sw ys j).map (Value.int .u64) = putAll (putAll (ys.map (Value.int .u64)) (j * 1) [.int .u64 (at0 ys (j - 1))]) ((j - 1) * 1) [.int .u64 (at0 ys j)] := by rw [uset, uset]; rfl
            rw [e]
            exact hs)⟩
        · skip
          refine ⟨.int .u64 (at0 ys j), fun β w' hs => hcell j (by omega) hs, ?_⟩
          refine ⟨hS, ?_⟩
          refine ⟨.int .u64 (at0 ys (j - 1)), fun β w' hs => hcell (j - 1) (by omega) hs, ?_⟩
          refine ⟨hS, ?_⟩
          refine ⟨⟨g0, 0, none⟩, j, rfl, rfl, by omega, ?_⟩
          refine ⟨_, fun β w' hs => Sat.rowSet hs (j := 0) (us := [.int .u64 (at0 ys (j - 1))]) rfl (by show j * 1 + 1 ≤ ys.length * 1; omega) (fun u hu => by obtain rfl := List.mem_singleton.1 hu; rfl), ?_⟩
          refine ⟨hS, ?_⟩
          refine ⟨⟨g0, 0, none⟩, j - 1, rfl, rfl, by omega, ?_⟩
          refine ⟨_, fun β w' hs => Sat.rowSet hs (j := 0) (us := [.int .u64 (at0 ys j)]) rfl (by show (j - 1) * 1 + 1 ≤ ys.length * 1; omega) (fun u hu => by obtain rfl := List.mem_singleton.1 hu; rfl), ?_⟩
          refine ⟨hS, ?_⟩
          refine ⟨((j - 1 : Nat) : Int), by rw [wrap_i64 (by omega) (by omega)]; omega, ?_⟩
          exact ⟨(sw ys j, j - 1), ⟨(sw_perm (by omega) (by omega)).trans hyp, hb.swap (by omega) hji (by omega) hlt2, by show j - 1 ≤ i; omega⟩, by show j - 1 < j; omega, Ent.mk' ⟨rfl, rfl, rfl, rfl, rfl, trivial⟩ rfl (fun β w' hs => by
            show Sat _ _ _ _ [rowF ty_uint64 1 (.slice (some ⟨g0, 0, none⟩) (sw ys j).length c) (sw ys j).length ((sw ys j).map (Value.int .u64))] _
            rw [sw_len]
            have e : (sw ys j).map (Value.int .u64) = putAll (putAll (ys.map (Value.int .u64)) (j * 1) [.int .u64 (at0 ys (j - 1))]) ((j - 1) * 1) [.int .u64 (at0 ys j)] := by rw [uset, uset]; rfl
            rw [e]
            exact hs)⟩
      | false =>
        refine ⟨((i + 1 : Nat) : Int), by rw [wrap_i64 (by omega) (by omega)]; rfl, ?_⟩
        exact ⟨(ys, i + 1), ⟨hyp, by show 1 ≤ i + 1; omega, hb.done hji (fun _ => of_decide_eq_false hbb), by show i + 1 ≤ N + 1; omega⟩, by show N + 1 - (i + 1) < N + 1 - i; omega, Ent.same ⟨rfl, rfl, rfl, rfl, trivial⟩ rfl⟩
    · have hj0 : ¬ (0 : Int) < j := hj
      refine ⟨Sub.refl, ?_⟩
      refine ⟨((i + 1 : Nat) : Int), by rw [wrap_i64 (by omega) (by omega)]; rfl, ?_⟩
      exact ⟨(ys, i + 1), ⟨hyp, by show 1 ≤ i + 1; omega, hb.done hji (fun h => by omega), by show i + 1 ≤ N + 1; omega⟩, by show N + 1 - (i + 1) < N + 1 - i; omega, Ent.same ⟨rfl, rfl, rfl, rfl, trivial⟩ rfl⟩
  · have hge0 : ¬ (i : Int) < N := hge
    intro β w' hs
    exact hs.fin [0] ⟨rfl, xs, hp, fun p q h1 h2 => hu p q h1 (by omega), rfl⟩
theorem pdqU_c (w : World) (A : Option Addr) (l : List Int) (c : Nat) (m : Int) (hl : l.length ≤ 12) (hm : Mem w [urowF A l c]) :
    Con Tryz.prog n_slices_pdqsortOrdered_uint64 #[.slice A l.length c, .int .i64 0, .int .i64 (l.length : Int), .int .i64 m] w [urowF A l c] fun v Fs => v = .tuple #[] ∧ ∃ l', l'.Perm l ∧ Upto l' l.length ∧ Fs = [urowF A l' c] := by
  have g := good_slices_pdqsortOrdered_uint64 w (Un [urowF A l c])
  have hs0 : Sat (cx_slices_pdqsortOrdered_uint64 w (Un [urowF A l c])) Va.z 0 [] [urowF A l c] w := hm.sat0 rfl (fun f hf _ k hk => ⟨f, hf, hk⟩)
  refine con_of_sx (cx := cx_slices_pdqsortOrdered_uint64 w (Un [urowF A l c])) g b_slices_pdqsortOrdered_uint64 rfl rfl (β := Va.z) [.c (.v (.slice A l.length c)), .c (.v (.int .i64 0)), .c (.v (.int .i64 (l.length : Int))), .c (.v (.int .i64 m))] 0 [] _ rfl rfl hs0 ?_
  refine loop_rule 0 (fun _ : Unit => [(0, .c (.v (.slice A l.length c))), (1, .c (.v (.int .i64 0))), (2, .c (.v (.int .i64 (l.length : Int))))]) (fun _ => []) (fun _ => [urowF A l c]) (fun _ => True) (fun _ => 0) () trivial (Ent.same ⟨rfl, rfl, rfl, trivial⟩ rfl) g ?_
  rintro ⟨⟩ -
  refine ⟨(l.length : Int), by rw [Int.sub_zero, wrap_i64 (by omega) (by omega)], ?_⟩
  refine BIf.dec (fun _ => ?_) (fun h => absurd (show (l.length : Int) ≤ 12 by omega) h)
  refine call_con [0] (fun β w' hs => insU_c w' A l c hl (hs.mem.take (js := [0]) rfl)) ?_
  rintro v Fs ⟨rfl, l', h1, h2, rfl⟩
  intro β w' hs
  exact hs.fin [0] ⟨rfl, l', h1, h2, rfl⟩
theorem bitsU_c (x : Nat) (hx : x < 18446744073709551616) : ∃ r : Int, ∀ w, Pu Tryz.prog n_math_bits_Len #[.int .u64 (x : Int)] w (.int .i64 r) := by
  refine ⟨((Lib.bitLen (x : Int).toNat : Nat) : Int), fun w => pu_of (Calls.mono (Tryz.bits_Len (x : Int) w (by omega) (by omega)) ?_)⟩
  rintro e w' ⟨rfl, rfl⟩
  exact ⟨_, rfl, rfl, Chg.refl _ _⟩
theorem sortU_c (w : World) (A : Option Addr) (l : List Int) (c : Nat) (hl : l.length ≤ 12) (hm : Mem w [urowF A l c]) :
    Con Tryz.prog n_slices_Sort_uint64_uint64 #[.slice A l.length c] w [urowF A l c] fun v Fs => v = .tuple #[] ∧ ∃ l', l'.Perm l ∧ Upto l' l.length ∧ Fs = [urowF A l' c] := by
  have g := good_slices_Sort_uint64_uint64 w (Un [urowF A l c])
  have hs0 : Sat (cx_slices_Sort_uint64_uint64 w (Un [urowF A l c])) Va.z 0 [] [urowF A l c] w := hm.sat0 rfl (fun f hf _ k hk => ⟨f, hf, hk⟩)
  refine con_of_sx (cx := cx_slices_Sort_uint64_uint64 w (Un [urowF A l c])) g b_slices_Sort_uint64_uint64 rfl rfl (β := Va.z) [.c (.v (.slice A l.length c))] 0 [] _ rfl rfl hs0 ?_
  refine ⟨(l.length : Int), by rw [wrap_u64']; omega, ?_⟩
  obtain ⟨r, hr⟩ := bitsU_c l.length (by omega)
  refine call_pu (fun β w' hs => hr w') ?_
  refine call_con [0] (fun β w' hs => pdqU_c w' A l c r hl (hs.mem.take (js := [0]) rfl)) ?_
  rintro v Fs ⟨rfl, l', h1, h2, rfl⟩
  intro β w' hs
  exact hs.fin [0] ⟨rfl, l', h1, h2, rfl⟩
theorem rising_of {l : List Int} (h : Upto l l.length) : l.Pairwise (· ≤ ·) := by
  rw [List.pairwise_iff_getElem]
  intro p q hp hq hpq
  have := h p q hpq hq
  simpa [at0, List.getD, hp, hq] using this
theorem sortedN_c (w : World) (k : FuncId) (bx : Nat) (ty : TypeId) (cs : List Value) (G G' : Fact) (n : Nat) (P : List Int → Prop) (hcall : callable Tryz.prog k = true) (hG : G.own = true) (hG' : G'.own = true) (hn : n ≤ 12) (hg : GivesN k bx ty cs G G' n P) (hm : Mem w [bkF bx ty cs, G]) :
    Con Tryz.prog 114 #[.func (.func k) #[] #[.pointer (some ⟨bx, 0, none⟩)]] w [bkF bx ty cs, G] fun v Fs => ∃ A c l, v = .slice A l.length c ∧ (∃ l0, P l0 ∧ l.Perm l0) ∧ l.length ≤ n ∧ l.Pairwise (· ≤ ·) ∧ (0 < l.length → ∃ ad, A = some ad) ∧ Fs = [urowF A l c, G'] := by
  have g := good_slices_Sorted_uint64 w (Un [bkF bx ty cs, G])
  have hs0 : Sat (cx_slices_Sorted_uint64 w (Un [bkF bx ty cs, G])) Va.z 0 [] [bkF bx ty cs, G] w := hm.sat0 rfl (fun f hf _ k hk => ⟨f, hf, hk⟩)
  refine con_of_sx (cx := cx_slices_Sorted_uint64 w (Un [bkF bx ty cs, G])) g b_slices_Sorted_uint64 rfl rfl (β := Va.z) [.c (.v (.func (.func k) #[] #[.pointer (some ⟨bx, 0, none⟩)]))] 0 [] _ rfl rfl hs0 ?_
  refine call_con [0, 1] (hown := ⟨rfl, hG, trivial⟩) (fun β w' hs => collectN_c w' k bx ty cs G G' n P hcall hG hG' (by omega) hg (hs.mem.take (js := [0, 1]) rfl)) ?_
  rintro v Fs ⟨A, c, l, rfl, hP, hlen, hA, rfl⟩
  refine call_con [0] (fun β w' hs => sortU_c w' A l c (by omega) (hs.mem.take (js := [0]) rfl)) ?_
  rintro v Fs ⟨rfl, l', h1, h2, rfl⟩
  have hl := h1.length_eq
  intro β w' hs
  refine hs.fin [0, 1] ⟨A, c, l', by rw [hl]; rfl, ⟨l, hP, h1⟩, by omega, rising_of (by rw [hl]; exact h2), by rw [hl]; exact hA, rfl⟩ rfl rfl rfl ⟨rfl, hG', trivial⟩
def decimS (u : Nat) : ByteArray := ⟨(Lib.decDigits u).toArray⟩
theorem smallU_c (w : World) (u : Nat) (hu : u < 100) : Pu Tryz.prog n_internal_strconv_small #[.int .i64 (u : Int)] w (.string (decimS u)) := by
  refine pu_of (Calls.mono (Tryz.internal_strconv_small u hu w) ?_)
  rintro e w' ⟨rfl, rfl⟩
  exact ⟨_, rfl, rfl, Chg.refl _ _⟩
theorem fmtI_c (w : World) (u : Nat) (hu : u < 100) : Pu Tryz.prog n_internal_strconv_FormatUint #[.int .u64 (u : Int), .int .i64 10] w (.string (decimS u)) := by
  obtain ⟨x, hx⟩ : ∃ x : Int, (u : Int) = x := ⟨_, rfl⟩
  rw [hx]
  refine con_of_sx (cx := cx_internal_strconv_FormatUint w (Un [])) (good_internal_strconv_FormatUint w (Un [])) b_internal_strconv_FormatUint rfl rfl (β := Va.z) [.c (.v (.int .u64 x)), .c (.v (.int .i64 10))] 0 [] [] rfl rfl (Sat.start rfl) ?_
  refine BIf.dec (fun _ => ?_) (fun h => absurd (show x < 100 by omega) h)
  refine ⟨x, by rw [wrap_i64 (by omega) (by omega)], ?_⟩
  refine call_pu (fun β w' hs => by rw [← hx]; exact smallU_c w' u hu) ?_
  intro β w' hs
  exact hs.fin [] ⟨rfl, rfl⟩
theorem fmtU_c (w : World) (u : Nat) (hu : u < 100) : Pu Tryz.prog n_strconv_FormatUint #[.int .u64 (u : Int), .int .i64 10] w (.string (decimS u)) := by
  refine con_of_sx (cx := cx_strconv_FormatUint w (Un [])) (good_strconv_FormatUint w (Un [])) b_strconv_FormatUint rfl rfl (β := Va.z) [.c (.v (.int .u64 (u : Int))), .c (.v (.int .i64 10))] 0 [] [] rfl rfl (Sat.start rfl) ?_
  refine call_pu (fun β w' hs => fmtI_c w' u hu) ?_
  intro β w' hs
  exact hs.fin [] ⟨rfl, rfl⟩
structure RKey where
  e : Nat
  A : Option Addr
  c : Nat
  p : List UInt8
structure Rg where
  b : Nat
  bx : Nat
  mA : Option Addr
  mc : Nat
  master : List UInt8
  room : Nat
  m : Nat
  ks : List RKey
  epoch : Nat
def RKey.v (k : RKey) : Value := .slice k.A k.p.length k.c
def RKey.f (k : RKey) : Fact := browF ty_uint8 k.A k.p k.c
def Rg.vs (r : Rg) : List Value := [.pointer (some ⟨r.bx, 0, none⟩), .slice r.mA r.master.length r.mc, .int .i64 (r.room : Int), .map (some r.m), .int .u64 (r.epoch : Int)]
def Rg.ml (r : Rg) : MLI := r.ks.map fun k => ((k.e : Int), k.v)
def rgF (r : Rg) : Fact := sepF [bkF r.b ty_ring_Ring r.vs, browF ty_uint8 r.mA r.master r.mc, mapIF .u64 r.m r.ml, sepF (r.ks.map RKey.f)]
theorem rg_bk {r : Rg} {w : World} (h : (rgF r).p w) : (bkF r.b ty_ring_Ring r.vs).p w := h.1 _ (by simp)
theorem rg_map {r : Rg} {w : World} (h : (rgF r).p w) : mapIP .u64 r.m r.ml w := h.1 (mapIF .u64 r.m r.ml) (by simp)
def ptrR (b : Nat) : Value := .pointer (some ⟨b, 0, none⟩)
theorem cell_bk {b ty : Nat} {cs : List Value} {w : World} (h : (bkF b ty cs).p w) {o : Nat} {v : Value} (ho : cs[o]? = some v) : w.cell? ⟨b, o, none⟩ = some v := by
  have hb : w.heap[b]? = some (.cells cs.toArray ty (0, 0)) := h
  rw [cell_of_row w b o _ _ _ hb]
  simpa using ho
def Rg.es (r : Rg) : List Int := r.ks.map fun k => (k.e : Int)
theorem Rg.ml_es (r : Rg) : r.ml.map (·.1) = r.es := by simp [Rg.ml, Rg.es]
def onFst {α β : Type} (pre : List α) (a b : β) : β := match pre with | [] => a | _ :: _ => b
def insE (r : Rg) (L : List Int) (pre : List Int) (x : Int) (args : Array Value) (X : Fact) : Prop :=
  args = #[.int .u64 x] ∧ X = onFst pre (rgF r) noF ∧ L[pre.length]? = some x
def Rg.rise (r : Rg) : List Int := r.es.mergeSort fun x y => decide (x ≤ y)
theorem rise_of {r : Rg} {l : List Int} (h : l.Perm r.es) (hs : l.Pairwise (· ≤ ·)) : l = r.rise := by
  have h2 := List.pairwise_mergeSort (le := fun x y : Int => decide (x ≤ y)) (fun a b c p q => by simp only [decide_eq_true_eq] at *; omega) (fun a b => by simp only [Bool.or_eq_true, decide_eq_true_eq]; omega) r.es
  refine List.Perm.eq_of_pairwise (le := fun x y => x ≤ y) (fun a b _ _ p q => by omega) hs (h2.imp fun p => of_decide_eq_true p) (h.trans (List.mergeSort_perm _ _).symm)
theorem ep_it (l : Nat) (w : World) (bx : Nat) (r : Rg) (f0 R : Fact) (J Jx : List Int → Fact → Prop) (hL : r.ks.length ≤ 12) (hJ0 : J [] f0) (hJo : ∀ pre f, J pre f → f.own = true) (hRo : R.own = false) (hY : Yc Tryz.prog l J Jx R (insE r r.rise))
    (hm : Mem w (f0 :: R :: [bkF bx ty_ptr_ring_Ring [ptrR r.b], rgF r])) :
    Con Tryz.prog n_ring_Ring_Epochs_1 #[.func (.yield l) #[] #[], .pointer (some ⟨bx, 0, none⟩)] w [f0, bkF bx ty_ptr_ring_Ring [ptrR r.b], rgF r]
      (fun _ Fs => ∃ f Fs', Fs = f :: Fs' ∧ ((∃ xs, J xs f ∧ xs = r.rise ∧ Fs' = onFst r.rise [rgF r] []) ∨ (∃ pre, Jx pre f ∧ Fs' = []))) := by
  have g := good_ring_Ring_Epochs_1 w (Un [f0, bkF bx ty_ptr_ring_Ring [ptrR r.b], rgF r]) [bx]
  have hs0 : Sat (cx_ring_Ring_Epochs_1 w (Un [f0, bkF bx ty_ptr_ring_Ring [ptrR r.b], rgF r]) [bx]) (Va.of fun _ => bx) 1 [] (f0 :: R :: [bkF bx ty_ptr_ring_Ring [ptrR r.b], rgF r]) w := by
    refine hm.sat rfl (fun f hf ho k hk => ?_) ⟨Nat.le_refl 1, fun i hi => by obtain rfl : i = 0 := Nat.lt_one_iff.1 hi; rfl⟩
    simp only [List.mem_cons, List.not_mem_nil, or_false] at hf
    rcases hf with rfl | rfl | rfl | rfl
    · exact ⟨_, by simp, hk⟩
    · rw [hRo] at ho; cases ho
    · exact ⟨bkF bx ty_ptr_ring_Ring [ptrR r.b], by simp, hk⟩
    · exact ⟨rgF r, by simp, hk⟩
  have hs1 := ((hs0.toBk 2 rfl 0 Nat.zero_lt_one rfl).unsep 2 rfl)
  refine con_of_sx (cx := cx_ring_Ring_Epochs_1 w (Un [f0, bkF bx ty_ptr_ring_Ring [ptrR r.b], rgF r]) [bx]) g b_ring_Ring_Epochs_1 rfl rfl (β := Va.of fun _ => bx) [.c (.v (.func (.yield l) #[] #[])), .c (.p 0 0)] 1 _ _ rfl rfl hs1 ?_
  have hml : r.ml.length = r.ks.length := by rw [Rg.ml, List.length_map]
  refine ⟨.map (some r.m), fun β w' hs => cell_bk (hs.get 0 rfl) (o := 3) rfl, ?_⟩
  refine call_con [] (fun β w' hs => keysI_c w' (some r.m)) ?_
  rintro v Fs ⟨B, rfl, rfl⟩
  refine call_conS [0, 3] (fun β w' hs => sortedN_c w' _ B _ _ _ _ r.ml.length _ (by kernel_rfl) rfl rfl (by omega) (keysI_gives B r.m r.ml) (hs.mem.take (js := [0, 3]) rfl)) ?_
  rintro v Fs ⟨A, c, L, rfl, ⟨l0, hp0, hp1⟩, hLl, hris, hA0, rfl⟩
  have hLr : L = r.rise := rise_of ((hp1.trans hp0).trans (by rw [Rg.ml_es])) hris
  subst hLr
  refine ⟨_, _, fun β w' hs => (hs.sep [2, 3, 1, 4] rfl ⟨rfl, rfl, rfl, rfl, trivial⟩).perm [1, 2, 3, 0], ?_⟩
  generalize hN : r.rise = L at *
  have hL12 : L.length ≤ 12 := by omega
  refine loop_rule (ι := List Int × Fact) 1 (fun i => [(0, .c (.v (.func (.yield l) #[] #[]))), (1, .c (.p 0 0)), (12, .c (.v (.slice A L.length c))), (13, .c (.v (.int .i64 (L.length : Int)))), (14, .c (.v (.int .i64 (i.1.length : Int))))]) (fun _ => [⟨0, ty_ptr_ring_Ring, [.v (ptrR r.b)]⟩]) (fun i => urowF A L c :: i.2 :: R :: onFst i.1 [rgF r] [])
    (fun i => J i.1 i.2 ∧ i.1 = L.take i.1.length ∧ i.1.length ≤ L.length) (fun i => L.length - i.1.length) ([], f0) ⟨hJ0, rfl, Nat.zero_le _⟩ (Ent.same ⟨rfl, rfl, rfl, rfl, rfl, trivial⟩ rfl) g ?_
  rintro ⟨pre, f⟩ ⟨hJ, hpre, hi⟩
  simp only at hJ hpre hi
  have hfo := hJo _ _ hJ
  simp only
  refine BIf.dec (fun hlt => ?_) (fun hge => ?_)
  · have hlt0 : (pre.length : Int) < L.length := hlt
    have hkl : pre.length < L.length := by omega
    obtain ⟨x, hx, _⟩ := at_lt hkl
    obtain ⟨ad, hAd⟩ := hA0 (by omega)
    have hnext : pre ++ [x] = L.take (pre ++ [x]).length := by
      have e : (pre ++ [x]).length = pre.length + 1 := by rw [List.length_append]; rfl
      rw [e, List.take_add_one, hx, ← hpre]
      rfl
    have e : (pre ++ [x]).length = pre.length + 1 := by rw [List.length_append]; rfl
    refine ⟨ad, pre.length, hAd, rfl, hkl, .int .u64 x, fun β w' hs => ?_, ?_⟩
    · have h := row_rd (hs.get 0 rfl)
      rw [hAd] at h
      exact Rd.cell1 h (by simp [hx])
    cases pre with
    | nil =>
      refine yield_own (X := rgF r) (x := x) hY 1 2 3 rfl hJ hfo rfl rfl rfl (by decide) (by decide) (by decide) (fun β => ⟨rfl, rfl, hx⟩) ?_ ?_
      · intro f2 hfo2 hJ2
        refine ⟨1, by rw [wrap_i64 (by omega) (by omega)]; rfl, ?_⟩
        refine ⟨([x], f2), ⟨hJ2, hnext, by show 1 ≤ L.length; exact hkl⟩, by show L.length - 1 < L.length - 0; have : 0 < L.length := hkl; omega, ?_⟩
        exact Ent.mk' ⟨rfl, rfl, rfl, rfl, rfl, trivial⟩ rfl (fun β w' hs => hs.perm [1, 0, 2])
      · intro f2 hfo2 hJ2 β w' hs
        exact (hs.keepB (List.nil_sublist _)).fin [0] ⟨f2, _, rfl, .inr ⟨_, hJ2, rfl⟩⟩ rfl rfl rfl ⟨hfo2, trivial⟩
    | cons y ys =>
      refine yield_ro (X := noF) (x := x) hY 1 2 rfl hJ hfo rfl hRo (by decide) (fun β => ⟨rfl, rfl, hx⟩) rfl (fun β w _ => ⟨trivial, fun k hk => hk.elim, fun k _ h => h.elim⟩) ?_ ?_
      · intro f2 hfo2 hJ2
        refine ⟨(((y :: ys).length + 1 : Nat) : Int), by rw [wrap_i64 (by omega) (by omega)]; rfl, ?_⟩
        refine ⟨(y :: ys ++ [x], f2), ⟨hJ2, hnext, by show (y :: ys ++ [x]).length ≤ _; rw [e]; omega⟩, by show L.length - (y :: ys ++ [x]).length < L.length - (y :: ys).length; rw [e]; omega, ?_⟩
        simp only [e]
        exact Ent.mk' ⟨rfl, rfl, rfl, rfl, rfl, trivial⟩ rfl (fun β w' hs => hs.perm [1, 0, 2])
      · intro f2 hfo2 hJ2 β w' hs
        exact (hs.keepB (List.nil_sublist _)).fin [0] ⟨f2, _, rfl, .inr ⟨_, hJ2, rfl⟩⟩ rfl rfl rfl ⟨hfo2, trivial⟩
  · have hge0 : ¬ (pre.length : Int) < L.length := hge
    have hpl : pre = L := by rw [hpre, List.take_of_length_le (by omega)]
    subst hpl
    cases pre with
    | nil =>
      intro β w' hs
      exact (hs.keepB (List.nil_sublist _)).fin [1, 3] ⟨f, _, rfl, .inl ⟨[], hJ, rfl, rfl⟩⟩ rfl rfl rfl ⟨hfo, rfl, trivial⟩
    | cons y ys =>
      intro β w' hs
      exact (hs.keepB (List.nil_sublist _)).fin [1] ⟨f, _, rfl, .inl ⟨_, hJ, rfl, rfl⟩⟩ rfl rfl rfl ⟨hfo, trivial⟩
theorem or128 (n : Nat) : bits .or .u8 (((UInt8.ofNat n).toNat : Nat) : Int) 128 = ((UInt8.ofNat (n % 128 + 128)).toNat : Int) := by
  show IntKind.u8.wrap (((BitVec.ofInt 8 ((UInt8.ofNat n).toNat : Int)) ||| (BitVec.ofInt 8 128)).toNat : Int) = _
  have h1 : BitVec.ofInt 8 (((UInt8.ofNat n).toNat : Nat) : Int) = BitVec.ofNat 8 n := by
    apply BitVec.eq_of_toNat_eq
    rw [BitVec.toNat_ofInt, BitVec.toNat_ofNat, UInt8.toNat_ofNat']
    omega
  have h2 : BitVec.ofNat 8 n ||| BitVec.ofInt 8 128 = BitVec.ofNat 8 (n % 128 + 128) := by
    have h3 : BitVec.ofNat 8 n = BitVec.ofNat 8 (n % 256) := by
      apply BitVec.eq_of_toNat_eq
      rw [BitVec.toNat_ofNat, BitVec.toNat_ofNat]
      omega
    have h4 : n % 128 = n % 256 % 128 := by omega
    rw [h3, h4]
    have h5 : n % 256 < 256 := Nat.mod_lt _ (by omega)
    have key : ∀ k, k < 256 → BitVec.ofNat 8 k ||| BitVec.ofInt 8 128 = BitVec.ofNat 8 (k % 128 + 128) := by decide +kernel
    exact key _ h5
  rw [h1, h2, BitVec.toNat_ofNat, wrap_u8, UInt8.toNat_ofNat']
  omega
theorem vint_len : ∀ (k n : Nat), n < 128 ^ (k + 1) → (Bx.vint n).length ≤ k + 1
  | 0, n, h => by rw [Bx.vint_lt (by simpa using h)]; simp
  | k + 1, n, h => by
    by_cases hn : n < 128
    · rw [Bx.vint_lt hn]; simp
    · rw [Bx.vint_ge hn, List.length_cons]
      have := vint_len k (n / 128) (by rw [Nat.pow_succ] at h; omega)
      omega
theorem vint_nine {n : Nat} (h : n < 4611686018427387904) : (Bx.vint n).length ≤ 9 := vint_len 8 n (by omega)
def varF (b : Nat) (A : Option Addr) (l : List UInt8) (c : Nat) : List Fact := [bkF b ty_sl_uint8 [.slice A l.length c], browF ty_uint8 A l c]
structure LgS where
  n : Nat
  A : Option Addr
  l : List UInt8
  c : Nat
theorem long7_c (w : World) (b n : Nat) (A : Option Addr) (l : List UInt8) (c : Nat) (hn : n < 4611686018427387904) (hl : l.length ≤ 1000000000) (hm : Mem w (varF b A l c)) :
    Con Tryz.prog n_box_Term_print_1 #[.int .i64 n, .pointer (some ⟨b, 0, none⟩)] w (varF b A l c) fun v Fs => v = .tuple #[] ∧ ∃ A' c', Fs = varF b A' (l ++ Bx.vint n) c' := by
  have g := good_box_Term_print_1 w (Un (varF b A l c))
  refine con_of_sx (cx := cx_box_Term_print_1 w (Un (varF b A l c))) g b_box_Term_print_1 rfl rfl (β := Va.z) [.c (.v (.int .i64 n)), .c (.v (.pointer (some ⟨b, 0, none⟩)))] 0 [] _ rfl rfl (hm.sat0 rfl (fun f hf _ k hk => ⟨f, hf, hk⟩)) ?_
  refine loop_rule (ι := LgS) 0 (fun i => [(0, .c (.v (.int .i64 i.n))), (1, .c (.v (.pointer (some ⟨b, 0, none⟩))))]) (fun _ => []) (fun i => varF b i.A i.l i.c)
    (fun i => i.n < 4611686018427387904 ∧ i.l ++ Bx.vint i.n = l ++ Bx.vint n) (fun i => i.n) ⟨n, A, l, c⟩ ⟨hn, rfl⟩ (Ent.same ⟨rfl, rfl, trivial⟩ rfl) g ?_
  rintro ⟨m, A1, l1, c1⟩ ⟨hm1, he⟩
  simp only at hm1 he
  have hl1 : l1.length ≤ 1000000009 := by
    have h1 := congrArg List.length he
    simp only [List.length_append] at h1
    have h2 := vint_nine hn
    omega
  have hcell : ∀ (w' : World) (A : Option Addr) (l : List UInt8) (c : Nat), (bkF b ty_sl_uint8 [.slice A l.length c]).p w' → w'.cell? ⟨b, 0, none⟩ = some (.slice A l.length c) := fun w' A l c h => by
    have hb : w'.heap[b]? = some (.cells #[.slice A l.length c] ty_sl_uint8 (0, 0)) := h
    rw [cell_of_row w' b 0 _ _ _ hb]; rfl
  refine BIf.dec (fun hge => ?_) (fun hlt => ?_)
  · have hge0 : (128 : Int) ≤ (m : Int) := hge
    have hnl : ¬ m < 128 := by omega
    refine ⟨.slice A1 l1.length c1, fun β w' hs => hcell _ _ _ _ (hs.get 0 rfl), ?_⟩
    refine ⟨_, wrap_u8b m, _, or128 m, ?_⟩
    intro b2
    refine ⟨2, l1.length, l1.length + 1, l1.map byte, [byte (UInt8.ofNat (m % 128 + 128))], (l1 ++ [UInt8.ofNat (m % 128 + 128)]).map byte, rfl, fun β w' hs => row_rd (hs.get 0 rfl), bytes_one [UInt8.ofNat (m % 128 + 128)], rfl, by simp, by rw [maxLen_eq]; omega, by show (l1.length + 1) * 1 ≤ _; omega, ?_⟩
    intro A' c' h1 h2 h3
    refine ⟨_, fun β w' hs => hs.bkSet 1 (o := 0) (us := [.slice A' (l1.length + 1) c']) rfl (Nat.le_refl 1) (fun u hu => by obtain rfl := List.mem_singleton.1 hu; rfl), ?_⟩
    refine ⟨by decide, ((m / 128 : Nat) : Int), shr_nat m 7, ?_⟩
    refine ⟨⟨m / 128, A', l1 ++ [UInt8.ofNat (m % 128 + 128)], c'⟩, ⟨by show m / 128 < _; omega, ?_⟩, by show m / 128 < m; omega, ?_⟩
    · show l1 ++ [UInt8.ofNat (m % 128 + 128)] ++ Bx.vint (m / 128) = _
      rw [← he, Bx.vint_ge hnl]
      simp
    · refine Ent.mk' ⟨rfl, rfl, trivial⟩ rfl ?_
      intro β w' hs
      have e : (l1 ++ [UInt8.ofNat (m % 128 + 128)]).length = l1.length + 1 := by simp
      have hs2 := hs.perm [1, 2]
      show Sat _ _ _ _ (varF b A' (l1 ++ [UInt8.ofNat (m % 128 + 128)]) c') _
      unfold varF browF
      rw [e]
      exact hs2
  · have hlt0 : ¬ (128 : Int) ≤ (m : Int) := hlt
    have hl : m < 128 := by omega
    refine ⟨.slice A1 l1.length c1, fun β w' hs => hcell _ _ _ _ (hs.get 0 rfl), ?_⟩
    refine ⟨_, wrap_u8b m, ?_⟩
    intro b2
    refine ⟨2, l1.length, l1.length + 1, l1.map byte, [byte (UInt8.ofNat m)], (l1 ++ [UInt8.ofNat m]).map byte, rfl, fun β w' hs => row_rd (hs.get 0 rfl), bytes_one [UInt8.ofNat m], rfl, by simp, by rw [maxLen_eq]; omega, by show (l1.length + 1) * 1 ≤ _; omega, ?_⟩
    intro A' c' h1 h2 h3
    refine ⟨_, fun β w' hs => hs.bkSet 1 (o := 0) (us := [.slice A' (l1.length + 1) c']) rfl (Nat.le_refl 1) (fun u hu => by obtain rfl := List.mem_singleton.1 hu; rfl), ?_⟩
    intro β w' hs
    have e0 : l ++ Bx.vint n = l1 ++ [UInt8.ofNat m] := by rw [← he, Bx.vint_lt hl]
    have e : (l1 ++ [UInt8.ofNat m]).length = l1.length + 1 := by simp
    refine hs.fin [1, 2] ⟨rfl, A', c', ?_⟩
    rw [e0]
    unfold varF browF
    rw [e]
    rfl
theorem Bs.holds {w : World} {A : Option Addr} {l : List UInt8} (h : Bs w A l) (c : Nat) : Lib.HoldsBytes w (.slice A l.length c) l := by
  refine ⟨A, c, rfl, fun q => ?_, fun a q i x hx => ?_⟩
  · subst q
    rcases Nat.eq_zero_or_pos l.length with h0 | h0
    · exact List.eq_nil_of_length_eq_zero h0
    · obtain ⟨ad, q, _⟩ := h.2 h0; cases q
  · have hi : i < l.length := (List.getElem?_eq_some_iff.1 hx).1
    obtain ⟨ad, q2, hc⟩ := h.2 (by omega)
    rw [q] at q2
    obtain rfl := Option.some.inj q2
    exact hc i (byte x) (by simp [hx])
theorem join_nil (ls : List (List UInt8)) : Lib.join ls [] = ls.flatten := by
  simp [Lib.join, List.intercalate]
  induction ls with
  | nil => rfl
  | cons a r ih =>
    cases r with
    | nil => simp
    | cons b r => simp [ih]
theorem lens_flat (ls : List (List UInt8)) : Lib.lens ls = ls.flatten.length := by
  simp [Lib.lens, List.length_flatten]
def readOut (l : List UInt8) (v : Value) (Fs : List Fact) : Prop := ∃ A c, v = .slice A l.length c ∧ l.length ≤ c ∧ c ≤ maxLen ∧ Fs = [rdoF 1 A l.length (l.map byte)]
theorem fin_read {w w' : World} {A : Option Addr} {l : List UInt8} {c : Nat} (hr : Bs w' A l) (hc : Chg None_ w w') (hD : ∀ k, (bsF A l).D k → w.heap.size ≤ k) (h1 : l.length ≤ c) (h2 : c ≤ maxLen) : Fin w [] (readOut l) (.slice A l.length c) w' := by
  refine ⟨[rdoF 1 A l.length (l.map byte)], ⟨A, c, rfl, h1, h2, rfl⟩, by rw [Un.nil]; exact hc, ⟨fun g hg => ?_, fun g hg k hk => ?_, List.pairwise_singleton _ _⟩, ⟨rfl, trivial⟩, fun g hg k hk => ?_⟩
  · obtain rfl := List.mem_singleton.1 hg; exact hr
  · obtain rfl := List.mem_singleton.1 hg; exact rd_lt hr k hk
  · obtain rfl := List.mem_singleton.1 hg; exact .inr (hD k hk)
theorem fresh_fin {w w' : World} {v : Value} {l : List UInt8} (hf : Lib.FreshBytes w.heap.size w' v l) (hb : RowKit.Below w.heap.size w w') : Fin w [] (readOut l) v w' := by
  obtain ⟨g, cap, zs, rfl, hg, h1, h2, hz, hz2, hbo, hc, _⟩ := hf
  refine fin_read ?_ (chg_of hb) ?_ h1 h2
  · refine ⟨by simp, fun hp => ⟨_, rfl, fun j u hu => ?_⟩⟩
    rw [List.getElem?_map] at hu
    obtain ⟨x, hx, rfl⟩ := Option.map_eq_some_iff.1 hu
    have hj : j < l.length := (List.getElem?_eq_some_iff.1 hx).1
    rw [add_none, Nat.zero_add, hc j (by omega)]
    have hj2 : j < zs.length := by omega
    have h3 : (Lib.bytesOf (zs.take l.length))[j]? = some x := by rw [hbo]; exact hx
    rw [Lib.bytesOf, List.getElem?_map, List.getElem?_take, if_pos hj, List.getElem?_eq_getElem hj2] at h3
    have h4 : UInt8.ofNat zs[j].toNat = x := by simpa using h3
    have h5 : zs.getD j 0 = zs[j] := by simp [hj2]
    have h6 := hz2 zs[j] (List.getElem_mem hj2)
    have h7 : (x.toNat : Int) = zs[j] := by
      rw [← h4, UInt8.toNat_ofNat']
      omega
    rw [h5, ← h7]
    rfl
  · rintro k ⟨_, ad, q, rfl⟩
    obtain rfl := Option.some.inj q
    exact hg
theorem joinN_c (w : World) (b c : Nat) (vs : List Value) (ls : List (List UInt8)) (hP : Rd 1 (some ⟨b, 0, none⟩) ls.length vs w) (hH : ∀ (i : Nat) v l, vs[i]? = some v → ls[i]? = some l → Lib.HoldsBytes w v l) (h2 : 2 ≤ ls.length) (hcap : ls.length ≤ c) (hn : ls.length ≤ 1000) (hlen : ls.flatten.length ≤ 140737488355328) :
    Con Tryz.prog n_bytes_Join #[.slice (some ⟨b, 0, none⟩) ls.length c, .slice none 0 0] w [] (readOut ls.flatten) := by
  refine con_of_calls (Calls.mono (Tryz.bytes_Join_many b 0 ls.length c vs ls (.slice none 0 0) [] w rfl h2 ⟨by have := hP.1; omega, fun i v hv => ?_, hH⟩ hcap ⟨none, 0, rfl, fun _ => rfl, fun a q => by cases q⟩ (by omega) (by rw [lens_flat]; simpa using hlen)) ?_)
  · obtain ⟨ad, q, hc⟩ := hP.2 (by omega)
    obtain rfl := Option.some.inj q
    exact hc i v hv
  · rintro e w' ⟨v, rfl, hf, hb⟩
    rw [join_nil] at hf
    exact ⟨v, rfl, fresh_fin hf hb⟩
structure TA where
  k : Option Addr
  t : Option Addr
  l : Option Addr
  m : Option Addr
  kc : Nat
  tc : Nat
  lc : Nat
  mc : Nat
def ints (l : List Nat) : List Value := l.map fun (n : Nat) => Value.int .i64 (n : Int)
def termV (t : Bx.Term) (a : TA) : List Value := [.int .i64 t.kind, .slice a.k t.key.length a.kc, .slice a.t t.text.length a.tc, .int .i64 t.rounds, .slice a.l t.list.length a.lc, .slice a.m t.mask.length a.mc]
def termS (t : Bx.Term) (a : TA) : List SL := [.v (.int .i64 t.kind), .v (.slice a.k t.key.length a.kc), .v (.slice a.t t.text.length a.tc), .v (.int .i64 t.rounds), .v (.slice a.l t.list.length a.lc), .v (.slice a.m t.mask.length a.mc)]
structure TRd (t : Bx.Term) (a : TA) (w : World) : Prop where
  hk : Bs w a.k t.key
  ht : Bs w a.t t.text
  hl : Rd 1 a.l t.list.length (ints t.list) w
  hm : Bs w a.m t.mask
theorem TRd.old {t : Bx.Term} {a : TA} {W w : World} (h : TRd t a W) (ho : (oldF W).p w) : TRd t a w := ⟨Rd.old h.hk ho, Rd.old h.ht ho, Rd.old h.hl ho, Rd.old h.hm ho⟩
structure TSz (t : Bx.Term) : Prop where
  kind : t.kind < 1000
  rounds : t.rounds < 1000
  key : t.key.length ≤ 1000000
  text : t.text.length ≤ 1000000
  list : t.list.length ≤ 10000
  nums : ∀ n ∈ t.list, n < 1000000
  mask : t.mask.length ≤ 1000000
theorem vints_len : ∀ (l : List Nat), (∀ n ∈ l, n < 4611686018427387904) → (l.flatMap Bx.vint).length ≤ 9 * l.length
  | [], _ => by simp
  | a :: r, h => by
    have h1 := vint_nine (h a List.mem_cons_self)
    have h2 := vints_len r (fun n hn => h n (List.mem_cons_of_mem _ hn))
    rw [List.flatMap_cons, List.length_append, List.length_cons]
    omega
theorem flat_take {l : List Nat} {k x : Nat} (h : l[k]? = some x) : (l.take (k + 1)).flatMap Bx.vint = (l.take k).flatMap Bx.vint ++ Bx.vint x := by
  obtain ⟨hk, rfl⟩ := List.getElem?_eq_some_iff.1 h
  rw [List.take_succ_eq_append_getElem hk, List.flatMap_append, List.flatMap_singleton]
theorem ints_at {l : List Nat} {k x : Nat} (h : l[k]? = some x) : (ints l)[k]? = some (.int .i64 (x : Int)) := by
  simp [ints, h]
structure PrS where
  k : Nat
  A : Option Addr
  c : Nat
def heads5 (t : Bx.Term) : List Nat := [t.kind, t.rounds, t.key.length, t.text.length, t.list.length]
theorem print_c (w : World) (t : Bx.Term) (a : TA) (hr : TRd t a w) (hs : TSz t) : Pu Tryz.prog n_box_Term_print #[.agg (termV t a).toArray] w (.string ⟨(Bx.print t).toArray⟩) := by
  have g := good_box_Term_print w (Un [])
  have h5 : ∀ n ∈ heads5 t, n < 4611686018427387904 := by
    have := hs.kind; have := hs.rounds; have := hs.key; have := hs.text; have := hs.list
    intro n hn
    simp only [heads5, List.mem_cons, List.not_mem_nil, or_false] at hn
    rcases hn with rfl | rfl | rfl | rfl | rfl <;> omega
  have h6 : ∀ n ∈ t.list, n < 4611686018427387904 := fun n hn => by have := hs.nums n hn; omega
  refine con_of_sx (cx := cx_box_Term_print w (Un [])) g b_box_Term_print rfl rfl (β := Va.z) [.agg (termS t a)] 0 [] [oldF w] rfl rfl (old_sat rfl) ?_
  intro b5
  refine reify_rule g 1 (fun _ => [.slice none 0 0]) rfl rfl (fun _ => rfl) (fun b => ?_)
  refine loop_rule (ι := PrS) 2 (fun i => [(23, .c (.v (.slice (some ⟨b5, 0, none⟩) 5 5))), (24, .c (.v (.int .i64 5))), (25, .c (.v (.int .i64 i.k))), (1, .c (.p 0 0)), (3, .c (.v (.pointer (some ⟨b, 0, none⟩)))), (4, .fn (.func n_box_Term_print_1) [] [.v (.pointer (some ⟨b, 0, none⟩))])]) (fun _ => [⟨0, ty_box_Term, termS t a⟩])
    (fun i => varF b i.A (((heads5 t).take i.k).flatMap Bx.vint) i.c ++ [rowF ty_int 1 (.slice (some ⟨b5, 0, none⟩) 5 5) 5 (ints (heads5 t)), oldF w])
    (fun i => i.k ≤ 5) (fun i => 5 - i.k) ⟨0, none, 0⟩ (Nat.zero_le _) (Ent.mk' ⟨rfl, rfl, rfl, rfl, rfl, rfl, trivial⟩ rfl ?_) g ?_
  · intro β w' hs
    exact (hs.nilRow ty_uint8 1).perm [1, 0, 2, 3]
  rintro ⟨k, A1, c1⟩ hk
  simp only at hk
  have hb1 : (((heads5 t).take k).flatMap Bx.vint).length ≤ 45 := by
    have := vints_len ((heads5 t).take k) (fun n hn => h5 n (List.take_subset _ _ hn))
    have h7 : ((heads5 t).take k).length ≤ 5 := by rw [List.length_take]; show min k 5 ≤ 5; omega
    omega
  refine BIf.dec (fun hlt => ?_) (fun hge => ?_)
  · have hlt0 : (k : Int) < 5 := hlt
    have hkl : k < (heads5 t).length := by show k < 5; omega
    obtain ⟨x, hx, hxm⟩ := at_lt hkl
    have hu := ints_at hx
    refine ⟨⟨b5, 0, none⟩, k, rfl, rfl, by omega, _, fun β w' hs => Rd.cell1 (row_rd (hs.get 2 rfl)) hu, ?_⟩
    refine call_con [0, 1] (fun β w' hs => long7_c w' b x A1 (((heads5 t).take k).flatMap Bx.vint) c1 (h5 _ hxm) (by omega) (hs.mem.take (js := [0, 1]) rfl)) ?_
    rintro v Fs ⟨rfl, A2, c2, rfl⟩
    refine ⟨((k + 1 : Nat) : Int), by rw [wrap_i64 (by omega) (by omega)]; rfl, ?_⟩
    refine ⟨⟨k + 1, A2, c2⟩, by show k + 1 ≤ 5; omega, by show 5 - (k + 1) < 5 - k; omega, Ent.mk' ⟨rfl, rfl, rfl, rfl, rfl, rfl, trivial⟩ rfl ?_⟩
    intro β w' hs
    show Sat _ _ _ _ (varF b A2 (((heads5 t).take (k + 1)).flatMap Bx.vint) c2 ++ _) _
    rw [flat_take hx]
    exact hs
  have hge0 : ¬ (k : Int) < 5 := hge
  have hke : k = 5 := by omega
  subst hke
  have hpre : ((heads5 t).take 5).flatMap Bx.vint = (heads5 t).flatMap Bx.vint := rfl
  rw [hpre] at hb1
  refine loop_rule (ι := PrS) 2 (fun i => [(34, .c (.v (.slice a.l t.list.length a.lc))), (35, .c (.v (.int .i64 t.list.length))), (36, .c (.v (.int .i64 i.k))), (1, .c (.p 0 0)), (3, .c (.v (.pointer (some ⟨b, 0, none⟩)))), (4, .fn (.func n_box_Term_print_1) [] [.v (.pointer (some ⟨b, 0, none⟩))])]) (fun _ => [⟨0, ty_box_Term, termS t a⟩])
    (fun i => varF b i.A ((heads5 t).flatMap Bx.vint ++ (t.list.take i.k).flatMap Bx.vint) i.c ++ [oldF w])
    (fun i => i.k ≤ t.list.length) (fun i => t.list.length - i.k) ⟨0, A1, c1⟩ (Nat.zero_le _) (Ent.mk' ⟨rfl, rfl, rfl, rfl, rfl, rfl, trivial⟩ rfl ?_) g ?_
  · intro β w' hs
    have e : (heads5 t).flatMap Bx.vint ++ (t.list.take 0).flatMap Bx.vint = (heads5 t).flatMap Bx.vint := by simp
    show Sat _ _ _ _ (varF b A1 ((heads5 t).flatMap Bx.vint ++ (t.list.take 0).flatMap Bx.vint) c1 ++ _) _
    rw [e]
    exact hs.perm [0, 1, 3]
  rintro ⟨k, A2, c2⟩ hk
  simp only at hk
  have hll := hs.list
  have hb2 : ((heads5 t).flatMap Bx.vint ++ (t.list.take k).flatMap Bx.vint).length ≤ 100000 := by
    have := vints_len (t.list.take k) (fun n hn => h6 n (List.take_subset _ _ hn))
    have h7 : (t.list.take k).length ≤ t.list.length := by simp; omega
    rw [List.length_append]
    omega
  refine BIf.dec (fun hlt => ?_) (fun hge => ?_)
  · have hlt0 : (k : Int) < t.list.length := hlt
    have hkl : k < t.list.length := by omega
    obtain ⟨x, hx, hxm⟩ := at_lt hkl
    have hu := ints_at hx
    obtain ⟨ad, hA, hc⟩ := hr.hl.2 (by omega)
    have hr2 := hr.hl
    rw [hA] at hr2
    refine ⟨ad, k, hA, rfl, hkl, _, fun β w' hs => Rd.cell1 (Rd.old hr2 (hs.get 2 rfl)) hu, ?_⟩
    refine call_con [0, 1] (fun β w' hs => long7_c w' b x A2 ((heads5 t).flatMap Bx.vint ++ (t.list.take k).flatMap Bx.vint) c2 (h6 _ hxm) (by omega) (hs.mem.take (js := [0, 1]) rfl)) ?_
    rintro v Fs ⟨rfl, A3, c3, rfl⟩
    refine ⟨((k + 1 : Nat) : Int), by rw [wrap_i64 (by omega) (by omega)]; rfl, ?_⟩
    refine ⟨⟨k + 1, A3, c3⟩, by show k + 1 ≤ t.list.length; omega, by show t.list.length - (k + 1) < t.list.length - k; omega, Ent.mk' ⟨rfl, rfl, rfl, rfl, rfl, rfl, trivial⟩ rfl ?_⟩
    intro β w' hs
    show Sat _ _ _ _ (varF b A3 ((heads5 t).flatMap Bx.vint ++ (t.list.take (k + 1)).flatMap Bx.vint) c3 ++ _) _
    rw [flat_take hx, ← List.append_assoc]
    exact hs
  have hge0 : ¬ (k : Int) < t.list.length := hge
  have hke : k = t.list.length := by omega
  subst hke
  have hpre2 : (heads5 t).flatMap Bx.vint ++ (t.list.take t.list.length).flatMap Bx.vint = (heads5 t).flatMap Bx.vint ++ t.list.flatMap Bx.vint := by rw [List.take_length]
  rw [hpre2] at hb2
  rw [hpre2]
  generalize hq : (heads5 t).flatMap Bx.vint ++ t.list.flatMap Bx.vint = q at hb2 ⊢
  have hcell : ∀ (w' : World) (A : Option Addr) (l : List UInt8) (c : Nat), (bkF b ty_sl_uint8 [.slice A l.length c]).p w' → w'.cell? ⟨b, 0, none⟩ = some (.slice A l.length c) := fun w' A l c h => by
    have hb : w'.heap[b]? = some (.cells #[.slice A l.length c] ty_sl_uint8 (0, 0)) := h
    rw [cell_of_row w' b 0 _ _ _ hb]; rfl
  refine ⟨.slice A2 q.length c2, fun β w' hs => hcell _ _ _ _ (hs.get 0 rfl), ?_⟩
  intro b6
  have hkey := hs.key
  have htext := hs.text
  have hmask := hs.mask
  have hfl : [q, t.key, t.text, t.mask].flatten = Bx.print t := by
    rw [Bx.print, ← hq]
    simp [heads5]
  refine call_con [] (R := readOut (Bx.print t)) (fun β w' hs => by
    have h := joinN_c w' b6 4 [.slice A2 q.length c2, .slice a.k t.key.length a.kc, .slice a.t t.text.length a.tc, .slice a.m t.mask.length a.mc] [q, t.key, t.text, t.mask] (row_rd (hs.get 0 rfl)) (fun i v l hv hl => by
      match i, hv, hl with
      | 0, hv, hl => obtain rfl := Option.some.inj hv; obtain rfl := Option.some.inj hl; exact Bs.holds (row_rd (hs.get 2 rfl)) _
      | 1, hv, hl => obtain rfl := Option.some.inj hv; obtain rfl := Option.some.inj hl; exact Bs.holds (Rd.old hr.hk (hs.get 3 rfl)) _
      | 2, hv, hl => obtain rfl := Option.some.inj hv; obtain rfl := Option.some.inj hl; exact Bs.holds (Rd.old hr.ht (hs.get 3 rfl)) _
      | 3, hv, hl => obtain rfl := Option.some.inj hv; obtain rfl := Option.some.inj hl; exact Bs.holds (Rd.old hr.hm (hs.get 3 rfl)) _
      | n + 4, hv, hl => cases hv) (by show 2 ≤ 4; decide) (Nat.le_refl 4) (by show 4 ≤ 1000; decide) (by simp; omega)
    rw [hfl] at h
    exact h) ?_
  rintro v Fs ⟨A, c, rfl, h1, h2, rfl⟩
  refine ⟨Bx.print t, fun β w hs => hs.get 0 rfl, ?_⟩
  intro β w' hs
  exact hs.fin [] ⟨rfl, rfl⟩
theorem ints_one (l : List Nat) : ∀ u ∈ ints l, u.oneCell' = true := by
  intro u hu
  obtain ⟨x, _, rfl⟩ := List.mem_map.1 hu
  rfl
abbrev irowF (A : Option Addr) (l : List Nat) (c : Nat) : Fact := rowF ty_int 1 (.slice A l.length c) l.length (ints l)
theorem cloneI_c (w : World) (A : Option Addr) (l : List Nat) (c : Nat) (hr : Rd 1 A l.length (ints l) w) (hn : l.length ≤ 10000000000000) :
    Con Tryz.prog 199 #[.slice A l.length c] w [] fun v Fs => ∃ A' c', v = .slice A' l.length c' ∧ l.length ≤ c' ∧ c' ≤ maxLen ∧ Fs = [irowF A' l c'] := by
  refine con_of_sx (cx := cx_slices_Clone_int_int w (Un [])) (good_slices_Clone_int_int w (Un [])) b_slices_Clone_int_int rfl rfl (β := Va.z) [.c (.v (.slice A l.length c))] 0 [] [rdF 1 A l.length (ints l)] rfl rfl ((Sat.start rfl).rd (fun _ h => by cases h) hr) ?_
  refine BIf.mk (fun h => ?_) (fun h => ?_)
  · intro β w' hs
    have hA : A = none := by simpa using h
    subst hA
    have hl : l = [] := by
      cases l with
      | nil => rfl
      | cons x r => obtain ⟨ad, q, _⟩ := hr.2 (by simp); cases q
    subst hl
    exact (hs.nilRow ty_int 1).fin [0] ⟨none, 0, rfl, Nat.le_refl _, Nat.zero_le _, rfl⟩
  intro b
  refine ⟨0, 0, l.length, [], ints l, _, rfl, fun β w hs => hs.get 1 rfl, ints_one l, Nat.zero_add _, rfl, by rw [maxLen_eq]; omega, by show l.length * 8 ≤ _; omega, ?_⟩
  intro A' c' h1 h2 h3 β w' hs
  exact hs.fin [0] ⟨A', c', rfl, h1, h2, rfl⟩
def copyFs (t : Bx.Term) (a : TA) : List Fact := [browF ty_uint8 a.m t.mask a.mc, irowF a.l t.list a.lc, browF ty_uint8 a.t t.text a.tc, browF ty_uint8 a.k t.key a.kc]
theorem copyOf_c (w : World) (t : Bx.Term) (a : TA) (hr : TRd t a w) (hs : TSz t) :
    Con Tryz.prog n_box_copyOf #[.agg (termV t a).toArray] w [] fun v Fs => ∃ a', v = .agg (termV t a').toArray ∧ Fs = copyFs t a' := by
  have g := good_box_copyOf w (Un [])
  have hkey := hs.key
  have htext := hs.text
  have hmask := hs.mask
  have hlist := hs.list
  refine con_of_sx (cx := cx_box_copyOf w (Un [])) g b_box_copyOf rfl rfl (β := Va.z) [.agg (termS t a)] 0 [] [oldF w] rfl rfl (old_sat rfl) ?_
  have hS : ∀ {n : Nat} {F : List Fact}, Sub (cx_box_copyOf w (Un [])) n [⟨1, ty_box_Term, ti219.zero.map SL.v⟩, ⟨0, ty_box_Term, termS t a⟩] F [⟨0, ty_box_Term, termS t a⟩] [] := fun {n F} => Sub.of (List.sublist_cons_self _ _) (List.nil_sublist _)
  refine draw_rule g p_box_copyOf_1 (by kernel_rfl) [⟨0, ty_box_Term, termS t a⟩] [] hS ?_
  refine call_con [] (fun β w' hs => clone_c w' a.k t.key a.kc (Rd.old hr.hk (hs.get 0 rfl)) (by omega)) ?_
  rintro v Fs ⟨A1, c1, rfl, _, _, rfl⟩
  refine ⟨hS, ?_⟩
  refine call_con [] (fun β w' hs => clone_c w' a.t t.text a.tc (Rd.old hr.ht (hs.get 1 rfl)) (by omega)) ?_
  rintro v Fs ⟨A2, c2, rfl, _, _, rfl⟩
  refine ⟨hS, ?_⟩
  refine call_con [] (fun β w' hs => cloneI_c w' a.l t.list a.lc (Rd.old hr.hl (hs.get 2 rfl)) (by omega)) ?_
  rintro v Fs ⟨A3, c3, rfl, _, _, rfl⟩
  refine ⟨hS, ?_⟩
  refine call_con [] (fun β w' hs => clone_c w' a.m t.mask a.mc (Rd.old hr.hm (hs.get 3 rfl)) (by omega)) ?_
  rintro v Fs ⟨A4, c4, rfl, _, _, rfl⟩
  refine ⟨hS, ?_⟩
  intro β w' hs
  exact (hs.keepB (List.nil_sublist _)).fin [0, 1, 2, 3] ⟨⟨A1, A2, A3, A4, c1, c2, c3, c4⟩, rfl, rfl⟩ rfl rfl rfl ⟨rfl, rfl, rfl, rfl, trivial⟩
def str (l : List UInt8) : ByteArray := ⟨l.toArray⟩
theorem str_inj {l m : List UInt8} : str l = str m ↔ l = m := by
  constructor
  · intro h
    have := congrArg (fun s : ByteArray => s.data.toList) h
    simpa [str] using this
  · rintro rfl; rfl
def numV (n : Nat) : Value := .int .i64 (n : Int)
def mapL : List Bx.Term → Nat → ML
  | [], _ => []
  | t :: r, k => (str (Bx.print t), numV (k + 1)) :: mapL r (k + 1)
theorem mapL_look (t : Bx.Term) : ∀ (L : List Bx.Term) (k : Nat), mlook (mapL L k) (str (Bx.print t)) = (Bx.place t L).map fun i => numV (i + k + 1)
  | [], _ => rfl
  | x :: r, k => by
    simp only [mapL, mlook, Bx.place]
    by_cases h : x = t
    · subst h
      simp
    · have h' : ¬ str (Bx.print x) = str (Bx.print t) := fun q => h (Bx.print_inj (str_inj.1 q))
      rw [if_neg h', if_neg h, mapL_look t r (k + 1), Option.map_map]
      congr 1
      funext i
      simp only [Function.comp]
      rw [show i + (k + 1) + 1 = i + 1 + k + 1 by omega]
theorem mput_new : ∀ {l : ML} {s : ByteArray} {v : Value}, mlook l s = none → mput l s v = l ++ [(s, v)]
  | [], _, _, _ => rfl
  | (k, u) :: r, s, v, h => by
    simp only [mlook] at h
    split at h
    · cases h
    · rename_i hne
      simp only [mput, if_neg hne, List.cons_append]
      rw [mput_new h]
theorem mapL_snoc (t : Bx.Term) : ∀ (L : List Bx.Term) (k : Nat), mapL (L ++ [t]) k = mapL L k ++ [(str (Bx.print t), numV (L.length + k + 1))]
  | [], k => by simp [mapL]
  | x :: r, k => by
    simp only [List.cons_append, mapL, List.length_cons]
    rw [mapL_snoc t r (k + 1), show r.length + (k + 1) + 1 = r.length + 1 + k + 1 by omega]
def TD_ (t : Bx.Term) (a : TA) (k : Nat) : Prop := (bsF a.k t.key).D k ∨ (bsF a.t t.text).D k ∨ (rdF 1 a.l t.list.length (ints t.list)).D k ∨ (bsF a.m t.mask).D k
theorem TRd.st {t : Bx.Term} {a : TA} {w w' : World} (hs : ∀ k, TD_ t a k → w'.heap[k]? = w.heap[k]?) (h : TRd t a w) : TRd t a w' :=
  ⟨(bsF a.k t.key).st w w' (fun k hk => hs k (.inl hk)) h.hk, (bsF a.t t.text).st w w' (fun k hk => hs k (.inr (.inl hk))) h.ht, (rdF 1 a.l t.list.length (ints t.list)).st w w' (fun k hk => hs k (.inr (.inr (.inl hk)))) h.hl, (bsF a.m t.mask).st w w' (fun k hk => hs k (.inr (.inr (.inr hk)))) h.hm⟩
def trdF (t : Bx.Term) (a : TA) : Fact where
  own := false
  D := TD_ t a
  p := TRd t a
  st := fun w w' hs h => TRd.st hs h
def partsF (ts : List (Bx.Term × TA)) : Fact where
  own := true
  D := fun k => ∃ p ∈ ts, TD_ p.1 p.2 k
  p := fun w => ∀ p ∈ ts, TRd p.1 p.2 w
  st := fun w w' hs h p hp => TRd.st (fun k hk => hs k ⟨p, hp, hk⟩) (h p hp)
structure Lay where
  A : Option Addr
  c : Nat
  m : Nat
  ts : List (Bx.Term × TA)
def boxCells (B : Bx.Box) (y : Lay) : List Value := [.bool B.sym, .bool B.full, .slice y.A B.L.length y.c, .map (some y.m)]
def termsV (ts : List (Bx.Term × TA)) : List Value := ts.flatMap fun p => termV p.1 p.2
def bxFs (b : Nat) (B : Bx.Box) (y : Lay) : List Fact := [bkF b ty_box_Box (boxCells B y), rowF ty_box_Term 6 (.slice y.A B.L.length y.c) B.L.length (termsV y.ts), mapF y.m (mapL B.L 0), partsF y.ts]
def bxF (b : Nat) (B : Bx.Box) (y : Lay) : Fact := sepF (bxFs b B y)
theorem box_cell {b : Nat} {B : Bx.Box} {y : Lay} {w : World} (h : (bkF b ty_box_Box (boxCells B y)).p w) {o : Nat} {v : Value} (ho : (boxCells B y)[o]? = some v) : w.cell? ⟨b, o, none⟩ = some v := by
  have hb : w.heap[b]? = some (.cells (boxCells B y).toArray ty_box_Box (0, 0)) := h
  rw [cell_of_row w b o _ _ _ hb]
  simpa using ho
theorem bk_cell {b ty : Nat} {cs : List Value} {w : World} (h : (bkF b ty cs).p w) {o : Nat} {v : Value} (ho : cs[o]? = some v) : w.cell? ⟨b, o, none⟩ = some v := by
  have hb : w.heap[b]? = some (.cells cs.toArray ty (0, 0)) := h
  rw [cell_of_row w b o _ _ _ hb]
  simpa using ho
theorem termV_one (t : Bx.Term) (a : TA) : ∀ u ∈ termV t a, u.oneCell' = true := by
  intro u hu
  simp only [termV, List.mem_cons, List.not_mem_nil, or_false] at hu
  rcases hu with rfl | rfl | rfl | rfl | rfl | rfl <;> rfl
theorem one_mem {v : Value} (h : v.oneCell' = true) : ∀ u ∈ [v], u.oneCell' = true := fun u hu => by obtain rfl := List.mem_singleton.1 hu; exact h
def tagOut (b : Nat) (B : Bx.Box) (t : Bx.Term) (v : Value) (Fs : List Fact) : Prop :=
  ∃ A c y', v = .slice A 32 c ∧ 32 ≤ c ∧ c ≤ maxLen ∧ y'.ts.map (·.1) = (B.tag t).2.L ∧ Fs = [browF ty_uint8 A (B.tag t).1 c, bxF b (B.tag t).2 y']
theorem zero_int (w : World) : (zeroValue ty_int).run Tryz.prog w = .ok (.int .i64 0) w := by kernel_rfl
theorem tag_c (w : World) (b : Nat) (B : Bx.Box) (y : Lay) (t : Bx.Term) (a : TA) (hts : y.ts.map (·.1) = B.L) (hL : B.L.length ≤ 4096) (hs : TSz t) (hm : Mem w [bxF b B y, trdF t a]) :
    Con Tryz.prog n_box_Box_tag #[.pointer (some ⟨b, 0, none⟩), .agg (termV t a).toArray] w [bxF b B y] (tagOut b B t) := by
  have g := good_box_Box_tag w (Un [bxF b B y])
  have hs0 : Sat (cx_box_Box_tag w (Un [bxF b B y])) Va.z 0 [] [bxF b B y, trdF t a] w := hm.sat0 rfl (fun f hf ho k hk => by
    simp only [List.mem_cons, List.not_mem_nil, or_false] at hf
    rcases hf with rfl | rfl
    · exact ⟨_, List.mem_singleton.2 rfl, hk⟩
    · cases ho)
  have hs1 := hs0.unsep 0 rfl
  refine con_of_sx (cx := cx_box_Box_tag w (Un [bxF b B y])) g b_box_Box_tag rfl rfl (β := Va.z) [.c (.v (.pointer (some ⟨b, 0, none⟩))), .agg (termS t a)] 0 [] (bxFs b B y ++ [trdF t a]) rfl rfl hs1 ?_
  refine call_pu (fun β w' hs' => print_c w' t a (hs'.get 4 rfl) hs) ?_
  refine ⟨.map (some y.m), fun β w' hs' => box_cell (hs'.get 0 rfl) (o := 3) rfl, ?_⟩
  have hlook := mapL_look t B.L 0
  cases hpl : Bx.place t B.L with
  | some i =>
    rw [hpl] at hlook
    refine ⟨.int .i64 0, zero_int, mapL B.L 0, some (numV (i + 1)), fun β w' hs' => hs'.get 2 rfl, hlook, ?_⟩
    refine call_con [] (fun β w' hs' => handle_c w' (i + 1)) ?_
    rintro v Fs ⟨A1, c1, rfl, q1, q2, rfl⟩
    have htag : B.tag t = (Bx.handle (i + 1), B) := by unfold Bx.Box.tag; rw [hpl]
    intro β w' hs'
    have hs2 := (hs'.keepB (List.nil_sublist _)).sep [1, 2, 3, 4] rfl ⟨rfl, rfl, rfl, rfl, trivial⟩
    exact hs2.fin [1, 0] ⟨A1, c1, y, rfl, q1, q2, by rw [htag]; exact hts, by rw [htag]; rfl⟩
  | none =>
    rw [hpl] at hlook
    refine ⟨.int .i64 0, zero_int, mapL B.L 0, none, fun β w' hs' => hs'.get 2 rfl, hlook, ?_⟩
    refine ⟨.slice y.A B.L.length y.c, fun β w' hs' => box_cell (hs'.get 0 rfl) (o := 2) rfl, ?_⟩
    refine BIf.dec (fun hge => ?_) (fun hlt => ?_)
    · have hge0 : (4096 : Int) ≤ (B.L.length : Int) := hge
      have hge1 : 4096 ≤ B.L.length := by omega
      refine ⟨_, fun β w' hs' => hs'.bkSet 0 (o := 1) (us := [.bool true]) rfl (by show 2 ≤ 4; decide) (one_mem rfl), ?_⟩
      refine ⟨32, 32, rfl, rfl, Nat.le_refl _, by decide, by decide, ?_⟩
      intro b2
      have htag : B.tag t = (Bx.noughts, { B with full := true }) := by unfold Bx.Box.tag; rw [hpl]; simp only; rw [if_pos hge1]
      intro β w' hs'
      have hs2 := (hs'.keepB (List.nil_sublist _)).sep [1, 2, 3, 4] rfl ⟨rfl, rfl, rfl, rfl, trivial⟩
      exact hs2.fin [1, 0] ⟨some ⟨b2, 0, none⟩, 32, y, rfl, Nat.le_refl _, by decide, by rw [htag]; exact hts, by rw [htag]; rfl⟩
    · have hlt0 : ¬ (4096 : Int) ≤ (B.L.length : Int) := hlt
      have hlt1 : ¬ 4096 ≤ B.L.length := by omega
      have htag : B.tag t = (Bx.handle (B.L.length + 1), { B with L := B.L ++ [t] }) := by unfold Bx.Box.tag; rw [hpl]; simp only; rw [if_neg hlt1]
      refine draw_rule g p_box_Box_tag_8 (by kernel_rfl) [⟨0, ty_box_Term, termS t a⟩] [bkF b ty_box_Box (boxCells B y)] (subPerm [0]) ?_
      refine ⟨.slice y.A B.L.length y.c, fun β w' hs' => box_cell (hs'.get 0 rfl) (o := 2) rfl, ?_⟩
      refine call_con [] (fun β w' hs' => copyOf_c w' t a (hs'.get 4 rfl) hs) ?_
      rintro v Fs ⟨a', rfl, rfl⟩
      refine ⟨subPerm [4], ?_⟩
      intro b7
      refine ⟨subPerm [5], ?_⟩
      refine ⟨6, B.L.length, B.L.length + 1, termsV y.ts, termV t a', termsV (y.ts ++ [(t, a')]), rfl, fun β w' hs' => row_rd (hs'.get 0 rfl), termV_one t a', rfl, by simp [termsV], by rw [maxLen_eq]; omega, by show (B.L.length + 1) * 112 ≤ _; omega, ?_⟩
      intro A' c' q1 q2 q3
      refine ⟨subPerm [5], ?_⟩
      refine ⟨subPerm [5], ?_⟩
      refine ⟨_, fun β w' hs' => hs'.bkSet 5 (o := 2) (us := [.slice A' (B.L.length + 1) c']) rfl (by show 3 ≤ 4; decide) (one_mem rfl), ?_⟩
      have hbx : putAll (boxCells B y) 2 [.slice A' (B.L.length + 1) c'] = [.bool B.sym, .bool B.full, .slice A' (B.L.length + 1) c', .map (some y.m)] := rfl
      rw [hbx]
      refine draw_rule g p_box_Box_tag_9 (by kernel_rfl) [⟨0, ty_box_Term, termS t a⟩] [bkF b ty_box_Box [.bool B.sym, .bool B.full, .slice A' (B.L.length + 1) c', .map (some y.m)]] (subPerm [5]) ?_
      refine ⟨.map (some y.m), fun β w' hs' => bk_cell (hs'.get 0 rfl) (o := 3) rfl, ?_⟩
      refine ⟨.slice A' (B.L.length + 1) c', fun β w' hs' => bk_cell (hs'.get 0 rfl) (o := 2) rfl, ?_⟩
      refine ⟨_, fun _ => _, fun β w' hs' => hs'.mapPutY g 7 rfl (t := ty_map_string_int) (str (Bx.print t)) (numV (B.L.length + 1)), fun _ => ?_⟩
      refine ⟨subPerm [5], ?_⟩
      refine ⟨.slice A' (B.L.length + 1) c', fun β w' hs' => bk_cell (hs'.get 5 rfl) (o := 2) rfl, ?_⟩
      refine call_con [] (fun β w' hs' => handle_c w' (B.L.length + 1)) ?_
      rintro v Fs ⟨A9, c9, rfl, r1, r2, rfl⟩
      have hmap : mput (mapL B.L 0) (str (Bx.print t)) (numV (B.L.length + 1)) = mapL (B.L ++ [t]) 0 := by rw [mput_new hlook, mapL_snoc]
      have hbF : bxF b { B with L := B.L ++ [t] } ⟨A', c', y.m, y.ts ++ [(t, a')]⟩ = sepF [bkF b ty_box_Box [.bool B.sym, .bool B.full, .slice A' (B.L.length + 1) c', .map (some y.m)], rowF ty_box_Term 6 (.slice A' (B.L.length + 1) c') (B.L.length + 1) (termsV (y.ts ++ [(t, a')])), mapF y.m (mapL (B.L ++ [t]) 0), partsF (y.ts ++ [(t, a')])] := by
        simp [bxF, bxFs, boxCells]
      intro β w' hs'
      have hs2 := (hs'.keepB (List.nil_sublist _)).fuse [2, 3, 4, 5, 9] (partsF (y.ts ++ [(t, a')])) (fun w hm => ?_) (fun k hk => ?_) rfl ⟨rfl, rfl, rfl, rfl, rfl, trivial⟩
      · have hs3 := hs2.sep [3, 4, 5, 0] rfl ⟨rfl, rfl, rfl, rfl, trivial⟩
        refine hs3.fin [1, 0] ⟨A9, c9, ⟨A', c', y.m, y.ts ++ [(t, a')]⟩, rfl, r1, r2, ?_, ?_⟩
        · rw [htag]
          show (y.ts ++ [(t, a')]).map (·.1) = B.L ++ [t]
          rw [List.map_append, hts]
          rfl
        · rw [htag]
          show _ = [browF ty_uint8 A9 (Bx.handle (B.L.length + 1)) c9, bxF b { B with L := B.L ++ [t] } ⟨A', c', y.m, y.ts ++ [(t, a')]⟩]
          rw [hbF, ← hmap]
          rfl
      · have hm' : Mem w [browF ty_uint8 a'.m t.mask a'.mc, irowF a'.l t.list a'.lc, browF ty_uint8 a'.t t.text a'.tc, browF ty_uint8 a'.k t.key a'.kc, partsF y.ts] := hm
        intro p hp
        rcases List.mem_append.1 hp with hp | hp
        · exact hm'.fact (partsF y.ts) (by simp) p hp
        · obtain rfl := List.mem_singleton.1 hp
          exact ⟨row_rd (hm'.fact (browF ty_uint8 a'.k t.key a'.kc) (by simp)), row_rd (hm'.fact (browF ty_uint8 a'.t t.text a'.tc) (by simp)), row_rd (hm'.fact (irowF a'.l t.list a'.lc) (by simp)), row_rd (hm'.fact (browF ty_uint8 a'.m t.mask a'.mc) (by simp))⟩
      · show Un [browF ty_uint8 a'.m t.mask a'.mc, irowF a'.l t.list a'.lc, browF ty_uint8 a'.t t.text a'.tc, browF ty_uint8 a'.k t.key a'.kc, partsF y.ts] k
        obtain ⟨p, hp, hk⟩ := hk
        rcases List.mem_append.1 hp with hp | hp
        · exact ⟨partsF y.ts, by simp, p, hp, hk⟩
        · obtain rfl := List.mem_singleton.1 hp
          have hrow : ∀ {size e n c : Nat} {A : Option Addr} {xs : List Value}, (rdF size A n xs).D k → (rowF e size (.slice A n c) n xs).D k := by
            rintro size e n c A xs ⟨_, ad, rfl, rfl⟩
            rfl
          rcases hk with hk | hk | hk | hk
          · exact ⟨browF ty_uint8 a'.k t.key a'.kc, by simp, hrow hk⟩
          · exact ⟨browF ty_uint8 a'.t t.text a'.tc, by simp, hrow hk⟩
          · exact ⟨irowF a'.l t.list a'.lc, by simp, hrow hk⟩
          · exact ⟨browF ty_uint8 a'.m t.mask a'.mc, by simp, hrow hk⟩
theorem bx_bk {b : Nat} {B : Bx.Box} {y : Lay} {w : World} (h : (bxF b B y).p w) : (bkF b ty_box_Box (boxCells B y)).p w := h.1 _ (by simp [bxFs])
def hashT (l : List UInt8) : Bx.Term := ⟨1, [], l, 0, [], []⟩
theorem hashT_sz {l : List UInt8} (hl : l.length ≤ 1000000) : TSz (hashT l) := ⟨by show 1 < 1000; decide, by show 0 < 1000; decide, Nat.zero_le _, hl, Nat.zero_le _, fun _ h => (by cases h), Nat.zero_le _⟩
theorem rd_nil (w : World) (A : Option Addr) : Rd 1 A 0 [] w := ⟨rfl, fun h => by cases h⟩
theorem epochs_c (w : World) (r : Rg) : Con Tryz.prog n_ring_Ring_Epochs #[ptrR r.b] w [] (fun v Fs => ∃ bx, v = .func (.func n_ring_Ring_Epochs_1) #[] #[.pointer (some ⟨bx, 0, none⟩)] ∧ Fs = [bkF bx ty_ptr_ring_Ring [ptrR r.b]]) := by
  refine con_of_sx (cx := cx_ring_Ring_Epochs w (Un [])) (good_ring_Ring_Epochs w (Un [])) b_ring_Ring_Epochs rfl rfl (β := Va.z) [.c (.v (ptrR r.b))] 0 [] [] rfl rfl (Sat.start rfl) ?_
  intro β w' hs
  exact hs.ofBk.fin [0] ⟨β 0, rfl, rfl⟩
def Rg.key (r : Rg) (e : Int) : Option RKey := r.ks.find? fun k => decide ((k.e : Int) = e)
theorem key_look (e : Int) : ∀ ks : List RKey, ilook (ks.map fun k => ((k.e : Int), k.v)) e = (ks.find? fun k => decide ((k.e : Int) = e)).map RKey.v
  | [] => rfl
  | k :: t => by
    by_cases h : (k.e : Int) = e
    · simp [ilook, List.find?, h]
    · simp only [List.map_cons, ilook, if_neg h, List.find?, decide_eq_false h]
      exact key_look e t
end Go.Proofs.YteenjgfbbkdlhaaGreatDoor.Sx

namespace Go.Proofs.YteenjgfbbkdlhaaGreatDoor.Sx
open Go
theorem Sat.mapPutI {cx : Cx} {β : Va} {n : Nat} {H : List Bk} {F : List Fact} {w : World} (h : Sat cx β n H F w) (g : Good cx) (j : Nat) {b : Nat} {l : MLI} {kk : IntKind} (hj : nth F j = some (mapIF kk b l)) {t kt et : TypeId} {i ik : TI} (s : Int) (v : Value) (hi : lk cx.tt t = some i := by rfl) (hd : i.desc = .map kt et := by rfl) (hik : lk cx.tt kt = some ik := by rfl) (hdk : ik.desc = .int kk := by rfl) :
    ∃ w', (Instr.mapUpdate t (.map (some b)) (.int kk s) v).run cx.P w = .ok () w' ∧ Sat cx β n H (putAt F j (mapIF kk b (iput l s v))) w' := by
  obtain ⟨o, e1, e2⟩ := run_putI (P := cx.P) ((g.ti hi).real (d := .map _ _) hd rfl) ((g.ti hik).real (d := .int kk) hdk rfl) (h.get j hj) s v
  exact ⟨_, e1, h.upd hj rfl (chg_put o) e2 (fun k hk => .inl hk)⟩
theorem Sat.mapPutIY {cx : Cx} {β : Va} {n : Nat} {H : List Bk} {F : List Fact} {w : World} (h : Sat cx β n H F w) (g : Good cx) (j : Nat) {b : Nat} {l : MLI} {kk : IntKind} (hj : nth F j = some (mapIF kk b l)) {t kt et : TypeId} {i ik : TI} (s : Int) (v : Value) (hi : lk cx.tt t = some i := by rfl) (hd : i.desc = .map kt et := by rfl) (hik : lk cx.tt kt = some ik := by rfl) (hdk : ik.desc = .int kk := by rfl) :
    ∃ (w' : World) (y : Nat), (Instr.mapUpdate t (.map (some b)) (.int kk s) v).run cx.P w = .ok () w' ∧ Sat cx β n H ((fun _ => putAt F j (mapIF kk b (iput l s v))) y) w' := by
  obtain ⟨w', e1, e2⟩ := h.mapPutI g j hj s v hi hd hik hdk
  exact ⟨w', 0, e1, e2⟩
theorem Sat.mapDelI {cx : Cx} {β : Va} {n : Nat} {H : List Bk} {F : List Fact} {w : World} (h : Sat cx β n H F w) (g : Good cx) (j : Nat) {b : Nat} {l : MLI} {kk : IntKind} (hj : nth F j = some (mapIF kk b l)) {t tk kt et : TypeId} {i ik : TI} (s : Int) (ty : TypeId) (cst : Array Bool) (hi : lk cx.tt t = some i := by rfl) (hd : i.desc = .map kt et := by rfl) (hik : lk cx.tt kt = some ik := by rfl) (hdk : ik.desc = .int kk := by rfl) :
    ∃ w', (builtin .delete #[t, tk] ty cst #[.map (some b), .int kk s]).run cx.P w = .ok (.value (.tuple #[])) w' ∧ Sat cx β n H (putAt F j (mapIF kk b (idel l s))) w' := by
  obtain ⟨o, e1, e2⟩ := run_delI (P := cx.P) (tk := tk) ((g.ti hi).real (d := .map _ _) hd rfl) ((g.ti hik).real (d := .int kk) hdk rfl) (h.get j hj) s ty cst
  exact ⟨_, e1, h.upd hj rfl (chg_put o) e2 (fun k hk => .inl hk)⟩
end Go.Proofs.YteenjgfbbkdlhaaGreatDoor.Sx

namespace Go.Proofs.YteenjgfbbkdlhaaGreatDoor.Sx
open Go Sha
attribute [local irreducible] Calls
def stG (b ty : Nat) (s : S8) (ex : List Value) : Fact := bkF b ty (s.l.map u32 ++ ex)
theorem mixX_get (s t : S8) (X : List SL) : ∀ i, i < 8 → nth (mix s t i ++ X) i = some (sl32 (s.l.getD i 0))
  | 0, _ => rfl | 1, _ => rfl | 2, _ => rfl | 3, _ => rfl | 4, _ => rfl | 5, _ => rfl | 6, _ => rfl | 7, _ => rfl
  | n + 8, h => by omega
theorem mixX_set (s t : S8) (X : List SL) : ∀ i, i < 8 → putAll (mix s t i ++ X) i [sl32 (s.l.getD i 0 + t.l.getD i 0)] = mix s t (i + 1) ++ X
  | 0, _ => rfl | 1, _ => rfl | 2, _ => rfl | 3, _ => rfl | 4, _ => rfl | 5, _ => rfl | 6, _ => rfl | 7, _ => rfl
  | n + 8, h => by omega
theorem stepG_c (w : World) (b ty : Nat) (s : S8) (ex : List Value) (A : Option Addr) (l : List UInt8) (c : Nat) (hm : Mem w [stG b ty s ex, bsF A l, oddF 5]) (hc : l.length ≤ c) (hl : 64 ≤ l.length) (hcm : c ≤ maxLen) :
    Con Tryz.prog n_sha_state_step #[.pointer (some ⟨b, 0, none⟩), .slice A l.length c] w [stG b ty s ex] fun v Fs => v = .tuple #[] ∧ Fs = [stG b ty (Sha.step s l) ex] := by
  obtain ⟨ws, hws⟩ : ∃ ws, W l = ws := ⟨_, rfl⟩
  have hwl : ws.length = 64 := by rw [← hws]; exact W_len l
  have g := good_sha_state_step w (Un [stG b ty s ex]) (bs := [b])
  have hs0 : Sat (cx_sha_state_step w (Un [stG b ty s ex]) [b]) (Va.of fun _ => b) 1 [] [stG b ty s ex, bsF A l, oddF 5] w :=
    hm.sat rfl (ownIn (Gs := [stG b ty s ex]) (Rs := [bsF A l, oddF 5]) (fun g hg => by
      rcases List.mem_cons.1 hg with rfl | hg
      · rfl
      · obtain rfl := List.mem_singleton.1 hg; rfl)) ⟨Nat.le_refl _, fun i hi => by
        have hi1 : i < 1 := hi
        have hi0 : i = 0 := by omega
        rw [hi0]; rfl⟩
  have hs1 := hs0.toBk 0 rfl 0 Nat.zero_lt_one rfl
  refine con_of_sx (cx := cx_sha_state_step w (Un [stG b ty s ex]) [b]) g b_sha_state_step rfl rfl (β := Va.of fun _ => b) [.c (.p 0 0), .c (.v (.slice A l.length c))] 1 [⟨0, ty, s.l.map sl32 ++ ex.map SL.v⟩] [bsF A l, oddF 5] rfl rfl (by rw [List.map_append, List.map_map] at hs1; exact hs1) ?_
  refine call_pu (fun β w' hs => spread_c w' A l c (hs.get 0 rfl) hc hl hcm) ?_
  rw [hws]
  have ea : ofValue (.agg (ws.map u32).toArray) = .agg (ws.map sl32) := by simp only [ofValue, List.map_map]; rfl
  rw [ea]
  conv => whnf
  generalize h1 : Nat.beq _ _ = b1
  generalize h2 : allOne _ = b2
  obtain rfl : b1 = true := h1.symm.trans (by rw [List.length_map, hwl]; rfl)
  obtain rfl : b2 = true := h2.symm.trans (arr_one ws)
  clear h1 h2
  conv => whnf
  generalize h1 : Nat.ble _ _ = b1
  obtain rfl : b1 = true := h1.symm.trans (by rw [List.length_map, hwl]; rfl)
  clear h1
  refine draw_rule g p_sha_state_step_1 (by kernel_rfl) _ _ Sub.refl ?_
  refine ⟨0, rfl, by decide, ?_⟩
  refine ⟨1, rfl, by decide, ?_⟩
  refine ⟨2, rfl, by decide, ?_⟩
  refine ⟨3, rfl, by decide, ?_⟩
  refine ⟨4, rfl, by decide, ?_⟩
  refine ⟨5, rfl, by decide, ?_⟩
  refine ⟨6, rfl, by decide, ?_⟩
  refine ⟨7, rfl, by decide, ?_⟩
  have hp : putAll (ti332.zero.map SL.v) 0 (ws.map sl32) = ws.map sl32 := putAll_full (by rw [List.length_map, hwl]; rfl)
  refine loop_rule (ι := Nat) 2 (fun i => [(0, .c (.p 0 0)), (4, .c (.p 1 0)), (5, .c (sl32 (rounds s ws i).a)), (6, .c (sl32 (rounds s ws i).b)), (7, .c (sl32 (rounds s ws i).c)), (8, .c (sl32 (rounds s ws i).d)), (9, .c (sl32 (rounds s ws i).e)), (10, .c (sl32 (rounds s ws i).f)), (11, .c (sl32 (rounds s ws i).g)), (12, .c (sl32 (rounds s ws i).h)), (55, .c (.v (.int .i64 i)))])
    (fun _ => [⟨1, 332, ws.map sl32⟩, ⟨0, ty, s.l.map sl32 ++ ex.map SL.v⟩]) (fun _ => [bsF A l, oddF 5])
    (fun i => i ≤ 64) (fun i => 64 - i) 0 (Nat.zero_le _) (Ent.mk' ⟨rfl, rfl, rfl, rfl, rfl, rfl, rfl, rfl, rfl, rfl, rfl, trivial⟩ rfl (fun β w' hs => by rw [← hp]; exact hs)) g ?_
  intro i hi
  obtain ⟨r, hr⟩ : ∃ r, rounds s ws i = r := ⟨_, rfl⟩
  rw [hr]
  obtain ⟨xa, xb, xc, xd, xe, xf, xg, xh⟩ := r
  refine BIf.dec (fun hlt => ?_) (fun hge => ?_)
  · have hlt : i < 64 := by omega
    refine call_pu (fun β w' hs => rotl_c w' xe 6 (by omega) (by omega)) ?_
    refine call_pu (fun β w' hs => rotl_c w' xe 11 (by omega) (by omega)) ?_
    refine ⟨_, xor32 _ _, ?_⟩
    refine call_pu (fun β w' hs => rotl_c w' xe 25 (by omega) (by omega)) ?_
    refine ⟨_, xor32 _ _, ?_⟩
    refine ⟨_, and32 _ _, _, not32 _, _, and32 _ _, _, xor32 _ _, ?_⟩
    refine draw_rule g p_sha_state_step_7 (by kernel_rfl) _ _ Sub.refl ?_
    refine ⟨_, add32 _ _, _, add32 _ _, i, rfl, hlt, u32 (K.getD i 0), fun β w' hs => odd_cell (hs.get 1 rfl) hlt, _, add32 _ _, i, rfl, hlt, ?_⟩
    conv => whnf
    generalize hn : nth _ _ = o
    obtain rfl : o = some (sl32 (ws.getD i 0)) := hn.symm.trans (by
      show nth (ws.map sl32) (0 + i * 1) = _
      rw [nth_eq, Nat.zero_add, Nat.mul_one, List.getElem?_map, List.getElem?_eq_getElem (by omega)]
      simp [List.getD, List.getElem?_eq_getElem (show i < ws.length by omega)])
    clear hn
    refine ⟨_, add32 _ _, ?_⟩
    refine call_pu (fun β w' hs => rotl_c w' xa 2 (by omega) (by omega)) ?_
    refine call_pu (fun β w' hs => rotl_c w' xa 13 (by omega) (by omega)) ?_
    refine ⟨_, xor32 _ _, ?_⟩
    refine call_pu (fun β w' hs => rotl_c w' xa 22 (by omega) (by omega)) ?_
    refine ⟨_, xor32 _ _, ?_⟩
    refine ⟨_, and32 _ _, _, and32 _ _, _, xor32 _ _, _, and32 _ _, _, xor32 _ _, ?_⟩
    refine ⟨_, add32 _ _, _, add32 _ _, _, add32 _ _, ?_⟩
    refine ⟨((i + 1 : Nat) : Int), by rw [wrap_i64 (by omega) (by omega)]; rfl, ?_⟩
    refine ⟨i + 1, by omega, by omega, Ent.same ?_ rfl⟩
    rw [rounds_succ, hr]
    exact ⟨rfl, rfl, rfl, rfl, rfl, rfl, rfl, rfl, rfl, rfl, rfl, trivial⟩
  · obtain ⟨t, ht⟩ : ∃ t, (⟨xa, xb, xc, xd, xe, xf, xg, xh⟩ : S8) = t := ⟨_, rfl⟩
    have hst : Sha.step s l = s.add t := by
      have : i = 64 := by omega
      rw [Sha.step, hws, ← ht, ← hr, this]
    rw [hst]
    refine loop_rule (ι := Nat) 2 (fun i => [(0, .c (.p 0 0)), (129, .agg [sl32 xa, sl32 xb, sl32 xc, sl32 xd, sl32 xe, sl32 xf, sl32 xg, sl32 xh]), (130, .c (.v (.int .i64 i)))])
      (fun i => [⟨1, 332, ws.map sl32⟩, ⟨0, ty, mix s t i ++ ex.map SL.v⟩]) (fun _ => [bsF A l, oddF 5])
      (fun i => i ≤ 8) (fun i => 8 - i) 0 (Nat.zero_le _) (Ent.same ⟨rfl, rfl, rfl, trivial⟩ rfl) g ?_
    intro j hj
    refine BIf.dec (fun hlt => ?_) (fun hge => ?_)
    · have hlt : j < 8 := by omega
      refine ⟨j, sl32 (t.l.getD j 0), rfl, hlt, by rw [← ht]; show ((⟨xa, xb, xc, xd, xe, xf, xg, xh⟩ : S8).l.map sl32)[j * 1]? = _; rw [Nat.mul_one]; exact l_get _ j hlt, ?_⟩
      refine draw_rule g p_sha_state_step_15 (by kernel_rfl) [] [bsF A l, oddF 5] (Sub.of (List.nil_sublist _) (List.Sublist.refl _)) ?_
      refine ⟨j, rfl, hlt, ?_⟩
      conv => whnf
      generalize hn : nth _ _ = o
      obtain rfl : o = some (sl32 (s.l.getD j 0)) := hn.symm.trans (by
        show nth (mix s t j ++ ex.map SL.v) (0 + j * 1) = _
        rw [Nat.zero_add, Nat.mul_one]
        exact mixX_get s t (ex.map SL.v) j hlt)
      clear hn
      refine ⟨Sub.of (List.nil_sublist _) (List.Sublist.refl _), _, add32 _ _, j, rfl, hlt, ?_⟩
      conv => whnf
      generalize h1 : Nat.ble _ _ = b1
      obtain rfl : b1 = true := h1.symm.trans (by
        show Nat.ble (0 + j * 1 + 1) (mix s t j ++ ex.map SL.v).length = true
        rw [List.length_append, mix_len s t j (by omega), Nat.ble_eq]; omega)
      clear h1
      refine ⟨Sub.of (List.nil_sublist _) (List.Sublist.refl _), ?_⟩
      refine ⟨((j + 1 : Nat) : Int), by rw [wrap_i64 (by omega) (by omega)]; rfl, ?_⟩
      refine ⟨j + 1, by omega, by omega, Ent.mk' ⟨rfl, rfl, rfl, trivial⟩ rfl (fun β w' hs => ?_)⟩
      have e1 := mixX_set s t (ex.map SL.v) j hlt
      rw [← e1]
      have e3 : 0 + j * 1 = j := by omega
      have hs2 : Sat (cx_sha_state_step w (Un [stG b ty s ex]) [b]) β 2 [⟨1, 332, ws.map sl32⟩, ⟨0, ty, putAll (mix s t j ++ ex.map SL.v) (0 + j * 1) [sl32 (s.l.getD j 0 + t.l.getD j 0)]⟩] [bsF A l, oddF 5] w' := hs
      rw [e3] at hs2
      exact hs2
    · obtain rfl : j = 8 := by omega
      intro β w' hs
      have h1 := hs.weaken (List.sublist_cons_self _ _) (List.Sublist.refl _)
      have h2 := h1.ofBk
      have hb : β 0 = b := h2.fix.2 0 (Nat.zero_lt_one)
      refine h2.fin [0] ⟨rfl, ?_⟩
      show [bkF (β 0) ty ((mix s t 8 ++ ex.map SL.v).map (SL.val β))] = [stG b ty (s.add t) ex]
      rw [hb, List.map_append, List.map_map, show SL.val β ∘ SL.v = id from rfl, List.map_id]
      rfl
theorem Mem.lastRo {w : World} {f R X : Fact} {A : Option Addr} {l : List UInt8} (h : Mem w [f, R, X, rdoF 1 A l.length (l.map byte)]) : Mem w [f, R, X, bsF A l] := by
  refine ⟨fun g hg => ?_, fun g hg k hk => ?_, ?_⟩
  · simp only [List.mem_cons, List.not_mem_nil, or_false] at hg
    rcases hg with rfl | rfl | rfl | rfl
    · exact h.fact _ (by simp)
    · exact h.fact _ (by simp)
    · exact h.fact _ (by simp)
    · exact h.fact (rdoF 1 A l.length (l.map byte)) (by simp)
  · simp only [List.mem_cons, List.not_mem_nil, or_false] at hg
    rcases hg with rfl | rfl | rfl | rfl
    · exact h.flt _ (by simp) k hk
    · exact h.flt _ (by simp) k hk
    · exact h.flt _ (by simp) k hk
    · exact h.flt (rdoF 1 A l.length (l.map byte)) (by simp) k hk
  · have hs := h.sepf
    simp only [List.pairwise_cons, List.mem_cons, List.not_mem_nil, or_false, forall_eq_or_imp, forall_eq, false_implies, implies_true, List.Pairwise.nil, and_true] at hs ⊢
    obtain ⟨⟨a1, a2, a3⟩, ⟨b1, b2⟩, c1⟩ := hs
    exact ⟨⟨a1, a2, fun _ => a3 (.inr rfl)⟩, ⟨b1, fun _ => b2 (.inr rfl)⟩, fun _ => c1 (.inr rfl)⟩
theorem sumJ_c (w : World) (P : Option Addr) (nP cP : Nat) (l : List UInt8) (hj : ∀ w', (oldF w).p w' → Con Tryz.prog n_bytes_Join #[.slice P nP cP, .slice none 0 0] w' [] (readOut l)) (hn : l.length ≤ 70368744177664) (h1 : (oddF 5).p w) (h0 : (firstF 2).p w) :
    Con Tryz.prog n_sha_Sum #[.slice P nP cP] w [] fun v Fs => ∃ A' c', v = .slice A' 32 c' ∧ 32 ≤ c' ∧ c' ≤ maxLen ∧ Fs = [browF ty_uint8 A' (Sha.sum l) c'] := by
  have g := good_sha_Sum w (Un [])
  have hs0 : Sat (cx_sha_Sum w (Un [])) Va.z 0 [] [oldF w] w := old_sat rfl
  have hs1 : Sat (cx_sha_Sum w (Un [])) Va.z 0 [] [oddF 5, oldF w] w := hs0.sub 0 rfl rfl _ rfl h1 (rd_lt h1)
  refine con_of_sx (cx := cx_sha_Sum w (Un [])) g b_sha_Sum rfl rfl (β := Va.z) [.c (.v (.slice P nP cP))] 0 [] [oddF 5, oldF w] rfl rfl hs1 ?_
  refine ⟨Sha.first.l.map u32, rfl, fun β w' hs j u hu => ?_, ?_⟩
  · have h2 : Rd 1 (some ⟨2, 0, none⟩) 8 (Sha.first.l.map u32) w' := Rd.old h0 (hs.get 1 rfl)
    obtain ⟨ad, h3, h4⟩ := h2.2 (by decide)
    obtain rfl := Option.some.inj h3
    exact h4 j u hu
  refine call_con [] (fun β w' hs => hj w' (hs.get 1 rfl)) ?_
  rintro v Fs ⟨A1, c1, rfl, h2, h3, rfl⟩
  refine call_con [] (fun β w' hs => Blocks_c w' A1 l.length c1) ?_
  rintro v Fs ⟨bx, rfl, rfl⟩
  refine reify_rule g 0 (fun _ => Sha.first.l.map u32) rfl rfl (fun _ => rfl) (fun sb => ?_)
  obtain ⟨q, hq⟩ : ∃ q, l ++ ends l.length = q := ⟨_, rfl⟩
  have hsum : Sha.sum l = out ((blks q (q.length / 64)).foldl Sha.step Sha.first) := by rw [← go_eq, ← hq]; rfl
  rw [hsum]
  refine range_rule (α := List UInt8) (ι := S8) (κ := S8) g rfl (cv := [.pointer (some ⟨bx, 0, none⟩)]) rfl (by kernel_rfl) 1 (Nat.le_refl 1)
    (fun pre s => s = pre.foldl Sha.step Sha.first) (fun _ => []) (fun s => [stF sb 291 s]) (fun _ => ⟨rfl, trivial⟩)
    (fun _ _ _ => False) (fun _ => []) (fun _ => []) (fun _ => trivial)
    [bkF bx ty_sl_uint8 [.slice A1 l.length c1]] [rdoF 1 A1 l.length (l.map byte)] [oddF 5] ⟨rfl, trivial⟩ (fun g hg => by obtain rfl := List.mem_singleton.1 hg; rfl)
    Sha.first rfl (fun β w' hs => ⟨β, Agr.refl _ _, hs.perm [1, 2, 0, 3]⟩) (fun _ => insB)
    (fun xs Fs' => xs = blks q (q.length / 64) ∧ Fs' = []) (fun _ Fs' => Fs' = [])
    (fun l' w' f0 R J Jx hJ0 hJo hRo hY hm => (blocks_it l' w' bx A1 l c1 f0 R J Jx hJ0 hJo hRo hY hn hm.lastRo).mono fun _ Fs h => by rw [hq] at h; exact h) ?_ ?_ ?_
  · rintro s pre x args X W S l' bs pn pn' hbs hpre ⟨hx, B, rfl, rfl⟩
    refine ⟨_, rfl, ?_⟩
    refine call_con [1] (fun β w' hs => step64_c w' sb 291 s B x hx (hs.mem.take (js := [1, 0, 2]) rfl)) ?_
    rintro v Fs ⟨rfl, rfl⟩
    refine ⟨Sha.step s x, by show Sha.step s x = (pre ++ [x]).foldl Sha.step Sha.first; rw [List.foldl_append, hpre]; rfl, Ent.mk' trivial rfl (fun β w' hs => ?_)⟩
    exact hs.weaken (List.Sublist.refl _) (List.Sublist.cons_cons _ (List.nil_sublist _))
  · rintro xs s Fs hpre ⟨rfl, rfl⟩
    refine call_con [0] (fun β w' hs => stbytes_c w' sb 291 s (hs.mem.take (js := [0]) rfl)) ?_
    rintro v Fs ⟨A3, c3, rfl, h5, h6, rfl⟩
    intro β w' hs
    refine hs.fin [1] ⟨A3, c3, rfl, h5, h6, ?_⟩
    rw [← hpre]
    rfl
  · rintro e pre s Fs h _
    exact h.elim
end Go.Proofs.YteenjgfbbkdlhaaGreatDoor.Sx

namespace Go.Proofs.YteenjgfbbkdlhaaGreatDoor.Sx
open Go
def keyL (l : List UInt8) : List UInt8 := if 64 < l.length then Sha.sum l else l
def padL (l : List UInt8) (x : UInt8) : List UInt8 := (keyL l).map (x ^^^ ·) ++ List.replicate (64 - (keyL l).length) x
def hmL (key text : List UInt8) : List UInt8 := Sha.sum (padL key 0x5c ++ Sha.sum (padL key 0x36 ++ text))
def strU (pass salt : List UInt8) : Nat → List UInt8
  | 0 => hmL pass (salt ++ Bx.be4 1)
  | n + 1 => hmL pass (strU pass salt n)
def strX (pass salt : List UInt8) : Nat → List UInt8
  | 0 => strU pass salt 0
  | n + 1 => Bx.xorB (strX pass salt n) (strU pass salt (n + 1))
def stretchL (pass salt : List UInt8) (rounds : Nat) : List UInt8 := strX pass salt (rounds - 1)
theorem sum_len (l : List UInt8) : (Sha.sum l).length = 32 := rfl
theorem keyL_len {l : List UInt8} : (keyL l).length ≤ 64 := by
  unfold keyL
  split
  · rw [sum_len]; omega
  · omega
theorem padL_len (l : List UInt8) (x : UInt8) : (padL l x).length = 64 := by
  unfold padL
  have := keyL_len (l := l)
  simp only [List.length_append, List.length_map, List.length_replicate]
  omega
theorem hmL_len (k t : List UInt8) : (hmL k t).length = 32 := rfl
theorem strU_len (p s : List UInt8) : ∀ n, (strU p s n).length = 32
  | 0 => rfl
  | _ + 1 => rfl
theorem strX_len (p s : List UInt8) : ∀ n, (strX p s n).length = 32
  | 0 => strU_len p s 0
  | n + 1 => by
    rw [strX, Bx.xorB, List.length_zipWith, strX_len p s n, strU_len p s (n + 1)]
    rfl
end Go.Proofs.YteenjgfbbkdlhaaGreatDoor.Sx

namespace Go.Proofs.YteenjgfbbkdlhaaGreatDoor.Sx
open Go
attribute [local irreducible] Calls
section
variable {cx : Cx} {β : Va} {n : Nat} {env : Env} {H : List Bk} {F : List Fact} {w : World}
theorem Sat.copyBk (h : Sat cx β n H F w) (g : Good cx) (j : Nat) {b o k c e m cs r : Nat} {A : Option Addr} {cells ys : List Value} (hj : nth F j = some (bkF b e cells)) (hr : Rd 1 A m ys w) (h1 : ∀ u ∈ ys, u.oneCell' = true)
    {t : TypeId} {i ie : TI} (ty : TypeId) (cst : Array Bool) (hm : min m k = r) (hfit : o + r ≤ cells.length) (hi : lk cx.tt t = some i := by rfl) (hd : i.desc = .slice e := by rfl) (hie : lk cx.tt e = some ie := by rfl) (hz : ie.size = 1 := by rfl) :
    ∃ w', (builtin .copy #[t, t] ty cst #[.slice (some ⟨b, o, none⟩) k c, .slice A m cs]).run cx.P w = .ok (.value (.int .i64 (r : Int))) w' ∧
      Sat cx β n H (putAt F j (bkF b e (putAll cells o (ys.take r)))) w' := by
  subst hm
  have ht := (g.ti hi).real (d := .slice _) hd rfl
  have tie := g.ti hie
  have hrt := hr.take (k := min m k) (Nat.min_le_left _ _)
  have hsz := tie.run_size w
  rw [hz] at hsz
  have hfc : (Builtin.firstCells 1 (min m k) (.slice A m cs)).run cx.P w = .ok (ys.take (min m k)).toArray w := by
    cases A with
    | none =>
      have h0 : min m k = 0 := by
        rcases Nat.eq_zero_or_pos (min m k) with q | q
        · exact q
        · obtain ⟨ad, q, _⟩ := hrt.2 q; cases q
      rw [h0]
      rfl
    | some ad =>
      have hl := run_loadCells_list (P := cx.P) (w := w) ad (ys.take (min m k)) (fun j u hu => by
        have hp : 0 < min m k := by
          rcases Nat.eq_zero_or_pos (min m k) with q | q
          · rw [q] at hu; simp at hu
          · exact q
        obtain ⟨ad', q, hc⟩ := hrt.2 hp
        obtain rfl := Option.some.inj q
        exact hc j u hu)
      have hlen : (ys.take (min m k)).length = min m k := by rw [hrt.1, Nat.mul_one]
      rw [hlen] at hl
      simpa [Builtin.firstCells] using hl
  obtain ⟨w', e1, e2⟩ := h.bkSet (us := ys.take (min m k)) (o := o) j hj (by rw [hrt.1]; omega) (fun u hu => h1 u (List.take_subset _ _ hu))
  rw [add_none, Nat.zero_add] at e1
  refine ⟨w', ?_, e2⟩
  have hmin : Nat.min m k = min m k := rfl
  simp [builtin, Builtin.copy_, run_underlying ht, Builtin.lenOf, hsz, hfc, e1, goInt, hmin]
end
theorem bk_rd {b e : Nat} {cells : List Value} {w : World} (h : (bkF b e cells).p w) {k : Nat} (hk : k ≤ cells.length) : Rd 1 (some ⟨b, 0, none⟩) k (cells.take k) w := by
  refine ⟨by rw [List.length_take]; omega, fun _ => ⟨_, rfl, fun j u hu => ?_⟩⟩
  rw [List.getElem?_take] at hu
  split at hu
  · rw [add_none, Nat.zero_add]
    have h' : w.heap[b]? = some (.cells cells.toArray e (0, 0)) := h
    rw [cell_of_row w b j _ _ _ h']
    simpa using hu
  · cases hu
theorem bk_bs {b e : Nat} {l : List UInt8} {junk : List Value} {w : World} (h : (bkF b e (l.map byte ++ junk)).p w) : Bs w (some ⟨b, 0, none⟩) l := by
  have := bk_rd h (k := l.length) (by simp)
  rwa [List.take_left' (by simp)] at this
theorem mul_c (w : World) : Pu Tryz.prog n_math_bits_Mul #[.int .u64 1, .int .u64 64] w (.tuple #[.int .u64 0, .int .u64 64]) := by
  refine pu_of (Calls.mono (Tryz.bits_Mul 1 64 (by decide) (by decide) w) ?_)
  rintro e w' ⟨rfl, rfl⟩
  exact ⟨_, rfl, rfl, Chg.refl _ _⟩
theorem mnz_run (w : World) (n : Nat) (hn : n ≤ 281474976710656) : ∃ cs : List Value, (callFunc 163 #[.int .i64 n]).run Tryz.prog w = .ok (.value (.slice (some ⟨w.heap.size, 0, none⟩) n cs.length)) (w.drew.drew.alloc (.cells cs.toArray ty_uint8)) ∧ n ≤ cs.length := by
  obtain ⟨cs, h1, h2, _⟩ := Lib.run_makeNoZero (P := Tryz.prog) w #[] ty_sl_uint8 ty_uint8 ((ok102).real (d := .slice _) rfl rfl) n hn
  refine ⟨cs.toList, ?_, by simpa using h2⟩
  have hx := run_callFunc_extern (P := Tryz.prog) (f := 163) (fn := Tryz.f163) (e := Extern.BytealgMakeNoZero.makeNoZero #[ty_int] #[ty_sl_uint8]) Tryz.func163 (by decide +kernel) rfl (by rfl) (by rfl) #[.int .i64 n] w
  rw [hx]
  have h1' : (Extern.BytealgMakeNoZero.makeNoZero #[ty_int] #[ty_sl_uint8] #[.int .i64 n]).run Tryz.prog w = _ := h1
  rw [h1']
  simp
end Go.Proofs.YteenjgfbbkdlhaaGreatDoor.Sx

namespace Go.Proofs.YteenjgfbbkdlhaaGreatDoor.Sx
open Go
attribute [local irreducible] Calls
theorem putAll_app {α : Type} (a b ys : List α) (h : ys.length ≤ b.length) : putAll (a ++ b) a.length ys = a ++ ys ++ b.drop ys.length := by
  rw [putAll_all _ _ _ (by simp; omega)]
  rw [List.take_left' rfl, List.drop_append]
  simp [show a.length + ys.length - a.length = ys.length by omega]
theorem cutA_at (b k : Nat) {m : Nat} (h : m ≠ k) : cutA (some ⟨b, 0, none⟩) m k 1 = some ⟨b, k, none⟩ := by
  unfold cutA
  rw [if_neg h]
  simp [add_none]
theorem cutA_0 (A : Option Addr) {m : Nat} (h : A = none ∨ ∃ b o, A = some ⟨b, o, none⟩) : cutA A m 0 1 = A := by
  unfold cutA
  split
  · rfl
  · rcases h with rfl | ⟨b, o, rfl⟩
    · rfl
    · simp [add_none]
def reps (k : Nat) (x : UInt8) : List Value := (List.replicate k x).map byte
theorem reps_len (k : Nat) (x : UInt8) : (reps k x).length = k := by simp [reps]
theorem reps_take {k r : Nat} (x : UInt8) (h : r ≤ k) : (reps k x).take r = reps r x := by
  unfold reps
  rw [← List.map_take, List.take_replicate, Nat.min_eq_left h]
theorem reps_add (k r : Nat) (x : UInt8) : reps k x ++ reps r x = reps (k + r) x := by
  unfold reps
  rw [← List.map_append, List.replicate_append_replicate]
theorem reps_one (k : Nat) (x : UInt8) : ∀ u ∈ reps k x, u.oneCell' = true := bytes_one _
set_option maxHeartbeats 1000000 in
theorem repeat64_c (w : World) (B : Option Addr) (cB : Nat) (x : UInt8) (hr : Rd 1 B 1 [byte x] w) :
    Con Tryz.prog n_bytes_Repeat #[.slice B 1 cB, .int .i64 64] w [] fun v Fs => ∃ b junk, v = .slice (some ⟨b, 0, none⟩) 64 64 ∧ Fs = [bkF b ty_uint8 (reps 64 x ++ junk)] := by
  have g := good_bytes_Repeat w (Un [])
  refine con_of_sx (cx := cx_bytes_Repeat w (Un [])) g b_bytes_Repeat rfl rfl (β := Va.z) [.c (.v (.slice B 1 cB)), .c (.v (.int .i64 64))] 0 [] [oldF w] rfl rfl (old_sat rfl) ?_
  refine ⟨1, by decide, 64, by decide, ?_⟩
  refine call_pu (fun β w' hs => mul_c w') ?_
  refine ⟨64, by decide, ?_⟩
  refine .inr (fun β w' hs => ?_)
  obtain ⟨cs, hrun, hcs⟩ := mnz_run w' 64 (by decide)
  have hs1 : Sat (cx_bytes_Repeat w (Un [])) β 0 [] (bkF w'.heap.size ty_uint8 cs :: [oldF w]) (w'.drew.drew.alloc (.cells cs.toArray ty_uint8)) := by
    refine hs.drew.drew.add (Chg.alloc _ _) _ (heap_alloc_new _ _) (fun k hk => ?_)
    obtain rfl : k = w'.heap.size := hk
    exact ⟨Nat.le_refl _, by simp⟩
  refine ⟨_, _, hrun, Ret.mk [] _ hs1 ?_⟩
  obtain ⟨b, hb⟩ : ∃ b, w'.heap.size = b := ⟨_, rfl⟩
  rw [hb]
  clear hs1 hrun hs
  refine ⟨64, 64, 0, 64, 64, some ⟨b, 0, none⟩, rfl, rfl, rfl, hcs, Nat.le_refl _, Nat.zero_le _, rfl, rfl, cutA_0 _ (.inr ⟨b, 0, rfl⟩), ?_⟩
  refine ⟨[], [bkF b ty_uint8 (reps 1 x ++ cs.drop 1), oldF w], .c (.v (.int .i64 1)), fun β w' ty hs => ?_, trivial, ?_⟩
  · obtain ⟨w2, q1, q2⟩ := hs.copyBk g 0 rfl (hr.old (hs.get 1 rfl)) (reps_one 1 x) ty (t := ty_sl_uint8) #[false, false] (r := 1) (k := 64) (m := 1) (c := 64) (cs := cB) (o := 0) rfl (by omega)
    have e1 : putAll cs 0 ([byte x].take 1) = reps 1 x ++ cs.drop 1 := by
      have := putAll_app [] cs [byte x] (by simp; omega)
      show putAll cs 0 [byte x] = [byte x] ++ cs.drop 1
      simpa using this
    rw [e1] at q2
    exact ⟨w2, q1, q2⟩
  refine loop_rule (ι := Nat × List Value) 0 (fun i => [(7, .c (.v (.int .i64 64))), (8, .c (.v (.int .i64 64))), (9, .c (.v (.slice (some ⟨b, 0, none⟩) 64 64))), (10, .c (.v (.int .i64 (i.1 : Int))))]) (fun _ => []) (fun i => [bkF b ty_uint8 (reps i.1 x ++ i.2), oldF w])
    (fun i => 1 ≤ i.1 ∧ i.1 ≤ 64 ∧ 64 ≤ i.1 + i.2.length) (fun i => 64 - i.1) (1, cs.drop 1) ⟨Nat.le_refl _, by show 1 ≤ 64; decide, by simp only [List.length_drop]; omega⟩ (Ent.same ⟨rfl, rfl, rfl, rfl, trivial⟩ rfl) g ?_
  rintro ⟨k, junk⟩ ⟨h1, h2, h3⟩
  simp only at h1 h2 h3
  refine BIf.dec (fun hlt => ?_) (fun hge => ?_)
  · have hlt0 : (k : Int) < 64 := hlt
    have hk : k < 64 := by omega
    obtain ⟨r, hr0⟩ : ∃ r, min k (64 - k) = r := ⟨_, rfl⟩
    refine ⟨(k : Int), by show min (k : Int) 64 = k; omega, ?_⟩
    refine draw_rule g p_bytes_Repeat_20 (by kernel_rfl) [] [] (Sub.of (List.Sublist.refl _) (List.nil_sublist _)) ?_
    refine ⟨64, 64, k, 64 - k, 64 - k, some ⟨b, k, none⟩, rfl, rfl, rfl, Nat.le_refl _, Nat.le_refl _, by omega, rfl, rfl, cutA_at b k (by omega), ?_⟩
    refine ⟨64, k, 0, k, 64, some ⟨b, 0, none⟩, rfl, rfl, rfl, Nat.le_refl _, by omega, Nat.zero_le _, rfl, rfl, cutA_0 _ (.inr ⟨b, 0, rfl⟩), ?_⟩
    refine ⟨[], [bkF b ty_uint8 (reps (k + r) x ++ junk.drop r), oldF w], .c (.v (.int .i64 (r : Int))), fun β w' ty hs => ?_, trivial, ?_⟩
    · have hrd : Rd 1 (some ⟨b, 0, none⟩) k (reps k x) w' := by
        have := bk_rd (hs.get 0 rfl) (k := k) (by simp [reps_len])
        rwa [List.take_left' (reps_len k x)] at this
      obtain ⟨w2, q1, q2⟩ := hs.copyBk g 0 rfl hrd (reps_one k x) ty (t := ty_sl_uint8) #[false, false] (r := r) (k := 64 - k) (m := k) (c := 64 - k) (cs := 64) (o := k) hr0 (by simp only [List.length_append, reps_len]; omega)
      have e1 : putAll (reps k x ++ junk) k ((reps k x).take r) = reps (k + r) x ++ junk.drop r := by
        have := putAll_app (reps k x) junk ((reps k x).take r) (by rw [List.length_take, reps_len]; omega)
        rw [reps_len] at this
        rw [this, reps_take x (by omega), reps_add, reps_len]
      rw [e1] at q2
      exact ⟨w2, q1, q2⟩
    refine ⟨Sub.of (List.Sublist.refl _) (List.nil_sublist _), ((k + r : Nat) : Int), by rw [wrap_i64 (by omega) (by omega)]; omega, ?_⟩
    exact ⟨(k + r, junk.drop r), ⟨by show 1 ≤ k + r; omega, by show k + r ≤ 64; omega, by show 64 ≤ k + r + (junk.drop r).length; rw [List.length_drop]; omega⟩, by show 64 - (k + r) < 64 - k; omega, Ent.same ⟨rfl, rfl, rfl, rfl, trivial⟩ rfl⟩
  · have hge0 : ¬ (k : Int) < 64 := hge
    obtain rfl : k = 64 := by omega
    intro β w' hs
    exact hs.fin [0] ⟨b, junk, rfl, rfl⟩
def padN (k : List UInt8) (x : UInt8) (i : Nat) : List UInt8 := (k.take i).map (x ^^^ ·) ++ List.replicate (64 - i) x
theorem padN_len {k : List UInt8} {x : UInt8} {i : Nat} (h : i ≤ k.length) (h2 : i ≤ 64) : (padN k x i).length = 64 := by
  unfold padN
  simp only [List.length_append, List.length_map, List.length_take, List.length_replicate]
  omega
theorem padN_at {k : List UInt8} {x : UInt8} {i : Nat} (h : i < k.length) (h2 : i < 64) : (padN k x i)[i]? = some x := by
  unfold padN
  rw [List.getElem?_append_right (by simp only [List.length_map, List.length_take]; omega)]
  simp only [List.length_map, List.length_take]
  rw [List.getElem?_replicate, if_pos (by omega)]
theorem padN_set {k : List UInt8} {x y : UInt8} {i : Nat} (h : k[i]? = some y) (h2 : i < 64) : (padN k x i).set i (x ^^^ y) = padN k x (i + 1) := by
  have hi : i < k.length := (List.getElem?_eq_some_iff.1 h).1
  unfold padN
  rw [List.set_append_right _ _ (by simp only [List.length_map, List.length_take]; omega)]
  simp only [List.length_map, List.length_take]
  rw [show i - min i k.length = 0 by omega, show 64 - i = (64 - (i + 1)) + 1 by omega, List.replicate_succ, List.set_cons_zero, List.take_add_one, h]
  simp
theorem padN_all (k : List UInt8) (x : UInt8) : padN k x k.length = k.map (x ^^^ ·) ++ List.replicate (64 - k.length) x := by
  unfold padN
  rw [List.take_length]
theorem Con.real {P : Program} {k : FuncId} {args : Array Value} {w : World} {Gs : List Fact} {R : Value → List Fact → Prop} (h : Con P k args w Gs R) : Con P k args w Gs (fun v Fs => R v Fs ∧ ∃ w', Mem w' Fs) :=
  Calls.mono h fun _ w' ⟨v, he, Fs, hR, hc, hm, ho, hD⟩ => ⟨v, he, Fs, ⟨hR, w', hm⟩, hc, hm, ho, hD⟩
theorem padN_0 (k : List UInt8) (x : UInt8) : (padN k x 0).map byte = reps 64 x := by simp [padN, reps]
set_option maxHeartbeats 1000000 in
theorem pad_c (w : World) (A : Option Addr) (l : List UInt8) (c : Nat) (x : UInt8) (hr : Bs w A l) (hn : l.length ≤ 1000000) (h1 : (oddF 5).p w) (h0 : (firstF 2).p w) :
    Con Tryz.prog n_hmac_pad #[.slice A l.length c, byte x] w [] fun v Fs => ∃ b junk, v = .slice (some ⟨b, 0, none⟩) 64 64 ∧ Fs = [bkF b ty_uint8 ((padL l x).map byte ++ junk)] := by
  have g := good_hmac_pad w (Un [])
  refine con_of_sx (cx := cx_hmac_pad w (Un [])) g b_hmac_pad rfl rfl (β := Va.z) [.c (.v (.slice A l.length c)), .c (.v (byte x))] 0 [] [oldF w] rfl rfl (old_sat rfl) ?_
  refine BIf.dec (fun hlt => ?_) (fun hge => ?_)
  · have hlt0 : (64 : Int) < (l.length : Int) := hlt
    intro b0
    obtain ⟨k, hks⟩ : ∃ k, Sha.sum l = k := ⟨_, rfl⟩
    have hk : keyL l = k := by unfold keyL; rw [if_pos (by omega)]; exact hks
    have hk64 : k.length ≤ 64 := by rw [← hk]; exact keyL_len
    refine call_con [] (R := fun v Fs => (∃ A' c', v = .slice A' k.length c' ∧ Fs = [browF ty_uint8 A' k c']) ∧ ∃ w', Mem w' Fs) (fun β w' hs => ((sum1_c w' (some ⟨b0, 0, none⟩) A 1 c l (row_rd (hs.get 0 rfl)) (Rd.old hr (hs.get 1 rfl)) (by omega) (Rd.old h1 (hs.get 1 rfl)) (Rd.old h0 (hs.get 1 rfl))).mono (by rintro v Fs ⟨A', c', rfl, _, _, rfl⟩; exact ⟨A', c', by rw [← hks]; rfl, by rw [hks]⟩)).real) ?_
    rintro v Fs ⟨⟨A2, c2, rfl, rfl⟩, w9, hm9⟩
    have hkr : ∀ {w'}, (browF ty_uint8 A2 k c2).p w' → Bs w' A2 k := fun h => row_rd h
    have hka : 0 < k.length → ∃ ad, A2 = some ad := fun h => Bs.addr (hkr (hm9.fact _ List.mem_cons_self)) h
    intro b1
    refine call_con [] (fun β w' hs => repeat64_c w' (some ⟨b1, 0, none⟩) 1 x (row_rd (hs.get 0 rfl))) ?_
    rintro v Fs ⟨b, junk, rfl, rfl⟩
    refine loop_rule (ι := Nat) 0 (fun i => [(17, .c (.v (.slice A2 k.length c2))), (18, .c (.v (.int .i64 (k.length : Int)))), (19, .c (.v (.int .i64 (i : Int)))), (5, .c (.v (.slice (some ⟨b, 0, none⟩) 64 64)))]) (fun _ => []) (fun i => [bkF b ty_uint8 ((padN k x i).map byte ++ junk), browF ty_uint8 A2 k c2])
      (fun i => i ≤ k.length) (fun i => k.length - i) 0 (Nat.zero_le _) (Ent.mk' ⟨rfl, rfl, rfl, rfl, trivial⟩ rfl (fun β w' hs => by rw [padN_0]; exact hs.perm [0, 2])) g ?_
    intro i hi
    refine BIf.dec (fun hlt2 => ?_) (fun hge2 => ?_)
    · have hlt0 : (i : Int) < (k.length : Int) := hlt2
      have hik : i < k.length := by omega
      obtain ⟨y, hy, _⟩ := at_lt hik
      obtain ⟨ad, hA⟩ := hka (by omega)
      refine ⟨ad, i, hA, rfl, hik, byte y, fun β w' hs => by
        have h := hkr (hs.get 1 rfl)
        rw [hA] at h
        exact Rd.cell1 h (by rw [List.getElem?_map, hy]; rfl), ?_⟩
      refine ⟨⟨b, 0, none⟩, i, rfl, rfl, by omega, byte x, fun β w' hs => by
        have h := bk_bs (hs.get 0 rfl)
        exact Rd.cell1 h (by rw [List.getElem?_map, padN_at hik (by omega)]; rfl), _, xor8 x y, ?_⟩
      refine ⟨⟨b, 0, none⟩, i, rfl, rfl, by omega, [bkF b ty_uint8 ((padN k x (i + 1)).map byte ++ junk), browF ty_uint8 A2 k c2], fun β w' hs => ?_, ?_⟩
      · have hpl := padN_len (k := k) (x := x) (i := i) (by omega) (by omega)
        obtain ⟨w2, q1, q2⟩ := hs.bkSet 0 (o := i) (us := [byte (x ^^^ y)]) rfl (by simp only [List.length_append, List.length_map, hpl, List.length_singleton]; omega) (fun u hu => by obtain rfl := List.mem_singleton.1 hu; rfl)
        have e : putAll ((padN k x i).map byte ++ junk) i [byte (x ^^^ y)] = (padN k x (i + 1)).map byte ++ junk := by
          rw [putAll, putAll, putAt_eq, List.set_append_left _ _ (by rw [List.length_map, hpl]; omega), ← padN_set hy (by omega), List.map_set]
        rw [e] at q2
        have q1' : (storeCells ((⟨b, 0, none⟩ : Addr).add (i * 1)) [byte (x ^^^ y)] 0).run (cx_hmac_pad w (Un [])).P w' = .ok () w2 := by rw [Nat.mul_one]; exact q1
        exact ⟨w2, q1', q2⟩
      · refine ⟨((i + 1 : Nat) : Int), by rw [wrap_i64 (by omega) (by omega)]; rfl, ?_⟩
        exact ⟨i + 1, hik, by omega, Ent.same ⟨rfl, rfl, rfl, rfl, trivial⟩ rfl⟩
    · have hge0 : ¬ (i : Int) < (k.length : Int) := hge2
      obtain rfl : i = k.length := by omega
      intro β w' hs
      refine hs.fin [0] ⟨b, junk, rfl, ?_⟩
      rw [padN_all]
      unfold padL
      rw [hk]
      rfl
  · have hge0 : ¬ (64 : Int) < (l.length : Int) := hge
    obtain ⟨k, hks⟩ : ∃ k, l = k := ⟨_, rfl⟩
    have hk : keyL l = k := by unfold keyL; rw [if_neg (by omega)]; exact hks
    have hk64 : k.length ≤ 64 := by rw [← hk]; exact keyL_len
    rw [hks] at hr
    have hlk : l.length = k.length := by rw [hks]
    rw [hlk]
    have hkr : ∀ {w'}, (oldF w).p w' → Bs w' A k := fun h => Rd.old hr h
    have hka : 0 < k.length → ∃ ad, A = some ad := fun h => hr.addr h
    intro b1
    refine call_con [] (fun β w' hs => repeat64_c w' (some ⟨b1, 0, none⟩) 1 x (row_rd (hs.get 0 rfl))) ?_
    rintro v Fs ⟨b, junk, rfl, rfl⟩
    refine loop_rule (ι := Nat) 0 (fun i => [(17, .c (.v (.slice A k.length c))), (18, .c (.v (.int .i64 (k.length : Int)))), (19, .c (.v (.int .i64 (i : Int)))), (5, .c (.v (.slice (some ⟨b, 0, none⟩) 64 64)))]) (fun _ => []) (fun i => [bkF b ty_uint8 ((padN k x i).map byte ++ junk), oldF w])
      (fun i => i ≤ k.length) (fun i => k.length - i) 0 (Nat.zero_le _) (Ent.mk' ⟨rfl, rfl, rfl, rfl, trivial⟩ rfl (fun β w' hs => by rw [padN_0]; exact hs.perm [0, 2])) g ?_
    intro i hi
    refine BIf.dec (fun hlt2 => ?_) (fun hge2 => ?_)
    · have hlt0 : (i : Int) < (k.length : Int) := hlt2
      have hik : i < k.length := by omega
      obtain ⟨y, hy, _⟩ := at_lt hik
      obtain ⟨ad, hA⟩ := hka (by omega)
      refine ⟨ad, i, hA, rfl, hik, byte y, fun β w' hs => by
        have h := hkr (hs.get 1 rfl)
        rw [hA] at h
        exact Rd.cell1 h (by rw [List.getElem?_map, hy]; rfl), ?_⟩
      refine ⟨⟨b, 0, none⟩, i, rfl, rfl, by omega, byte x, fun β w' hs => by
        have h := bk_bs (hs.get 0 rfl)
        exact Rd.cell1 h (by rw [List.getElem?_map, padN_at hik (by omega)]; rfl), _, xor8 x y, ?_⟩
      refine ⟨⟨b, 0, none⟩, i, rfl, rfl, by omega, [bkF b ty_uint8 ((padN k x (i + 1)).map byte ++ junk), oldF w], fun β w' hs => ?_, ?_⟩
      · have hpl := padN_len (k := k) (x := x) (i := i) (by omega) (by omega)
        obtain ⟨w2, q1, q2⟩ := hs.bkSet 0 (o := i) (us := [byte (x ^^^ y)]) rfl (by simp only [List.length_append, List.length_map, hpl, List.length_singleton]; omega) (fun u hu => by obtain rfl := List.mem_singleton.1 hu; rfl)
        have e : putAll ((padN k x i).map byte ++ junk) i [byte (x ^^^ y)] = (padN k x (i + 1)).map byte ++ junk := by
          rw [putAll, putAll, putAt_eq, List.set_append_left _ _ (by rw [List.length_map, hpl]; omega), ← padN_set hy (by omega), List.map_set]
        rw [e] at q2
        have q1' : (storeCells ((⟨b, 0, none⟩ : Addr).add (i * 1)) [byte (x ^^^ y)] 0).run (cx_hmac_pad w (Un [])).P w' = .ok () w2 := by rw [Nat.mul_one]; exact q1
        exact ⟨w2, q1', q2⟩
      · refine ⟨((i + 1 : Nat) : Int), by rw [wrap_i64 (by omega) (by omega)]; rfl, ?_⟩
        exact ⟨i + 1, hik, by omega, Ent.same ⟨rfl, rfl, rfl, rfl, trivial⟩ rfl⟩
    · have hge0 : ¬ (i : Int) < (k.length : Int) := hge2
      obtain rfl : i = k.length := by omega
      intro β w' hs
      refine hs.fin [0] ⟨b, junk, rfl, ?_⟩
      rw [padN_all]
      unfold padL
      rw [hk]
      rfl
end Go.Proofs.YteenjgfbbkdlhaaGreatDoor.Sx

namespace Go.Proofs.YteenjgfbbkdlhaaGreatDoor.Sx
open Go
attribute [local irreducible] Calls
structure Ro where
  A : Option Addr
  c : Nat
  l : List UInt8
  hc : l.length ≤ c
def Ro.v (r : Ro) : Value := .slice r.A r.l.length r.c
def Ro.f (r : Ro) : Fact := rdoF 1 r.A r.l.length (r.l.map byte)
theorem rdo_rd {size : Nat} {A : Option Addr} {k : Nat} {xs : List Value} {w : World} (h : (rdoF size A k xs).p w) : Rd size A k xs w := h
theorem browRo {e : Nat} {A : Option Addr} {l : List UInt8} {c : Nat} {w : World} (h : (browF e A l c).p w) : (rdoF 1 A l.length (l.map byte)).p w := row_rd h
theorem browRoD {e : Nat} {A : Option Addr} {l : List UInt8} {c : Nat} {w : World} (h : (browF e A l c).p w) : ∀ k, (rdoF 1 A l.length (l.map byte)).D k → (browF e A l c).D k := by
  rintro k ⟨hk, ad, q, rfl⟩
  have hl : 0 < l.length := by
    have : 0 < l.length * 1 := hk
    omega
  have q' : A = some ad := q
  rcases h.2 with ⟨he, h0⟩ | ⟨g, cap, cur, he, _⟩
  · omega
  · have hA : A = some ⟨g, 0, none⟩ := by injection he
    rw [q'] at hA
    obtain rfl := Option.some.inj hA
    show Value.ownBlock (.slice A l.length c) = _
    rw [q']
    rfl
inductive Recs (w' : World) : List Fact → List Fact → Prop
  | nil : Recs w' [] []
  | cons {f g : Fact} {Fs Gs : List Fact} (h : g.own = true ∧ (f.p w' → g.p w') ∧ ∀ k, g.D k → f.D k) (r : Recs w' Fs Gs) : Recs w' (f :: Fs) (g :: Gs)
theorem Fin.recast {w : World} {Gs : List Fact} {R R' : Value → List Fact → Prop} {v : Value} {w' : World} (h : Fin w Gs R v w')
    (hr : ∀ Fs, R v Fs → (∀ f ∈ Fs, f.p w') → ∃ Fs', R' v Fs' ∧ Recs w' Fs Fs') : Fin w Gs R' v w' := by
  obtain ⟨Fs, h1, h2, h3, h4, h5⟩ := h
  obtain ⟨Fs', q1, q2⟩ := hr Fs h1 h3.fact
  have key : ∀ {Fs Fs' : List Fact}, Recs w' Fs Fs' → Mem w' Fs → Owns Fs → Mem w' Fs' ∧ Owns Fs' ∧ ∀ g ∈ Fs', ∃ f ∈ Fs, ∀ k, g.D k → f.D k := by
    intro Fs Fs' hf
    induction hf with
    | nil => intro _ _; exact ⟨⟨fun _ q => (by cases q), fun _ q => (by cases q), List.Pairwise.nil⟩, trivial, fun _ q => (by cases q)⟩
    | @cons f g Fs Fs' hfg hrest ih =>
      intro hm ho
      obtain ⟨i1, i2, i3⟩ := ih ⟨fun x hx => hm.fact x (List.mem_cons_of_mem _ hx), fun x hx => hm.flt x (List.mem_cons_of_mem _ hx), (List.pairwise_cons.1 hm.sepf).2⟩ ho.2
      refine ⟨⟨fun x hx => ?_, fun x hx k hk => ?_, List.pairwise_cons.2 ⟨fun x hx _ k hk hk' => ?_, i1.sepf⟩⟩, ⟨hfg.1, i2⟩, fun x hx => ?_⟩
      · rcases List.mem_cons.1 hx with rfl | hx
        · exact hfg.2.1 (hm.fact f List.mem_cons_self)
        · exact i1.fact x hx
      · rcases List.mem_cons.1 hx with rfl | hx
        · exact hm.flt f List.mem_cons_self k (hfg.2.2 k hk)
        · exact i1.flt x hx k hk
      · obtain ⟨y, hy, hyd⟩ := i3 x hx
        exact (List.pairwise_cons.1 hm.sepf).1 y hy (.inl ho.1) k (hfg.2.2 k hk) (hyd k hk')
      · rcases List.mem_cons.1 hx with rfl | hx
        · exact ⟨f, List.mem_cons_self, hfg.2.2⟩
        · obtain ⟨y, hy, hyd⟩ := i3 x hx
          exact ⟨y, List.mem_cons_of_mem _ hy, hyd⟩
  obtain ⟨k1, k2, k3⟩ := key q2 h3 h4
  exact ⟨Fs', q1, h2, k1, k2, fun g hg k hk => by obtain ⟨f, hf, hfd⟩ := k3 g hg; exact h5 f hf k (hfd k hk)⟩
theorem cloneRo_c (w : World) (A : Option Addr) (l : List UInt8) (n c : Nat) (hn : n = l.length) (hr : Bs w A l) (hl : l.length ≤ 1000000) :
    Con Tryz.prog n_bytes_Clone #[.slice A n c] w [] fun v Fs => ∃ r : Ro, r.l = l ∧ v = r.v ∧ Fs = [r.f] := by
  subst hn
  refine Calls.mono (clone_c w A l c hr (by omega)) ?_
  rintro e w' ⟨v, rfl, hf⟩
  refine ⟨v, rfl, hf.recast ?_⟩
  rintro Fs ⟨A', c', rfl, hc, _, rfl⟩ hp
  have hp0 := hp _ List.mem_cons_self
  exact ⟨[Ro.f ⟨A', c', l, hc⟩], ⟨⟨A', c', l, hc⟩, rfl, rfl, rfl⟩, .cons ⟨rfl, fun h => browRo h, browRoD hp0⟩ .nil⟩
theorem Un.app {A B : List Fact} {k : Nat} : Un (A ++ B) k ↔ Un A k ∨ Un B k := by
  unfold Un
  constructor
  · rintro ⟨g, hg, hk⟩
    rcases List.mem_append.1 hg with h | h
    · exact .inl ⟨g, h, hk⟩
    · exact .inr ⟨g, h, hk⟩
  · rintro (⟨g, hg, hk⟩ | ⟨g, hg, hk⟩)
    · exact ⟨g, List.mem_append_left _ hg, hk⟩
    · exact ⟨g, List.mem_append_right _ hg, hk⟩
theorem Un.cons {x : Fact} {B : List Fact} {k : Nat} : Un (x :: B) k ↔ x.D k ∨ Un B k := by
  unfold Un
  constructor
  · rintro ⟨g, hg, hk⟩
    rcases List.mem_cons.1 hg with rfl | h
    · exact .inl hk
    · exact .inr ⟨g, h, hk⟩
  · rintro (hk | ⟨g, hg, hk⟩)
    · exact ⟨x, List.mem_cons_self, hk⟩
    · exact ⟨g, List.mem_cons_of_mem _ hg, hk⟩
theorem sep_mid {A B : List Fact} {x : Fact} {w : World} : (sepF (A ++ x :: B)).p w ↔ x.p w ∧ (sepF (A ++ B)).p w ∧ ∀ k, x.D k → ¬ Un (A ++ B) k := by
  show ((∀ f ∈ A ++ x :: B, f.p w) ∧ (A ++ x :: B).Pairwise _) ↔ x.p w ∧ ((∀ f ∈ A ++ B, f.p w) ∧ (A ++ B).Pairwise _) ∧ _
  rw [List.pairwise_append, List.pairwise_cons, List.pairwise_append]
  constructor
  · rintro ⟨h1, h2, ⟨h3, h4⟩, h5⟩
    refine ⟨h1 x (by simp), ⟨fun f hf => h1 f ?_, h2, h4, fun a ha b hb => h5 a ha b (List.mem_cons_of_mem _ hb)⟩, fun k hk q => ?_⟩
    · rcases List.mem_append.1 hf with h | h
      · exact List.mem_append_left _ h
      · exact List.mem_append_right _ (List.mem_cons_of_mem _ h)
    · rcases Un.app.1 q with ⟨g, hg, hk'⟩ | ⟨g, hg, hk'⟩
      · exact h5 g hg x List.mem_cons_self k hk' hk
      · exact h3 g hg k hk hk'
  · rintro ⟨h1, ⟨h2, h3, h4, h5⟩, h6⟩
    refine ⟨fun f hf => ?_, h3, ⟨fun g hg k hk hk' => h6 k hk (Un.app.2 (.inr ⟨g, hg, hk'⟩)), h4⟩, fun a ha b hb k hk hk' => ?_⟩
    · rcases List.mem_append.1 hf with h | h
      · exact h2 f (List.mem_append_left _ h)
      · rcases List.mem_cons.1 h with rfl | h
        · exact h1
        · exact h2 f (List.mem_append_right _ h)
    · rcases List.mem_cons.1 hb with rfl | hb
      · exact h6 k hk' (Un.app.2 (.inl ⟨a, ha, hk⟩))
      · exact h5 a ha b hb k hk hk'
section
variable {cx : Cx} {β : Va} {n : Nat} {H : List Bk} {F : List Fact} {w : World}
theorem Sat.focus (h : Sat cx β n H F w) (j : Nat) {A B : List Fact} {x : Fact} (hj : nth F j = some (sepF (A ++ x :: B))) (hx : x.own = true) : Sat cx β n H (x :: sepF (A ++ B) :: dropIx [j] 0 F) w := by
  have hp := sep_mid.1 (h.get j hj)
  have hl := h.getLt j hj
  have htk : takeIx F [j] = [sepF (A ++ x :: B)] := by simp only [takeIx, hj]
  have hin : ∀ k, x.D k ∨ Un (A ++ B) k → Un (A ++ x :: B) k := by
    intro k hk
    rcases hk with hk | hk
    · exact Un.app.2 (.inr (Un.cons.2 (.inl hk)))
    · rcases Un.app.1 hk with hk | hk
      · exact Un.app.2 (.inl hk)
      · exact Un.app.2 (.inr (Un.cons.2 (.inr hk)))
  refine h.swap [j] (by rw [htk]; exact ⟨rfl, trivial⟩) (Fs := [x, sepF (A ++ B)]) (Chg.refl _ _) ⟨fun f hf => ?_, fun f hf k hk => ?_, ?_⟩ (fun f hf k hk => ?_)
  · simp only [List.mem_cons, List.not_mem_nil, or_false] at hf
    rcases hf with rfl | rfl
    · exact hp.1
    · exact hp.2.1
  · simp only [List.mem_cons, List.not_mem_nil, or_false] at hf
    rcases hf with rfl | rfl
    · exact hl k (hin k (.inl hk))
    · exact hl k (hin k (.inr hk))
  · refine List.pairwise_cons.2 ⟨fun f hf _ k hk => ?_, List.pairwise_singleton _ _⟩
    obtain rfl := List.mem_singleton.1 hf
    exact hp.2.2 k hk
  · rw [htk]
    simp only [List.mem_cons, List.not_mem_nil, or_false] at hf
    refine .inl ⟨_, List.mem_singleton.2 rfl, ?_⟩
    rcases hf with rfl | rfl
    · exact hin k (.inl hk)
    · exact hin k (.inr hk)
theorem Sat.blur (h : Sat cx β n H F w) (i j : Nat) {A B : List Fact} {x : Fact} (hi : nth F i = some x) (hj : nth F j = some (sepF (A ++ B))) (hx : x.own = true) (hne : i ≠ j) : Sat cx β n H (sepF (A ++ x :: B) :: dropIx [i, j] 0 F) w := by
  have h1 := h.get i hi
  have h2 := h.get j hj
  have ap := h.apart (i := i) (j := j) (by rw [← nth_eq]; exact hi) (by rw [← nth_eq]; exact hj) hne (.inl hx)
  have htk : takeIx F [i, j] = [x, sepF (A ++ B)] := by simp only [takeIx, hi, hj]
  have hin : ∀ k, Un (A ++ x :: B) k → x.D k ∨ Un (A ++ B) k := by
    intro k hk
    rcases Un.app.1 hk with hk | hk
    · exact .inr (Un.app.2 (.inl hk))
    · rcases Un.cons.1 hk with hk | hk
      · exact .inl hk
      · exact .inr (Un.app.2 (.inr hk))
  refine h.swap [i, j] (by rw [htk]; exact ⟨hx, rfl, trivial⟩) (Fs := [sepF (A ++ x :: B)]) (Chg.refl _ _) ⟨fun f hf => ?_, fun f hf k hk => ?_, List.pairwise_singleton _ _⟩ (fun f hf k hk => ?_)
  · obtain rfl := List.mem_singleton.1 hf
    exact sep_mid.2 ⟨h1, h2, ap⟩
  · obtain rfl := List.mem_singleton.1 hf
    rcases hin k hk with q | q
    · exact h.getLt i hi k q
    · exact h.getLt j hj k q
  · obtain rfl := List.mem_singleton.1 hf
    rw [htk]
    rcases hin k hk with q | q
    · exact .inl ⟨x, List.mem_cons_self, q⟩
    · exact .inl ⟨_, List.mem_cons_of_mem _ List.mem_cons_self, q⟩
end
end Go.Proofs.YteenjgfbbkdlhaaGreatDoor.Sx

namespace Go.Proofs.YteenjgfbbkdlhaaGreatDoor.Sx
open Go
attribute [local irreducible] Calls
theorem join2_c (w : World) (b : Nat) (A1 A2 : Option Addr) (l1 l2 : List UInt8) (c1 c2 : Nat) (hP : Rd 1 (some ⟨b, 0, none⟩) 2 [.slice A1 l1.length c1, .slice A2 l2.length c2] w) (h1 : Bs w A1 l1) (h2 : Bs w A2 l2) (hn : l1.length + l2.length ≤ 100000000) :
    Con Tryz.prog n_bytes_Join #[.slice (some ⟨b, 0, none⟩) 2 2, .slice none 0 0] w [] (readOut (l1 ++ l2)) := by
  have h := joinN_c w b 2 [.slice A1 l1.length c1, .slice A2 l2.length c2] [l1, l2] hP (fun i v l hv hl => by
    match i with
    | 0 => cases hv; cases hl; exact Bs.holds h1 c1
    | 1 => cases hv; cases hl; exact Bs.holds h2 c2
    | n + 2 => simp at hv) (Nat.le_refl 2) (Nat.le_refl 2) (by show 2 ≤ 1000; decide) (by simp; omega)
  have e : [l1, l2].flatten = l1 ++ l2 := by simp
  rw [e] at h
  exact h
theorem join1R_c (w : World) (P A : Option Addr) (cP c : Nat) (l : List UInt8) (hP : Rd 1 P 1 [.slice A l.length c] w) (hr : Bs w A l) (hn : l.length ≤ 100000000) :
    Con Tryz.prog n_bytes_Join #[.slice P 1 cP, .slice none 0 0] w [] (readOut l) := by
  refine Calls.mono (join1_c w P A cP c l hP hr (by omega)) ?_
  rintro e w' ⟨v, rfl, hf⟩
  refine ⟨v, rfl, hf.recast ?_⟩
  rintro Fs ⟨A', c', rfl, q1, q2, rfl⟩ hp
  exact ⟨[rdoF 1 A' l.length (l.map byte)], ⟨A', c', rfl, q1, q2, rfl⟩, .cons ⟨rfl, fun h => row_rd h, browRoD (hp _ List.mem_cons_self)⟩ .nil⟩
theorem hsum_c (w : World) (A P : Option Addr) (key text : List UInt8) (c nP cP : Nat) (hr : Bs w A key) (hk : key.length ≤ 1000000) (ht : text.length ≤ 1000000) (hj : ∀ w', (oldF w).p w' → Con Tryz.prog n_bytes_Join #[.slice P nP cP, .slice none 0 0] w' [] (readOut text)) (h1 : (oddF 5).p w) (h0 : (firstF 2).p w) :
    Con Tryz.prog n_hmac_Sum #[.slice A key.length c, .slice P nP cP] w [] fun v Fs => ∃ A' c', v = .slice A' 32 c' ∧ 32 ≤ c' ∧ c' ≤ maxLen ∧ Fs = [browF ty_uint8 A' (hmL key text) c'] := by
  have g := good_hmac_Sum w (Un [])
  refine con_of_sx (cx := cx_hmac_Sum w (Un [])) g b_hmac_Sum rfl rfl (β := Va.z) [.c (.v (.slice A key.length c)), .c (.v (.slice P nP cP))] 0 [] [oldF w] rfl rfl (old_sat rfl) ?_
  refine call_con [] (fun β w' hs => pad_c w' A key c 0x36 (Rd.old hr (hs.get 0 rfl)) hk (Rd.old h1 (hs.get 0 rfl)) (Rd.old h0 (hs.get 0 rfl))) ?_
  rintro v Fs ⟨p1, j1, rfl, rfl⟩
  refine call_con [] (fun β w' hs => hj w' (hs.get 1 rfl)) ?_
  rintro v Fs ⟨A1, c1, rfl, _, _, rfl⟩
  intro b1
  have l64 : ∀ x, (padL key x).length = 64 := padL_len key
  refine call_con [] (fun β w' hs => sumJ_c w' (some ⟨b1, 0, none⟩) 2 2 (padL key 0x36 ++ text) (fun w2 ho => by
    have q := join2_c w2 b1 (some ⟨p1, 0, none⟩) A1 (padL key 0x36) text 64 c1 (by rw [l64]; exact Rd.old (row_rd (hs.get 0 rfl)) ho) (Rd.old (bk_bs (hs.get 2 rfl)) ho) (Rd.old (rdo_rd (hs.get 1 rfl)) ho) (by rw [l64]; omega)
    exact q) (by rw [List.length_append, l64]; omega) (Rd.old h1 (hs.get 3 rfl)) (Rd.old h0 (hs.get 3 rfl))) ?_
  rintro v Fs ⟨A2, c2, rfl, _, _, rfl⟩
  refine call_con [] (fun β w' hs => pad_c w' A key c 0x5c (Rd.old hr (hs.get 4 rfl)) hk (Rd.old h1 (hs.get 4 rfl)) (Rd.old h0 (hs.get 4 rfl))) ?_
  rintro v Fs ⟨p2, j2, rfl, rfl⟩
  intro b2
  have ls : (Sha.sum (padL key 0x36 ++ text)).length = 32 := sum_len _
  refine call_con [] (fun β w' hs => sumJ_c w' (some ⟨b2, 0, none⟩) 2 2 (padL key 0x5c ++ Sha.sum (padL key 0x36 ++ text)) (fun w2 ho => by
    have q := join2_c w2 b2 (some ⟨p2, 0, none⟩) A2 (padL key 0x5c) (Sha.sum (padL key 0x36 ++ text)) 64 c2 (by rw [l64, ls]; exact Rd.old (row_rd (hs.get 0 rfl)) ho) (Rd.old (bk_bs (hs.get 1 rfl)) ho) (Rd.old (row_rd (hs.get 2 rfl)) ho) (by rw [l64, ls]; decide)
    exact q) (by rw [List.length_append, l64, ls]; decide) (Rd.old h1 (hs.get 6 rfl)) (Rd.old h0 (hs.get 6 rfl))) ?_
  rintro v Fs ⟨A3, c3, rfl, h5, h6, rfl⟩
  intro β w' hs
  exact hs.fin [0] ⟨A3, c3, rfl, h5, h6, rfl⟩
def sortN (l : List Nat) : List Nat := l.mergeSort (fun x y => decide (x ≤ y))
theorem sortN_len (l : List Nat) : (sortN l).length = l.length := by simp [sortN]
theorem xorB_len (a b : List UInt8) : (Bx.xorB a b).length = min a.length b.length := by simp [Bx.xorB]
theorem xorB_snoc (a b : List UInt8) {i : Nat} (ha : i < a.length) (hb : i < b.length) : (Bx.xorB a b).take (i + 1) = (Bx.xorB a b).take i ++ [a[i] ^^^ b[i]] := by
  have h : i < (Bx.xorB a b).length := by rw [xorB_len]; omega
  rw [take_snoc _ i h]
  congr 1
  simp [Bx.xorB]
theorem xor_c (w : World) (A B : Option Addr) (l m : List UInt8) (c d : Nat) (hl : Bs w A l) (hm : Bs w B m) (hn : l.length ≤ 70368744177664) :
    Con Tryz.prog n_hmac_Xor #[.slice A l.length c, .slice B m.length d] w [] fun v Fs => ∃ A' c', v = .slice A' (Bx.xorB l m).length c' ∧ (Bx.xorB l m).length ≤ c' ∧ c' ≤ maxLen ∧ Fs = [browF ty_uint8 A' (Bx.xorB l m) c'] := by
  have g := good_hmac_Xor w (Un [])
  refine con_of_sx (cx := cx_hmac_Xor w (Un [])) g b_hmac_Xor rfl rfl (β := Va.z) [.c (.v (.slice A l.length c)), .c (.v (.slice B m.length d))] 0 [] [browF ty_uint8 none [] 0, oldF w] rfl rfl ((old_sat rfl).nilRow _ _) ?_
  have hx := xorB_len l m
  obtain ⟨r, hr⟩ : ∃ r, (Bx.xorB l m).length = r := ⟨_, rfl⟩
  refine ⟨(r : Int), ?_, ?_⟩
  · show min (l.length : Int) (m.length : Int) = _
    omega
  refine loop_rule (ι := Nat × Option Addr × Nat) 0 (fun i => [(0, .c (.v (.slice A l.length c))), (1, .c (.v (.slice B m.length d))), (11, .c (.v (.int .i64 r))), (12, .c (.v (.int .i64 i.1))), (5, .c (.v (.slice i.2.1 i.1 i.2.2)))]) (fun _ => [])
    (fun i => [rowF ty_uint8 1 (.slice i.2.1 i.1 i.2.2) i.1 (((Bx.xorB l m).take i.1).map byte), oldF w])
    (fun i => i.1 ≤ r ∧ i.1 ≤ i.2.2 ∧ i.2.2 ≤ maxLen) (fun i => r - i.1) (0, none, 0) ⟨Nat.zero_le _, Nat.zero_le _, Nat.zero_le _⟩ (Ent.same ⟨rfl, rfl, rfl, rfl, rfl, trivial⟩ rfl) g ?_
  rintro ⟨i, A1, c1⟩ ⟨hi, hc, hcm⟩
  simp only at hi hc hcm
  refine BIf.dec (fun hlt => ?_) (fun hge => ?_)
  · have hlt0 : (i : Int) < (r : Int) := hlt
    have h1 : i < l.length := by omega
    have h2 : i < m.length := by omega
    obtain ⟨ad, hA⟩ := Bs.addr hl (by omega)
    obtain ⟨bd, hB⟩ := Bs.addr hm (by omega)
    have hSS : ∀ {n : Nat} {H : List Bk} {f1 : Fact}, Sub (cx_hmac_Xor w (Un [])) n H [f1, oldF w] [] [oldF w] := fun {n H f1} => Sub.of (List.nil_sublist _) (List.sublist_cons_self _ _)
    have hSS2 : ∀ {n : Nat} {H : List Bk} {f1 f2 : Fact}, Sub (cx_hmac_Xor w (Un [])) n H [f1, f2, oldF w] [] [oldF w] := fun {n H f1 f2} => Sub.of (List.nil_sublist _) ((List.sublist_cons_self _ _).trans (List.sublist_cons_self _ _))
    refine draw_rule g p_hmac_Xor_5 (by kernel_rfl) [] [oldF w] hSS ?_
    refine ⟨ad, i, hA, rfl, h1, byte l[i], fun β w' hs => Bs.cell (Rd.old hl (hs.get 0 rfl)) hA h1, ?_⟩
    refine ⟨bd, i, hB, rfl, h2, byte m[i], fun β w' hs => Bs.cell (Rd.old hm (hs.get 0 rfl)) hB h2, ?_⟩
    refine ⟨_, xor8 _ _, ?_⟩
    intro b2
    refine ⟨hSS2, ?_⟩
    refine ⟨1, i, i + 1, ((Bx.xorB l m).take i).map byte, [l[i] ^^^ m[i]].map byte, _, rfl, fun β w hs => row_rd (hs.get 0 rfl), bytes_one _, rfl, rfl, by rw [maxLen_eq]; omega, by show (i + 1) * 1 ≤ _; omega, ?_⟩
    intro A' c' q1 q2 _
    refine ⟨hSS2, ?_⟩
    refine ⟨((i + 1 : Nat) : Int), by rw [wrap_i64 (by omega) (by omega)]; rfl, ?_⟩
    refine ⟨(i + 1, A', c'), ⟨by show i + 1 ≤ r; omega, q1, q2⟩, by show r - (i + 1) < r - i; omega, Ent.mk' ⟨rfl, rfl, rfl, rfl, rfl, trivial⟩ rfl (fun β w' hs => ?_)⟩
    have h3 := hs.weaken (List.Sublist.refl _) (List.sublist_cons_self _ _)
    show Sat _ _ _ _ [rowF ty_uint8 1 (.slice A' (i + 1) c') (i + 1) (((Bx.xorB l m).take (i + 1)).map byte), oldF w] _
    rw [xorB_snoc l m h1 h2, List.map_append]
    exact h3
  · have hge0 : ¬ (i : Int) < (r : Int) := hge
    obtain rfl : i = r := by omega
    intro β w' hs
    refine hs.fin [0] ⟨A1, c1, by rw [hr]; rfl, by rw [hr]; exact hc, hcm, ?_⟩
    show [rowF ty_uint8 1 (.slice A1 i c1) i _] = [rowF ty_uint8 1 (.slice A1 (Bx.xorB l m).length c1) (Bx.xorB l m).length _]
    rw [hr, List.take_of_length_le (by omega)]
theorem Sat.ro {cx : Cx} {β : Va} {n : Nat} {H : List Bk} {F : List Fact} {w : World} (h : Sat cx β n H F w) (j : Nat) {e : Nat} {A : Option Addr} {l : List UInt8} {c : Nat} (hj : nth F j = some (browF e A l c)) : Sat cx β n H (putAt F j (bsF A l)) w := by
  have hp := h.get j hj
  exact h.upd hj rfl (Chg.refl _ _) (row_rd hp) (fun k hk => .inl (browRoD hp k hk))
theorem cutA_z (A : Option Addr) {m : Nat} : cutA A m 0 1 = A := by
  unfold cutA
  split
  · rfl
  · cases A with
    | none => rfl
    | some ad => simp [Addr.add]
theorem Sat.dupRo {cx : Cx} {β : Va} {n : Nat} {H : List Bk} {F : List Fact} {w : World} (h : Sat cx β n H F w) (j : Nat) {A : Option Addr} {l : List UInt8} (hj : nth F j = some (bsF A l)) : Sat cx β n H (bsF A l :: F) w :=
  h.sub j hj rfl (bsF A l) rfl (h.get j hj) (fun _ hk => hk)
end Go.Proofs.YteenjgfbbkdlhaaGreatDoor.Sx

namespace Go.Proofs.YteenjgfbbkdlhaaGreatDoor.Sx
open Go Sha
attribute [local irreducible] Calls
theorem go_add : ∀ (a b : Nat) (s : S8) (T : List UInt8), go (a + b) s T = go b (go a s T) (T.drop (64 * a))
  | 0, b, s, T => by simp [go]
  | a + 1, b, s, T => by
    rw [show a + 1 + b = (a + b) + 1 by omega, go, go, go_add a b, List.drop_drop]
    congr 2
    omega
theorem go_app : ∀ (n : Nat) (s : S8) (T p : List UInt8), 64 * n ≤ T.length → go n s (T ++ p) = go n s T
  | 0, _, _, _, _ => rfl
  | n + 1, s, T, p, h => by
    rw [go, go, List.take_append_of_le_length (by omega), List.drop_append_of_le_length (by omega), go_app n _ _ _ (by rw [List.length_drop]; omega)]
def stT (T : List UInt8) : S8 := go (T.length / 64) Sha.first T
def restT (T : List UInt8) : List UInt8 := T.drop (64 * (T.length / 64))
theorem restT_len (T : List UInt8) : (restT T).length = T.length % 64 := by unfold restT; rw [List.length_drop]; omega
theorem T_div (T p : List UInt8) : (T ++ p).length / 64 = T.length / 64 + (restT T ++ p).length / 64 := by
  rw [List.length_append, List.length_append, restT_len]
  omega
theorem T_drop (T p : List UInt8) : (T ++ p).drop (64 * (T.length / 64)) = restT T ++ p := by
  rw [List.drop_append_of_le_length (by omega)]
  rfl
theorem stT_app (T p : List UInt8) : stT (T ++ p) = (blks (restT T ++ p) ((restT T ++ p).length / 64)).foldl Sha.step (stT T) := by
  rw [← go_eq]
  unfold stT
  rw [T_div, go_add, go_app _ _ _ _ (by omega), T_drop]
theorem restT_app (T p : List UInt8) : restT (T ++ p) = (restT T ++ p).drop (64 * ((restT T ++ p).length / 64)) := by
  conv => lhs; unfold restT
  rw [T_div, Nat.mul_add, ← List.drop_drop, T_drop]
theorem sum_T (T : List UInt8) : Sha.sum T = out ((blks (restT T ++ ends T.length) ((restT T ++ ends T.length).length / 64)).foldl Sha.step (stT T)) := by
  rw [← stT_app]
  rfl
def hshC (T : List UInt8) (A : Option Addr) (c : Nat) : List Value := (stT T).l.map u32 ++ [.slice A (restT T).length c, .int .u64 (T.length : Int)]
def hshF (b : Nat) (T : List UInt8) (A : Option Addr) (c : Nat) : Fact := sepF [bkF b ty_sha_Hash (hshC T A c), browF ty_uint8 A (restT T) c]
theorem hsh_bk {b : Nat} {T : List UInt8} {A : Option Addr} {c : Nat} {w : World} (h : (hshF b T A c).p w) : (bkF b ty_sha_Hash (hshC T A c)).p w := h.1 _ (by simp)
theorem hsh_row {b : Nat} {T : List UInt8} {A : Option Addr} {c : Nat} {w : World} (h : (hshF b T A c).p w) : Bs w A (restT T) := row_rd (h.1 (browF ty_uint8 A (restT T) c) (by simp))
def ptrB (b : Nat) : Value := .pointer (some ⟨b, 0, none⟩)
theorem bkcell {b ty : Nat} {cs : List Value} {w : World} (h : (bkF b ty cs).p w) {o : Nat} {v : Value} (ho : cs[o]? = some v) : w.cell? ⟨b, o, none⟩ = some v := by
  have h' : w.heap[b]? = some (.cells cs.toArray ty (0, 0)) := h
  rw [cell_of_row w b o _ _ _ h']
  simpa using ho
theorem factOld {f : Fact} {W w : World} (h : f.p W) (hD : ∀ k, f.D k → k < W.heap.size) (ho : (oldF W).p w) : f.p w := f.st W w (fun k hk => ho k (hD k hk)) h
theorem hnew_c (w : World) (h0 : (firstF 2).p w) : Con Tryz.prog n_sha_New #[] w [] fun v Fs => ∃ b, v = ptrB b ∧ Fs = [hshF b [] none 0] := by
  have g := good_sha_New w (Un [])
  refine con_of_sx (cx := cx_sha_New w (Un [])) g b_sha_New rfl rfl (β := Va.z) [] 0 [] [oldF w] rfl rfl (old_sat rfl) ?_
  refine ⟨Sha.first.l.map u32, rfl, fun β w' hs j u hu => ?_, ?_⟩
  · have h2 : Rd 1 (some ⟨2, 0, none⟩) 8 (Sha.first.l.map u32) w' := Rd.old h0 (hs.get 0 rfl)
    obtain ⟨ad, h3, h4⟩ := h2.2 (by decide)
    obtain rfl := Option.some.inj h3
    exact h4 j u hu
  intro β w' hs
  have k := (hs.ofBk.nilRow ty_uint8 1).sep [1, 0]
  exact k.fin [0] ⟨β 0, rfl, rfl⟩
theorem hcopy_c (w : World) (b : Nat) (T : List UInt8) (A : Option Addr) (c : Nat) (h : (hshF b T A c).p w) (hD : ∀ k, (hshF b T A c).D k → k < w.heap.size) :
    Con Tryz.prog n_sha_Hash_Copy #[ptrB b] w [] fun v Fs => ∃ b' A' c', v = ptrB b' ∧ (restT T).length ≤ c' ∧ c' ≤ maxLen ∧ Fs = [hshF b' T A' c'] := by
  have g := good_sha_Hash_Copy w (Un [])
  have hrl := restT_len T
  refine con_of_sx (cx := cx_sha_Hash_Copy w (Un [])) g b_sha_Hash_Copy rfl rfl (β := Va.z) [.c (.v (ptrB b))] 0 [] [oldF w] rfl rfl (old_sat rfl) ?_
  refine ⟨hshC T A c, rfl, fun β w' hs j u hu => ?_, ?_⟩
  · rw [add_none, Nat.zero_add]
    exact bkcell (hsh_bk (factOld h hD (hs.get 0 rfl))) hu
  refine ⟨.slice A (restT T).length c, fun β w' hs => bkcell (hsh_bk (factOld h hD (hs.get 0 rfl))) rfl, ?_⟩
  refine call_con [] (fun β w' hs => clone_c w' A (restT T) c (hsh_row (factOld h hD (hs.get 0 rfl))) (by omega)) ?_
  rintro v Fs ⟨A', c', rfl, q1, q2, rfl⟩
  intro β w' hs
  have k := hs.ofBk.sep [0, 1]
  exact k.fin [0] ⟨β 0, A', c', rfl, q1, q2, rfl⟩
def cellF (b o : Nat) (v : Value) : Fact where
  own := true
  D := fun k => k = b
  p := fun w => w.cell? ⟨b, o, none⟩ = some v
  st := fun w w' hs h => by rw [← h]; exact World.cell?_of_block (hs b rfl)
theorem Sat.cellOf {cx : Cx} {β : Va} {n : Nat} {H : List Bk} {F : List Fact} {w : World} (h : Sat cx β n H F w) (j : Nat) {b ty : Nat} {cs : List Value} (hj : nth F j = some (bkF b ty cs)) (o : Nat) {v : Value} (ho : cs[o]? = some v) : Sat cx β n H (putAt F j (cellF b o v)) w :=
  h.upd hj rfl (Chg.refl _ _) (bkcell (h.get j hj) ho) (fun k hk => .inl hk)
theorem cut_blk {A B : Option Addr} (h : ∀ ad, B = some ad → ∃ ad', A = some ad' ∧ ad'.block = ad.block) {c i : Nat} : ∀ ad, cutA B c i 1 = some ad → ∃ ad', A = some ad' ∧ ad'.block = ad.block := by
  intro ad q
  unfold cutA at q
  split at q
  · exact h ad q
  · cases B with
    | none => cases q
    | some x =>
      obtain ⟨ad', h1, h2⟩ := h x rfl
      obtain rfl := Option.some.inj q
      refine ⟨ad', h1, ?_⟩
      rw [h2]
      unfold Addr.add
      split <;> rfl
theorem bsD_sub {A B : Option Addr} {l m : List UInt8} (h : ∀ ad, B = some ad → ∃ ad', A = some ad' ∧ ad'.block = ad.block) (hl : m.length ≤ l.length) : ∀ k, (bsF B m).D k → (bsF A l).D k := by
  rintro k ⟨h0, ad, q, rfl⟩
  obtain ⟨ad', h1, h2⟩ := h ad q
  exact ⟨by omega, ad', h1, h2⟩
set_option maxHeartbeats 1000000 in
theorem hwrite_c (w : World) (b : Nat) (T : List UInt8) (A : Option Addr) (c : Nat) (P : Option Addr) (p : List UInt8) (d : Nat) (hn : T.length + p.length ≤ 1000000000) (hm : Mem w [hshF b T A c, bsF P p, oddF 5]) :
    Con Tryz.prog n_sha_Hash_Write #[ptrB b, .slice P p.length d] w [hshF b T A c] fun v Fs => ∃ A' c', v = .int .i64 p.length ∧ Fs = [hshF b (T ++ p) A' c'] := by
  have g := good_sha_Hash_Write w (Un [hshF b T A c])
  have hrl := restT_len T
  have hml := maxLen_eq
  have hs0 : Sat (cx_sha_Hash_Write w (Un [hshF b T A c])) Va.z 0 [] [hshF b T A c, bsF P p, oddF 5] w := hm.sat0 rfl (ownIn (Gs := [hshF b T A c]) (fun f hf => by
    simp only [List.mem_cons, List.not_mem_nil, or_false] at hf
    rcases hf with rfl | rfl <;> rfl))
  refine con_of_sx (cx := cx_sha_Hash_Write w (Un [hshF b T A c])) g b_sha_Hash_Write rfl rfl (β := Va.z) [.c (.v (ptrB b)), .c (.v (.slice P p.length d))] 0 [] [bkF b ty_sha_Hash (hshC T A c), browF ty_uint8 A (restT T) c, bsF P p, oddF 5] rfl rfl (hs0.unsep 0 rfl) ?_
  obtain ⟨N, hN⟩ : ∃ N : Nat, T.length + p.length = N := ⟨_, rfl⟩
  obtain ⟨q, hq⟩ : ∃ q, restT T ++ p = q := ⟨_, rfl⟩
  have hql : q.length = T.length % 64 + p.length := by rw [← hq, List.length_append, hrl]
  obtain ⟨s0, hs0e⟩ : ∃ s0, stT T = s0 := ⟨_, rfl⟩
  refine ⟨.int .u64 (T.length : Int), fun β w' hs => bkcell (hs.get 0 rfl) rfl, (p.length : Int), by rw [wrap_u64']; omega, (N : Int), by rw [wrap_u64']; omega, ?_⟩
  refine ⟨[bkF b ty_sha_Hash (s0.l.map u32 ++ [.slice A (restT T).length c, .int .u64 (N : Int)]), browF ty_uint8 A (restT T) c, bsF P p, oddF 5], fun β w' hs => ?_, ?_⟩
  · have k := hs.bkSet 0 (o := 9) (us := [.int .u64 (N : Int)]) rfl (show 9 + 1 ≤ 10 by decide) (fun u hu => by obtain rfl := List.mem_singleton.1 hu; rfl)
    rw [← hs0e]
    exact k
  refine ⟨.slice A (restT T).length c, fun β w' hs => bkcell (hs.get 0 rfl) rfl, ?_⟩
  refine ⟨1, (restT T).length, q.length, (restT T).map byte, p.map byte, q.map byte, rfl, fun β w' hs => hs.get 2 rfl, bytes_one p, by rw [← hq, List.length_append], by rw [← hq, List.map_append], by omega, by show q.length * 1 ≤ _; omega, ?_⟩
  intro A1 c1 hc1 hm1 _
  refine ⟨[bkF b ty_sha_Hash (s0.l.map u32 ++ [.slice A1 q.length c1, .int .u64 (N : Int)]), browF ty_uint8 A1 q c1, bsF P p, oddF 5], fun β w' hs => ?_, ?_⟩
  · exact hs.bkSet 0 (o := 8) (us := [.slice A1 q.length c1]) rfl (show 8 + 1 ≤ 10 by decide) (fun u hu => by obtain rfl := List.mem_singleton.1 hu; rfl)
  refine loop_rule (ι := Nat × Option Addr × Nat) 0 (fun _ => [(0, .c (.v (ptrB b))), (1, .c (.v (.slice P p.length d)))]) (fun _ => []) (fun i => [bkF b ty_sha_Hash (((blks q i.1).foldl Sha.step s0).l.map u32 ++ [Value.slice i.2.1 (q.length - 64 * i.1) i.2.2, Value.int IntKind.u64 (N : Int)]), bsF A1 q, oddF 5])
    (fun i => 64 * i.1 ≤ q.length ∧ q.length - 64 * i.1 ≤ i.2.2 ∧ i.2.2 ≤ 9223372036854775807 ∧ (∀ w, Bs w A1 q → Bs w i.2.1 (q.drop (64 * i.1))) ∧ ∀ ad, i.2.1 = some ad → ∃ ad', A1 = some ad' ∧ ad'.block = ad.block) (fun i => q.length - 64 * i.1) (0, A1, c1)
    ⟨Nat.zero_le _, hc1, by rw [← hml]; exact hm1, fun w h => h, fun ad h => ⟨ad, h, rfl⟩⟩ (Ent.mk' ⟨rfl, rfl, trivial⟩ rfl (fun β w' hs => (hs.ro 1 rfl).perm [0, 1, 3])) g ?_
  rintro ⟨i, B, cap⟩ ⟨hi, hcap, hcm, hB, hD⟩
  simp only at hi hcap hcm hB hD
  obtain ⟨m, hm2⟩ : ∃ m, q.length - 64 * i = m := ⟨_, rfl⟩
  have hmc : m ≤ cap := by omega
  rw [hm2]
  have hdl : (q.drop (64 * i)).length = m := by rw [List.length_drop]; omega
  obtain ⟨st, hst⟩ : ∃ st, (blks q i).foldl Sha.step s0 = st := ⟨_, rfl⟩
  rw [hst]
  refine ⟨.slice B m cap, fun β w' hs => bkcell (hs.get 0 rfl) rfl, ?_⟩
  refine BIf.dec (fun h0 => ?_) (fun h0 => ?_)
  · have h00 : (64 : Int) ≤ (m : Int) := h0
    have hm64 : 64 ≤ m := by omega
    have hbl : (blk q i).length = 64 := by unfold blk; rw [List.length_take, hdl]; omega
    refine draw_rule g p_sha_Hash_Write_6 (by kernel_rfl) [] [cellF b 8 (.slice B m cap)] (fun β w' hs => (hs.cellOf 0 rfl 8 rfl).perm [0]) ?_
    refine ⟨.slice B m cap, fun β w' hs => hs.get 0 rfl, ?_⟩
    refine ⟨cap, 64, 0, 64, cap, _, rfl, rfl, rfl, Nat.le_refl _, by show 64 ≤ cap; omega, by omega, rfl, rfl, cutA_z B, ?_⟩
    refine call_con [0] (R := fun v Fs => v = .tuple #[] ∧ Fs = [stG b ty_sha_Hash (Sha.step st (blk q i)) [.slice B m cap, .int .u64 (N : Int)]]) (fun β w' hs => by
      have h7 := Bs.cut (hB w' (hs.get 1 rfl)) (c := cap) (m := cap) (i := 0) (j := 64) (by omega) (.inl rfl) (by omega) (by omega) (by omega)
      rw [cutA_z] at h7
      have h8 : Bs w' B (blk q i) := by show Rd 1 B (blk q i).length ((blk q i).map byte) w'; rw [hbl]; exact h7
      have hs2 := hs.sub 1 rfl rfl (bsF B (blk q i)) rfl h8 (bsD_sub hD (by omega))
      have q1 := stepG_c w' b ty_sha_Hash st [.slice B m cap, .int .u64 (N : Int)] B (blk q i) cap (hs2.mem.take (js := [1, 0, 3]) rfl) (by omega) (by omega) (by omega)
      rw [hbl] at q1
      exact q1) ?_
    rintro v Fs ⟨rfl, rfl⟩
    refine ⟨fun β w' hs => (hs.cellOf 0 rfl 8 rfl).perm [0], ?_⟩
    refine ⟨.slice B m cap, fun β w' hs => bkcell (hs.get 0 rfl) rfl, ?_⟩
    refine ⟨cap, m, 64, m - 64, cap - 64, _, rfl, rfl, rfl, Nat.le_refl _, hmc, hm64, rfl, rfl, rfl, ?_⟩
    refine ⟨[bkF b ty_sha_Hash ((Sha.step st (blk q i)).l.map u32 ++ [.slice (cutA B cap 64 1) (m - 64) (cap - 64), .int .u64 (N : Int)]), bsF A1 q, oddF 5], fun β w' hs => ?_, ?_⟩
    · exact hs.bkSet 0 (o := 8) (us := [.slice (cutA B cap 64 1) (m - 64) (cap - 64)]) rfl (show 8 + 1 ≤ 10 by decide) (fun u hu => by obtain rfl := List.mem_singleton.1 hu; rfl)
    refine ⟨(i + 1, cutA B cap 64 1, cap - 64), ⟨by show 64 * (i + 1) ≤ _; omega, by show q.length - 64 * (i + 1) ≤ cap - 64; omega, by show cap - 64 ≤ _; omega, fun w' h => ?_, cut_blk hD⟩, by show q.length - 64 * (i + 1) < m; omega, Ent.mk' ⟨rfl, rfl, trivial⟩ rfl (fun β w' hs => ?_)⟩
    · exact Bs.cutB (hB w' h) (c := cap) (i := 64) (j := m) (m := q.drop (64 * (i + 1))) (by omega) hm64 (by omega) (by
        rw [List.drop_drop, show 64 * i + 64 = 64 * (i + 1) by omega, List.take_of_length_le]
        rw [List.length_drop]; omega)
    · show Sat _ _ _ _ [bkF b ty_sha_Hash (((blks q (i + 1)).foldl Sha.step s0).l.map u32 ++ [.slice (cutA B cap 64 1) (q.length - 64 * (i + 1)) (cap - 64), .int .u64 (N : Int)]), bsF A1 q, oddF 5] w'
      rw [blks_succ, List.foldl_append, hst, show q.length - 64 * (i + 1) = m - 64 by omega]
      exact hs
  · have h00 : ¬ (64 : Int) ≤ (m : Int) := h0
    have hi2 : i = q.length / 64 := by omega
    refine ⟨.slice B m cap, fun β w' hs => bkcell (hs.get 0 rfl) rfl, ?_⟩
    have hrest : restT (T ++ p) = q.drop (64 * i) := by rw [restT_app, hq, hi2]
    have hstp : stT (T ++ p) = st := by rw [stT_app, hq, hs0e, ← hi2, hst]
    refine call_con [] (R := fun v Fs => ∃ A' c', v = .slice A' m c' ∧ Fs = [browF ty_uint8 A' (q.drop (64 * i)) c']) (fun β w' hs => by
      have k := clone_c w' B (q.drop (64 * i)) cap (hB w' (hs.get 1 rfl)) (by omega)
      rw [hdl] at k
      exact k.mono (by rintro v Fs ⟨A', c', rfl, _, _, rfl⟩; exact ⟨A', c', rfl, rfl⟩)) ?_
    rintro v Fs ⟨A3, c3, rfl, rfl⟩
    refine ⟨[browF ty_uint8 A3 (q.drop (64 * i)) c3, bkF b ty_sha_Hash (st.l.map u32 ++ [.slice A3 m c3, .int .u64 (N : Int)]), bsF A1 q, oddF 5], fun β w' hs => ?_, ?_⟩
    · exact hs.bkSet 1 (o := 8) (us := [.slice A3 m c3]) rfl (show 8 + 1 ≤ 10 by decide) (fun u hu => by obtain rfl := List.mem_singleton.1 hu; rfl)
    intro β w' hs
    have k := hs.sep [1, 0]
    have e : hshF b (T ++ p) A3 c3 = sepF [bkF b ty_sha_Hash (st.l.map u32 ++ [.slice A3 m c3, .int .u64 (N : Int)]), browF ty_uint8 A3 (q.drop (64 * i)) c3] := by
      unfold hshF hshC
      rw [hrest, hstp, hdl, List.length_append, hN]
    refine k.fin [0] ⟨A3, c3, rfl, ?_⟩
    rw [e]
    rfl
set_option maxHeartbeats 1000000 in
theorem hval_c (w : World) (b : Nat) (T : List UInt8) (A : Option Addr) (c : Nat) (hn : T.length ≤ 1000000000) (h : (hshF b T A c).p w) (hD0 : ∀ k, (hshF b T A c).D k → k < w.heap.size) (h1 : (oddF 5).p w) :
    Con Tryz.prog n_sha_Hash_Sum #[ptrB b] w [] fun v Fs => ∃ A' c', v = .slice A' 32 c' ∧ 32 ≤ c' ∧ c' ≤ maxLen ∧ Fs = [browF ty_uint8 A' (Sha.sum T) c'] := by
  have g := good_sha_Hash_Sum w (Un [])
  have hrl := restT_len T
  have hml := maxLen_eq
  have hs0 : Sat (cx_sha_Hash_Sum w (Un [])) Va.z 0 [] [oldF w] w := old_sat rfl
  have hs1 := hs0.sub 0 rfl rfl (oddF 5) rfl h1 (rd_lt h1)
  refine con_of_sx (cx := cx_sha_Hash_Sum w (Un [])) g b_sha_Hash_Sum rfl rfl (β := Va.z) [.c (.v (ptrB b))] 0 [] [oddF 5, oldF w] rfl rfl hs1 ?_
  have hcell : ∀ {w'} (ho : (oldF w).p w') {o : Nat} {v : Value}, (hshC T A c)[o]? = some v → w'.cell? ⟨b, o, none⟩ = some v := fun {w'} ho {o} {v} hv => bkcell (hsh_bk (factOld h hD0 ho)) hv
  refine ⟨(stT T).l.map u32, rfl, fun β w' hs j u hu => ?_, ?_⟩
  · have hj : j < 8 := (List.getElem?_eq_some_iff.1 hu).1
    have hu' : (hshC T A c)[j]? = some u := by
      unfold hshC
      rw [List.getElem?_append_left (by exact hj)]
      exact hu
    have e : (((⟨b, 0, none⟩ : Addr).add 0).add j) = ⟨b, j, none⟩ := by rw [add_none, add_none]; simp
    have := hcell (hs.get 1 rfl) hu'
    rw [← e] at this
    exact this
  obtain ⟨s0, hs0e⟩ : ∃ s0, stT T = s0 := ⟨_, rfl⟩
  rw [hs0e]
  refine draw_rule g p_sha_Hash_Sum_4 (by kernel_rfl) [] [oldF w] (Sub.of (List.nil_sublist _) (List.sublist_cons_self _ _)) ?_
  refine ⟨.slice A (restT T).length c, fun β w' hs => hcell (hs.get 0 rfl) rfl, ?_⟩
  refine ⟨.int .u64 (T.length : Int), fun β w' hs => hcell (hs.get 0 rfl) rfl, ?_⟩
  refine call_con [] (fun β w' hs => clone_c w' A (restT T) c (hsh_row (factOld h hD0 (hs.get 1 rfl))) (by omega)) ?_
  rintro v Fs ⟨A1, c1, rfl, hc1, hm1, rfl⟩
  refine ⟨fun β w' hs => (hs.perm [2]).keepB (List.nil_sublist _), ?_⟩
  refine call_con [] (fun β w' hs => ends_c w' T.length (by omega)) ?_
  rintro v Fs ⟨A2, c2, rfl, hc2, hm2, rfl⟩
  refine ⟨fun β w' hs => (hs.perm [3]).keepB (List.nil_sublist _), ?_⟩
  obtain ⟨q, hq⟩ : ∃ q, restT T ++ ends T.length = q := ⟨_, rfl⟩
  have hel := ends_len T.length
  have hz : zeros T.length < 64 := by unfold zeros; omega
  have hql : q.length = T.length % 64 + (ends T.length).length := by rw [← hq, List.length_append, hrl]
  refine ⟨1, (restT T).length, q.length, (restT T).map byte, (ends T.length).map byte, q.map byte, rfl, fun β w' hs => row_rd (hs.get 0 rfl), bytes_one _, by rw [← hq, List.length_append], by rw [← hq, List.map_append], by omega, by show q.length * 1 ≤ _; omega, ?_⟩
  intro A3 c3 hc3 hm3 _
  refine ⟨fun β w' hs => (hs.perm [3]).keepB (List.nil_sublist _), ?_⟩
  have hmod : q.length % 64 = 0 := by
    have := pad_mod T
    rw [List.length_append] at this
    omega
  refine reify_rule g 0 (fun _ => s0.l.map u32) rfl rfl (fun _ => rfl) (fun sb => ?_)
  refine loop_rule (ι := Nat × Option Addr × Nat) 1 (fun i => [(3, .c (.v (ptrB sb))), (4, .c (.v (.slice i.2.1 (q.length - 64 * i.1) i.2.2)))]) (fun _ => []) (fun i => [stF sb 291 ((blks q i.1).foldl Sha.step s0), bsF A3 q, oddF 5])
    (fun i => 64 * i.1 ≤ q.length ∧ q.length - 64 * i.1 ≤ i.2.2 ∧ i.2.2 ≤ 9223372036854775807 ∧ (∀ w, Bs w A3 q → Bs w i.2.1 (q.drop (64 * i.1))) ∧ ∀ ad, i.2.1 = some ad → ∃ ad', A3 = some ad' ∧ ad'.block = ad.block) (fun i => q.length - 64 * i.1) (0, A3, c3)
    ⟨Nat.zero_le _, hc3, by rw [← hml]; exact hm3, fun w h => h, fun ad h => ⟨ad, h, rfl⟩⟩ (Ent.mk' ⟨rfl, rfl, trivial⟩ rfl (fun β w' hs => (hs.ro 2 rfl).perm [0, 2, 3])) g ?_
  rintro ⟨i, B, cap⟩ ⟨hi, hcap, hcm, hB, hD⟩
  simp only at hi hcap hcm hB hD
  obtain ⟨m, hm2⟩ : ∃ m, q.length - 64 * i = m := ⟨_, rfl⟩
  have hmc : m ≤ cap := by omega
  rw [hm2]
  have hdl : (q.drop (64 * i)).length = m := by rw [List.length_drop]; omega
  obtain ⟨st, hst⟩ : ∃ st, (blks q i).foldl Sha.step s0 = st := ⟨_, rfl⟩
  rw [hst]
  refine BIf.dec (fun h0 => ?_) (fun h0 => ?_)
  · have h00 : (0 : Int) < (m : Int) := h0
    have hm64 : 64 ≤ m := by omega
    have hbl : (blk q i).length = 64 := by unfold blk; rw [List.length_take, hdl]; omega
    refine ⟨cap, 64, 0, 64, cap, _, rfl, rfl, rfl, Nat.le_refl _, by show 64 ≤ cap; omega, by omega, rfl, rfl, cutA_z B, ?_⟩
    refine call_con [0] (R := fun v Fs => v = .tuple #[] ∧ Fs = [stF sb 291 (Sha.step st (blk q i))]) (fun β w' hs => by
      have h7 := Bs.cut (hB w' (hs.get 1 rfl)) (c := cap) (m := cap) (i := 0) (j := 64) (by omega) (.inl rfl) (by omega) (by omega) (by omega)
      rw [cutA_z] at h7
      have h8 : Bs w' B (blk q i) := by show Rd 1 B (blk q i).length ((blk q i).map byte) w'; rw [hbl]; exact h7
      have hs2 := hs.sub 1 rfl rfl (bsF B (blk q i)) rfl h8 (bsD_sub hD (by omega))
      have q1 := step_c w' sb 291 st B (blk q i) cap (hs2.mem.take (js := [1, 0, 3]) rfl) (by omega) (by omega) (by omega)
      rw [hbl] at q1
      exact q1) ?_
    rintro v Fs ⟨rfl, rfl⟩
    refine ⟨cap, m, 64, m - 64, cap - 64, _, rfl, rfl, rfl, Nat.le_refl _, hmc, hm64, rfl, rfl, rfl, ?_⟩
    refine ⟨(i + 1, cutA B cap 64 1, cap - 64), ⟨by show 64 * (i + 1) ≤ _; omega, by show q.length - 64 * (i + 1) ≤ cap - 64; omega, by show cap - 64 ≤ _; omega, fun w' h => ?_, cut_blk hD⟩, by show q.length - 64 * (i + 1) < m; omega, Ent.mk' ⟨rfl, ?_, trivial⟩ rfl (fun β w' hs => ?_)⟩
    · exact Bs.cutB (hB w' h) (c := cap) (i := 64) (j := m) (m := q.drop (64 * (i + 1))) (by omega) hm64 (by omega) (by
        rw [List.drop_drop, show 64 * i + 64 = 64 * (i + 1) by omega, List.take_of_length_le]
        rw [List.length_drop]; omega)
    · show _ = some (SV.c (.v (.slice (cutA B cap 64 1) (q.length - 64 * (i + 1)) (cap - 64))))
      rw [show q.length - 64 * (i + 1) = m - 64 by omega]
      rfl
    · show Sat _ _ _ _ [stF sb 291 ((blks q (i + 1)).foldl Sha.step s0), bsF A3 q, oddF 5] w'
      rw [blks_succ, List.foldl_append, hst]
      exact hs
  · have h00 : ¬ (0 : Int) < (m : Int) := h0
    have hi2 : i = q.length / 64 := by omega
    have hsum : Sha.sum T = out st := by rw [sum_T, hq, hs0e, ← hi2, hst]
    refine call_con [0] (fun β w' hs => stbytes_c w' sb 291 st (hs.mem.take (js := [0]) rfl)) ?_
    rintro v Fs ⟨A4, c4, rfl, h5, h6, rfl⟩
    intro β w' hs
    exact hs.fin [1] ⟨A4, c4, rfl, h5, h6, by rw [hsum]; rfl⟩
end Go.Proofs.YteenjgfbbkdlhaaGreatDoor.Sx

namespace Go.Proofs.YteenjgfbbkdlhaaGreatDoor.Sx
open Go
attribute [local irreducible] Calls
structure MacY where
  m : Nat
  bi : Nat
  Ai : Option Addr
  ci : Nat
  bo : Nat
  Ao : Option Addr
  co : Nat
  bn : Nat
  An : Option Addr
  cn : Nat
def macFs (y : MacY) (key T : List UInt8) : List Fact := [bkF y.m ty_hmac_Mac [ptrB y.bi, ptrB y.bo, ptrB y.bn], hshF y.bi (padL key 0x36) y.Ai y.ci, hshF y.bo (padL key 0x5c) y.Ao y.co, hshF y.bn (padL key 0x36 ++ T) y.An y.cn]
def macF (y : MacY) (key T : List UInt8) : Fact := sepF (macFs y key T)
theorem Con.ofSep {P : Program} {k : FuncId} {args : Array Value} {w : World} {L Gs : List Fact} {R : Value → List Fact → Prop} (hsub : ∀ k, Un Gs k → Un [sepF L] k) (h : Con P k args w Gs R) : Con P k args w [sepF L] R :=
  Calls.mono h fun _ _ ⟨v, he, Fs, hR, hc, hm, ho, hD⟩ => ⟨v, he, Fs, hR, hc.mono (fun i _ => hsub i), hm, ho, fun f hf k hk => (hD f hf k hk).imp_left (hsub k)⟩
def mac0 (m bi : Nat) (Ai : Option Addr) (ci bo : Nat) (Ao : Option Addr) (co : Nat) (x : Value) (key : List UInt8) : List Fact := [bkF m ty_hmac_Mac [ptrB bi, ptrB bo, x], hshF bi (padL key 0x36) Ai ci, hshF bo (padL key 0x5c) Ao co]
theorem reset0_c (w : World) (m bi : Nat) (Ai : Option Addr) (ci bo : Nat) (Ao : Option Addr) (co : Nat) (x : Value) (key : List UInt8) (hm : Mem w (mac0 m bi Ai ci bo Ao co x key)) :
    Con Tryz.prog n_hmac_Mac_Reset #[ptrB m] w (mac0 m bi Ai ci bo Ao co x key) fun v Fs => ∃ y', y'.m = m ∧ v = .tuple #[] ∧ Fs = [macF y' key []] := by
  have g := good_hmac_Mac_Reset w (Un (mac0 m bi Ai ci bo Ao co x key))
  refine con_of_sx (cx := cx_hmac_Mac_Reset w (Un (mac0 m bi Ai ci bo Ao co x key))) g b_hmac_Mac_Reset rfl rfl (β := Va.z) [.c (.v (ptrB m))] 0 [] (mac0 m bi Ai ci bo Ao co x key) rfl rfl (hm.sat0 rfl (fun f hf ho k hk => ⟨f, hf, hk⟩)) ?_
  refine ⟨ptrB bi, fun β w' hs => bkcell (hs.get 0 rfl) rfl, ?_⟩
  refine call_con [] (fun β w' hs => hcopy_c w' bi (padL key 0x36) Ai ci (hs.get 1 rfl) (hs.getLt 1 rfl)) ?_
  rintro v Fs ⟨b', A', c', rfl, q1, q2, rfl⟩
  refine ⟨[hshF b' (padL key 0x36) A' c', bkF m ty_hmac_Mac [ptrB bi, ptrB bo, ptrB b'], hshF bi (padL key 0x36) Ai ci, hshF bo (padL key 0x5c) Ao co], fun β w' hs => ?_, ?_⟩
  · exact hs.bkSet 1 (o := 2) (us := [ptrB b']) rfl (show 2 + 1 ≤ 3 by decide) (fun u hu => by obtain rfl := List.mem_singleton.1 hu; rfl)
  intro β w' hs
  have k := hs.sep [1, 2, 3, 0] rfl ⟨rfl, rfl, rfl, rfl, trivial⟩
  refine k.fin [0] ⟨⟨m, bi, Ai, ci, bo, Ao, co, b', A', c'⟩, rfl, rfl, ?_⟩
  unfold macF macFs
  rw [List.append_nil]
  rfl
theorem reset_c (w : World) (y : MacY) (key T : List UInt8) (hm : Mem w [macF y key T]) :
    Con Tryz.prog n_hmac_Mac_Reset #[ptrB y.m] w [macF y key T] fun v Fs => ∃ y', y'.m = y.m ∧ v = .tuple #[] ∧ Fs = [macF y' key []] := by
  have hs0 : Sat (cx_hmac_Mac_Reset w (Un [macF y key T])) Va.z 0 [] [macF y key T] w := hm.sat0 rfl (fun f hf ho k hk => ⟨f, hf, hk⟩)
  have h1 := (hs0.unsep 0 rfl).mem.take (js := [0, 1, 2]) rfl
  refine Con.ofSep (fun k hk => ?_) (reset0_c w y.m y.bi y.Ai y.ci y.bo y.Ao y.co (ptrB y.bn) key h1)
  obtain ⟨f, hf, hk⟩ := hk
  refine ⟨_, List.mem_singleton.2 rfl, f, ?_, hk⟩
  simp only [mac0, List.mem_cons, List.not_mem_nil, or_false] at hf
  unfold macFs
  rcases hf with rfl | rfl | rfl
  · exact List.mem_cons_self
  · exact List.mem_cons_of_mem _ List.mem_cons_self
  · exact List.mem_cons_of_mem _ (List.mem_cons_of_mem _ List.mem_cons_self)
theorem mwrite_c (w : World) (y : MacY) (key T : List UInt8) (P : Option Addr) (p : List UInt8) (d : Nat) (hn : T.length + p.length ≤ 100000000) (hm : Mem w [macF y key T, bsF P p, oddF 5]) :
    Con Tryz.prog n_hmac_Mac_Write #[ptrB y.m, .slice P p.length d] w [macF y key T] fun v Fs => ∃ y', y'.m = y.m ∧ v = .int .i64 p.length ∧ Fs = [macF y' key (T ++ p)] := by
  have g := good_hmac_Mac_Write w (Un [macF y key T])
  have hs0 : Sat (cx_hmac_Mac_Write w (Un [macF y key T])) Va.z 0 [] [macF y key T, bsF P p, oddF 5] w := hm.sat0 rfl (ownIn (Gs := [macF y key T]) (fun f hf => by
    simp only [List.mem_cons, List.not_mem_nil, or_false] at hf
    rcases hf with rfl | rfl <;> rfl))
  refine con_of_sx (cx := cx_hmac_Mac_Write w (Un [macF y key T])) g b_hmac_Mac_Write rfl rfl (β := Va.z) [.c (.v (ptrB y.m)), .c (.v (.slice P p.length d))] 0 [] (macFs y key T ++ [bsF P p, oddF 5]) rfl rfl (hs0.unsep 0 rfl) ?_
  refine ⟨ptrB y.bn, fun β w' hs => bkcell (hs.get 0 rfl) rfl, ?_⟩
  refine call_con [3] (fun β w' hs => hwrite_c w' y.bn (padL key 0x36 ++ T) y.An y.cn P p d (by rw [List.length_append, padL_len]; omega) (hs.mem.take (js := [3, 4, 5]) rfl)) ?_
  rintro v Fs ⟨A', c', rfl, rfl⟩
  intro β w' hs
  have k := hs.sep [1, 2, 3, 0] rfl ⟨rfl, rfl, rfl, rfl, trivial⟩
  refine k.fin [0] ⟨⟨y.m, y.bi, y.Ai, y.ci, y.bo, y.Ao, y.co, y.bn, A', c'⟩, rfl, rfl, ?_⟩
  unfold macF macFs
  rw [← List.append_assoc]
  rfl
theorem msum_c (w : World) (y : MacY) (key T : List UInt8) (hn : T.length ≤ 100000000) (h : (macF y key T).p w) (hD : ∀ k, (macF y key T).D k → k < w.heap.size) (h1 : (oddF 5).p w) :
    Con Tryz.prog n_hmac_Mac_Sum #[ptrB y.m] w [] fun v Fs => ∃ A' c', v = .slice A' 32 c' ∧ 32 ≤ c' ∧ c' ≤ maxLen ∧ Fs = [browF ty_uint8 A' (hmL key T) c'] := by
  have g := good_hmac_Mac_Sum w (Un [])
  refine con_of_sx (cx := cx_hmac_Mac_Sum w (Un [])) g b_hmac_Mac_Sum rfl rfl (β := Va.z) [.c (.v (ptrB y.m))] 0 [] [oldF w] rfl rfl (old_sat rfl) ?_
  have hb : ∀ {w'}, (oldF w).p w' → (bkF y.m ty_hmac_Mac [ptrB y.bi, ptrB y.bo, ptrB y.bn]).p w' := fun ho => (factOld h hD ho).1 _ (by simp [macFs])
  have ho_ : ∀ {w'}, (oldF w).p w' → (hshF y.bo (padL key 0x5c) y.Ao y.co).p w' := fun ho => (factOld h hD ho).1 _ (by simp [macFs])
  have hn_ : ∀ {w'}, (oldF w).p w' → (hshF y.bn (padL key 0x36 ++ T) y.An y.cn).p w' := fun ho => (factOld h hD ho).1 _ (by simp [macFs])
  have hDo : ∀ k, (hshF y.bo (padL key 0x5c) y.Ao y.co).D k → k < w.heap.size := fun k hk => hD k ⟨_, by simp [macFs], hk⟩
  have hDn : ∀ k, (hshF y.bn (padL key 0x36 ++ T) y.An y.cn).D k → k < w.heap.size := fun k hk => hD k ⟨hshF y.bn (padL key 0x36 ++ T) y.An y.cn, by simp [macFs], hk⟩
  refine ⟨ptrB y.bo, fun β w' hs => bkcell (hb (hs.get 0 rfl)) rfl, ?_⟩
  refine call_con [] (fun β w' hs => hcopy_c w' y.bo (padL key 0x5c) y.Ao y.co (ho_ (hs.get 0 rfl)) (fun k hk => Nat.lt_of_lt_of_le (hDo k hk) hs.chg.size)) ?_
  rintro v Fs ⟨b', A', c', rfl, _, _, rfl⟩
  refine ⟨ptrB y.bn, fun β w' hs => bkcell (hb (hs.get 1 rfl)) rfl, ?_⟩
  refine call_con [] (fun β w' hs => hval_c w' y.bn (padL key 0x36 ++ T) y.An y.cn (by rw [List.length_append, padL_len]; omega) (hn_ (hs.get 1 rfl)) (fun k hk => Nat.lt_of_lt_of_le (hDn k hk) hs.chg.size) (Rd.old h1 (hs.get 1 rfl))) ?_
  rintro v Fs ⟨A2, c2, rfl, _, _, rfl⟩
  obtain ⟨s, hse⟩ : ∃ s, Sha.sum (padL key 0x36 ++ T) = s := ⟨_, rfl⟩
  have hsl : s.length = 32 := by rw [← hse]; exact sum_len _
  refine call_con [1] (R := fun v Fs => ∃ A'' c'', v = .int .i64 32 ∧ Fs = [hshF b' (padL key 0x5c ++ s) A'' c'']) (fun β w' hs => by
    have k1 := hs.ro 0 rfl
    have k2 := k1.sub 2 rfl rfl (oddF 5) rfl (Rd.old h1 (hs.get 2 rfl)) (rd_lt h1)
    rw [hse] at k2
    have q := hwrite_c w' b' (padL key 0x5c) A' c' A2 s c2 (by rw [padL_len, hsl]; decide) (k2.mem.take (js := [2, 1, 0]) rfl)
    rw [hsl] at q
    exact q) ?_
  rintro v Fs ⟨A3, c3, rfl, rfl⟩
  refine call_con [] (fun β w' hs => hval_c w' b' (padL key 0x5c ++ s) A3 c3 (by rw [List.length_append, padL_len, hsl]; decide) (hs.get 0 rfl) (hs.getLt 0 rfl) (Rd.old h1 (hs.get 2 rfl))) ?_
  rintro v Fs ⟨A4, c4, rfl, h5, h6, rfl⟩
  intro β w' hs
  exact hs.fin [0] ⟨A4, c4, rfl, h5, h6, by unfold hmL; rw [hse]; rfl⟩
theorem begun_c (w : World) (B : Option Addr) (l : List UInt8) (c : Nat) (hr : Bs w B l) (hn : l.length ≤ 1000000) (h1 : (oddF 5).p w) (h0 : (firstF 2).p w) :
    Con Tryz.prog n_hmac_begun #[.slice B l.length c] w [] fun v Fs => ∃ b A' c', v = ptrB b ∧ Fs = [hshF b l A' c'] := by
  have g := good_hmac_begun w (Un [])
  have hs0 : Sat (cx_hmac_begun w (Un [])) Va.z 0 [] [oldF w] w := old_sat rfl
  have hs1 := (hs0.sub 0 rfl rfl (oddF 5) rfl h1 (rd_lt h1)).sub 1 rfl rfl (bsF B l) rfl hr (rd_lt hr)
  refine con_of_sx (cx := cx_hmac_begun w (Un [])) g b_hmac_begun rfl rfl (β := Va.z) [.c (.v (.slice B l.length c))] 0 [] [bsF B l, oddF 5, oldF w] rfl rfl hs1 ?_
  refine call_con [] (fun β w' hs => hnew_c w' (Rd.old h0 (hs.get 2 rfl))) ?_
  rintro v Fs ⟨b, rfl, rfl⟩
  refine call_con [0] (fun β w' hs => hwrite_c w' b [] none 0 B l c (by show 0 + l.length ≤ _; omega) (hs.mem.take (js := [0, 1, 2]) rfl)) ?_
  rintro v Fs ⟨A', c', rfl, rfl⟩
  intro β w' hs
  exact hs.fin [0] ⟨b, A', c', rfl, rfl⟩
set_option maxHeartbeats 1000000 in
theorem mnew_c (w : World) (A : Option Addr) (key : List UInt8) (c : Nat) (hr : Bs w A key) (hn : key.length ≤ 1000000) (h1 : (oddF 5).p w) (h0 : (firstF 2).p w) :
    Con Tryz.prog n_hmac_New #[.slice A key.length c] w [] fun v Fs => ∃ y, v = ptrB y.m ∧ Fs = [macF y key []] := by
  have g := good_hmac_New w (Un [])
  have l64 : ∀ x, (padL key x).length = 64 := padL_len key
  refine con_of_tri (cx := cx_hmac_New w (Un [])) g b_hmac_New rfl rfl (β := Va.z) [.c (.v (.slice A key.length c))] 0 [] [oldF w] rfl rfl (old_sat rfl) ?_
  refine tri_seq g ?_
  refine tri_seq g ?_
  refine call_con [] (fun β w' hs => pad_c w' A key c 0x36 (Rd.old hr (hs.get 0 rfl)) hn (Rd.old h1 (hs.get 0 rfl)) (Rd.old h0 (hs.get 0 rfl))) ?_
  rintro v Fs ⟨p1, j1, rfl, rfl⟩
  refine call_con [] (fun β w' hs => by
    have q := begun_c w' (some ⟨p1, 0, none⟩) (padL key 0x36) 64 (bk_bs (hs.get 0 rfl)) (by rw [l64]; decide) (Rd.old h1 (hs.get 1 rfl)) (Rd.old h0 (hs.get 1 rfl))
    rw [l64] at q
    exact q) ?_
  rintro v Fs ⟨bi, Ai, ci, rfl, rfl⟩
  refine call_con [] (fun β w' hs => pad_c w' A key c 0x5c (Rd.old hr (hs.get 2 rfl)) hn (Rd.old h1 (hs.get 2 rfl)) (Rd.old h0 (hs.get 2 rfl))) ?_
  rintro v Fs ⟨p2, j2, rfl, rfl⟩
  refine call_con [] (fun β w' hs => by
    have q := begun_c w' (some ⟨p2, 0, none⟩) (padL key 0x5c) 64 (bk_bs (hs.get 0 rfl)) (by rw [l64]; decide) (Rd.old h1 (hs.get 3 rfl)) (Rd.old h0 (hs.get 3 rfl))
    rw [l64] at q
    exact q) ?_
  rintro v Fs ⟨bo, Ao, co, rfl, rfl⟩
  refine reify_rule g 0 (fun _ => [ptrB bi, ptrB bo, .pointer none]) rfl rfl (fun _ => rfl) (fun mb => ?_)
  refine call_con [0, 3, 1] (fun β w' hs => reset0_c w' mb bi Ai ci bo Ao co (.pointer none) key (hs.mem.take (js := [0, 3, 1]) rfl)) ?_ ⟨rfl, rfl, rfl, trivial⟩
  rintro v Fs ⟨y, hy, rfl, rfl⟩
  intro β w' hs
  refine hs.fin [0] ⟨y, ?_, rfl⟩
  rw [hy]
  rfl
abbrev Part := Option Addr × List UInt8 × Nat
def partV (p : Part) : Value := .slice p.1 p.2.1.length p.2.2
def partsT (ps : List Part) : List UInt8 := ps.flatMap (·.2.1)
def partF (P : Option Addr) (ps : List Part) : Fact where
  own := false
  D := fun k => (rdF 1 P ps.length (ps.map partV)).D k ∨ ∃ p ∈ ps, (bsF p.1 p.2.1).D k
  p := fun w => Rd 1 P ps.length (ps.map partV) w ∧ ∀ p ∈ ps, Bs w p.1 p.2.1
  st := fun w w' hs h => ⟨(rdF 1 P ps.length (ps.map partV)).st w w' (fun k hk => hs k (.inl hk)) h.1, fun p hp => (bsF p.1 p.2.1).st w w' (fun k hk => hs k (.inr ⟨p, hp, hk⟩)) (h.2 p hp)⟩
def cellR (b : Nat) (v : Value) : Fact where
  own := false
  D := fun k => k = b
  p := fun w => w.cell? ⟨b, 0, none⟩ = some v
  st := fun w w' hs h => by rw [← h]; exact World.cell?_of_block (hs b rfl)
theorem Mem.weakHead {w : World} {f g : Fact} {L : List Fact} (h : Mem w (f :: L)) (ho : g.own = true → f.own = true) (hp : f.p w → g.p w) (hD : ∀ k, g.D k → f.D k) : Mem w (g :: L) := by
  refine ⟨fun x hx => ?_, fun x hx k hk => ?_, List.pairwise_cons.2 ⟨fun x hx q k hk => ?_, (List.pairwise_cons.1 h.sepf).2⟩⟩
  · rcases List.mem_cons.1 hx with rfl | hx
    · exact hp (h.fact f List.mem_cons_self)
    · exact h.fact x (List.mem_cons_of_mem _ hx)
  · rcases List.mem_cons.1 hx with rfl | hx
    · exact h.flt f List.mem_cons_self k (hD k hk)
    · exact h.flt x (List.mem_cons_of_mem _ hx) k hk
  · exact (List.pairwise_cons.1 h.sepf).1 x hx (q.imp_left ho) k (hD k hk)
theorem Sat.withCell {cx : Cx} {β : Va} {n : Nat} {H : List Bk} {F : List Fact} {w : World} (h : Sat cx β n H F w) {b : Bk} (hb : b ∈ H) {x : SL} (hx : b.cells = [x]) {js : List Nat} (hn : nodupB js = true) : Mem w (cellR (β b.id) (x.val β) :: takeIx F js) := by
  have h1 := h.weaken (H' := [b]) (F' := F) (List.singleton_sublist.2 hb) (List.Sublist.refl F)
  obtain ⟨id, ty, cells⟩ := b
  simp only at hx
  subst hx
  have h2 := h1.ofBk
  have hm := h2.mem
  have h3 : Mem w (bkF (β id) ty ([x].map (SL.val β)) :: takeIx F js) := by
    have hmt := (⟨fun f hf => hm.fact f (List.mem_cons_of_mem _ hf), fun f hf => hm.flt f (List.mem_cons_of_mem _ hf), (List.pairwise_cons.1 hm.sepf).2⟩ : Mem w F).take (js := js) hn
    refine ⟨fun f hf => ?_, fun f hf k hk => ?_, List.pairwise_cons.2 ⟨fun f hf ho k hk => ?_, hmt.sepf⟩⟩
    · rcases List.mem_cons.1 hf with rfl | hf
      · exact hm.fact _ List.mem_cons_self
      · exact hmt.fact f hf
    · rcases List.mem_cons.1 hf with rfl | hf
      · exact hm.flt _ List.mem_cons_self k hk
      · exact hmt.flt f hf k hk
    · obtain ⟨j, _, hj⟩ := takeIx_mem hf
      exact (List.pairwise_cons.1 hm.sepf).1 f (List.mem_of_getElem? hj) ho k hk
  refine h3.weakHead (fun q => by cases q) (fun q => ?_) (fun k hk => hk)
  exact bkcell q rfl
set_option maxHeartbeats 1000000 in
theorem once_c (w : World) (bx : Nat) (y : MacY) (key T0 : List UInt8) (P : Option Addr) (ps : List Part) (cP : Nat) (hn : (partsT ps).length ≤ 1000000) (hl : ps.length ≤ 1000) (hm : Mem w [macF y key T0, cellR bx (ptrB y.m), partF P ps, oddF 5]) :
    Con Tryz.prog n_hmac_pieces_1_1 #[.slice P ps.length cP, ptrB bx] w [macF y key T0] fun v Fs => ∃ A' c' y' T', y'.m = y.m ∧ v = .slice A' 32 c' ∧ 32 ≤ c' ∧ c' ≤ maxLen ∧ Fs = [browF ty_uint8 A' (hmL key (partsT ps)) c', macF y' key T'] := by
  have g := good_hmac_pieces_1_1 w (Un [macF y key T0])
  have hs0 : Sat (cx_hmac_pieces_1_1 w (Un [macF y key T0])) Va.z 0 [] [macF y key T0, cellR bx (ptrB y.m), partF P ps, oddF 5] w := hm.sat0 rfl (ownIn (Gs := [macF y key T0]) (fun f hf => by
    simp only [List.mem_cons, List.not_mem_nil, or_false] at hf
    rcases hf with rfl | rfl | rfl <;> rfl))
  refine con_of_sx (cx := cx_hmac_pieces_1_1 w (Un [macF y key T0])) g b_hmac_pieces_1_1 rfl rfl (β := Va.z) [.c (.v (.slice P ps.length cP)), .c (.v (ptrB bx))] 0 [] [macF y key T0, cellR bx (ptrB y.m), partF P ps, oddF 5] rfl rfl hs0 ?_
  refine ⟨ptrB y.m, fun β w' hs => hs.get 1 rfl, ?_⟩
  refine call_con [0] (fun β w' hs => reset_c w' y key T0 (hs.mem.take (js := [0]) rfl)) ?_
  rintro v Fs ⟨y1, hy1, rfl, rfl⟩
  refine loop_rule (ι := Nat × MacY) 0 (fun i => [(1, .c (.v (ptrB bx))), (8, .c (.v (.slice P ps.length cP))), (9, .c (.v (.int .i64 (ps.length : Int)))), (10, .c (.v (.int .i64 (i.1 : Int))))]) (fun _ => []) (fun i => [macF i.2 key (partsT (ps.take i.1)), cellR bx (ptrB y.m), partF P ps, oddF 5])
    (fun i => i.1 ≤ ps.length ∧ i.2.m = y.m) (fun i => ps.length - i.1) (0, y1) ⟨Nat.zero_le _, hy1⟩ (Ent.same ⟨rfl, rfl, rfl, rfl, trivial⟩ rfl) g ?_
  rintro ⟨i, yi⟩ ⟨hi, hyi⟩
  simp only at hi hyi
  have hpre : ∀ k, (partsT (ps.take k)).length ≤ (partsT ps).length := fun k => by
    conv => rhs; rw [← List.take_append_drop k ps]
    unfold partsT
    rw [List.flatMap_append, List.length_append]
    omega
  refine BIf.dec (fun hlt => ?_) (fun hge => ?_)
  · have hlt0 : (i : Int) < (ps.length : Int) := hlt
    have hil : i < ps.length := by omega
    obtain ⟨p, hp, hpm⟩ := at_lt hil
    have hPa : ∃ ad, P = some ad := by
      obtain ⟨ad, q, _⟩ := (hm.fact (partF P ps) (by simp)).1.2 (by omega)
      exact ⟨ad, q⟩
    obtain ⟨ad, hPa⟩ := hPa
    refine ⟨ad, i, hPa, rfl, hil, partV p, fun β w' hs => by
      have h : Rd 1 P ps.length (ps.map partV) w' := (hs.get 2 rfl : (partF P ps).p w').1
      rw [hPa] at h
      exact Rd.cell1 h (by rw [List.getElem?_map, hp]; rfl), ?_⟩
    refine ⟨ptrB y.m, fun β w' hs => hs.get 1 rfl, ?_⟩
    have hlen : (partsT (ps.take (i + 1))) = partsT (ps.take i) ++ p.2.1 := by
      unfold partsT
      rw [List.take_add_one, hp, List.flatMap_append]
      simp
    have hb1 := hpre (i + 1)
    rw [hlen, List.length_append] at hb1
    refine call_con [0] (R := fun v Fs => ∃ y', y'.m = y.m ∧ v = .int .i64 p.2.1.length ∧ Fs = [macF y' key (partsT (ps.take (i + 1)))]) (fun β w' hs => by
      have k1 := hs.sub 2 rfl rfl (bsF p.1 p.2.1) rfl ((hs.get 2 rfl : (partF P ps).p w').2 p hpm) (fun k hk => .inr ⟨p, hpm, hk⟩)
      have q := mwrite_c w' yi key (partsT (ps.take i)) p.1 p.2.1 p.2.2 (by omega) (k1.mem.take (js := [1, 0, 4]) rfl)
      rw [hyi, ← hlen] at q
      exact q) ?_
    rintro v Fs ⟨y2, hy2, rfl, rfl⟩
    refine ⟨((i + 1 : Nat) : Int), by rw [wrap_i64 (by omega) (by omega)]; rfl, ?_⟩
    exact ⟨(i + 1, y2), ⟨hil, hy2⟩, by show ps.length - (i + 1) < ps.length - i; omega, Ent.same ⟨rfl, rfl, rfl, rfl, trivial⟩ rfl⟩
  · have hge0 : ¬ (i : Int) < (ps.length : Int) := hge
    obtain rfl : i = ps.length := by omega
    rw [List.take_length]
    refine ⟨ptrB y.m, fun β w' hs => hs.get 1 rfl, ?_⟩
    refine call_con [] (fun β w' hs => by
      have q := msum_c w' yi key (partsT ps) (by omega) (hs.get 0 rfl) (hs.getLt 0 rfl) (hs.get 3 rfl)
      rw [hyi] at q
      exact q) ?_
    rintro v Fs ⟨A', c', rfl, h5, h6, rfl⟩
    intro β w' hs
    exact hs.fin [0, 1] ⟨A', c', yi, partsT ps, hyi, rfl, h5, h6, rfl⟩
end Go.Proofs.YteenjgfbbkdlhaaGreatDoor.Sx

namespace Go.Proofs.YteenjgfbbkdlhaaGreatDoor.Sx
open Go
attribute [local irreducible] Calls
section
variable {cx : Cx} {β : Va} {n : Nat} {H : List Bk} {F : List Fact} {w : World}
theorem Sat.subN (h : Sat cx β n H F w) (js : List Nat) (hno : ∀ f ∈ takeIx F js, f.own = false) (g : Fact) (hgo : g.own = false) (hp : g.p w) (hD : ∀ k, g.D k → Un (takeIx F js) k) : Sat cx β n H (g :: F) w := by
  have hin : ∀ k, g.D k → ∃ (i : Nat) (f : Fact), F[i]? = some f ∧ f.own = false ∧ f.D k := fun k hk => by
    obtain ⟨f, hf, hfk⟩ := hD k hk
    obtain ⟨i, _, hi⟩ := takeIx_mem hf
    exact ⟨i, f, hi, hno f hf, hfk⟩
  refine h.old g hp (fun k hk => ?_) (fun b hb q => ?_) (fun q => by rw [hgo] at q; cases q) (fun g' hg' ho k hk hk' => ?_) (fun p hpp q => ?_)
  · obtain ⟨i, f, hi, _, hfk⟩ := hin k hk
    exact h.flt f (List.mem_of_getElem? hi) k hfk
  · obtain ⟨i, f, hi, _, hfk⟩ := hin _ q
    exact h.sepb f (List.mem_of_getElem? hi) b hb hfk
  · have ho' : g'.own = true := ho.resolve_left (by rw [hgo]; decide)
    obtain ⟨i, f, hi, hfo, hfk⟩ := hin k hk
    obtain ⟨j, hj⟩ := List.getElem?_of_mem hg'
    have hne : j ≠ i := fun q => by subst q; rw [hj] at hi; obtain rfl := Option.some.inj hi; rw [hfo] at ho'; cases ho'
    exact h.apart hj hi hne (.inl ho') k hk' hfk
  · obtain ⟨i, f, hi, _, hfk⟩ := hin _ q
    exact (h.pin p hpp).2.2 f (List.mem_of_getElem? hi) hfk
theorem rowD {e size : Nat} {A : Option Addr} {k c : Nat} {xs : List Value} {w : World} (h : (rowF e size (.slice A k c) k xs).p w) : ∀ b, (rdF size A k xs).D b → (rowF e size (.slice A k c) k xs).D b := by
  rintro b ⟨h0, ad, q, rfl⟩
  have hk : 0 < k := Nat.pos_of_ne_zero (fun q => by rw [q, Nat.zero_mul] at h0; exact Nat.lt_irrefl _ h0)
  rcases h.2 with ⟨he, h0⟩ | ⟨g, cap, cur, he, _⟩
  · omega
  · have hA : A = some ⟨g, 0, none⟩ := by injection he
    rw [q] at hA
    obtain rfl := Option.some.inj hA
    show Value.ownBlock (.slice A k c) = _
    rw [q]
    rfl
theorem Sat.rowRd (h : Sat cx β n H F w) (j : Nat) {e size : Nat} {A : Option Addr} {k c : Nat} {xs : List Value} (hj : nth F j = some (rowF e size (.slice A k c) k xs)) : Sat cx β n H (putAt F j (rdF size A k xs)) w := by
  have hp := h.get j hj
  exact h.upd hj rfl (Chg.refl _ _) (row_rd hp) (fun b hb => .inl (rowD hp b hb))
theorem Sat.part1 {P A : Option Addr} {l : List UInt8} {c : Nat} (h : Sat cx β n H F w) (js : List Nat) (hj : takeIx F js = [rdF 1 P 1 [.slice A l.length c], bsF A l]) : Sat cx β n H (partF P [(A, l, c)] :: F) w := by
  have hP : Rd 1 P 1 [.slice A l.length c] w := h.fact _ (by
    have : rdF 1 P 1 [.slice A l.length c] ∈ takeIx F js := by rw [hj]; simp
    obtain ⟨i, _, hi⟩ := takeIx_mem this
    exact List.mem_of_getElem? hi)
  have hA : Bs w A l := h.fact (bsF A l) (by
    have : bsF A l ∈ takeIx F js := by rw [hj]; simp
    obtain ⟨i, _, hi⟩ := takeIx_mem this
    exact List.mem_of_getElem? hi)
  refine h.subN js (fun f hf => ?_) _ rfl ⟨hP, fun p hp => ?_⟩ (fun k hk => ?_)
  · rw [hj] at hf
    simp only [List.mem_cons, List.not_mem_nil, or_false] at hf
    rcases hf with rfl | rfl <;> rfl
  · obtain rfl := List.mem_singleton.1 hp; exact hA
  · rw [hj]
    rcases hk with hk | ⟨p, hp, hk⟩
    · exact ⟨_, List.mem_cons_self, hk⟩
    · obtain rfl := List.mem_singleton.1 hp
      exact ⟨_, List.mem_cons_of_mem _ List.mem_cons_self, hk⟩
theorem Sat.part2 {P A B : Option Addr} {l m : List UInt8} {c d : Nat} (h : Sat cx β n H F w) (js : List Nat) (hj : takeIx F js = [rdF 1 P 2 [.slice A l.length c, .slice B m.length d], bsF A l, bsF B m]) : Sat cx β n H (partF P [(A, l, c), (B, m, d)] :: F) w := by
  have get : ∀ f ∈ takeIx F js, f.p w := fun f hf => by obtain ⟨i, _, hi⟩ := takeIx_mem hf; exact h.fact f (List.mem_of_getElem? hi)
  have hP : Rd 1 P 2 [.slice A l.length c, .slice B m.length d] w := get (rdF 1 P 2 [.slice A l.length c, .slice B m.length d]) (by rw [hj]; simp)
  have hA : Bs w A l := get (bsF A l) (by rw [hj]; simp)
  have hB : Bs w B m := get (bsF B m) (by rw [hj]; simp)
  refine h.subN js (fun f hf => ?_) _ rfl ⟨hP, fun p hp => ?_⟩ (fun k hk => ?_)
  · rw [hj] at hf
    simp only [List.mem_cons, List.not_mem_nil, or_false] at hf
    rcases hf with rfl | rfl | rfl <;> rfl
  · simp only [List.mem_cons, List.not_mem_nil, or_false] at hp
    rcases hp with rfl | rfl
    · exact hA
    · exact hB
  · rw [hj]
    rcases hk with hk | ⟨p, hp, hk⟩
    · exact ⟨_, List.mem_cons_self, hk⟩
    · simp only [List.mem_cons, List.not_mem_nil, or_false] at hp
      rcases hp with rfl | rfl
      · exact ⟨bsF A l, by simp, hk⟩
      · exact ⟨bsF B m, by simp, hk⟩
end
theorem four_c (w : World) : Con Tryz.prog n_hmac_four #[.int .i64 1] w [] fun v Fs => ∃ b, v = .slice (some ⟨b, 0, none⟩) 4 4 ∧ Fs = [browF ty_uint8 (some ⟨b, 0, none⟩) (Bx.be4 1) 4] := by
  have g := good_hmac_four w (Un [])
  refine con_of_sx (cx := cx_hmac_four w (Un [])) g b_hmac_four rfl rfl (β := Va.z) [.c (.v (.int .i64 1))] 0 [] [] rfl rfl (Sat.start rfl) ?_
  refine ⟨by decide, 0, by decide, 0, by decide, by decide, 0, by decide, 0, by decide, by decide, 0, by decide, 0, by decide, 1, by decide, ?_⟩
  intro b
  intro β w' hs
  exact hs.fin [0] ⟨b, rfl, rfl⟩
def insP (x : List UInt8) (args : Array Value) (X : Fact) : Prop := x.length = 32 ∧ ∃ A c, args = #[.slice A 32 c] ∧ X = bsF A x
set_option maxHeartbeats 2000000 in
theorem pieces_it (l : Nat) (w : World) (bx1 bx2 bx3 : Nat) (A B : Option Addr) (pass salt : List UInt8) (c d rounds : Nat) (f0 R : Fact) (J Jx : List (List UInt8) → Fact → Prop) (hJ0 : J [] f0) (hJo : ∀ pre f, J pre f → f.own = true) (hRo : R.own = false) (hY : Yc Tryz.prog l J Jx R (fun _ => insP)) (hJS : ∀ x f, ¬ J [x] f)
    (hk : pass.length ≤ 1000000) (hn : salt.length ≤ 100000) (hr1 : 1 ≤ rounds) (hr2 : rounds ≤ 64)
    (hm : Mem w (f0 :: R :: [bkF bx1 ty_sl_uint8 [.slice A pass.length c], bkF bx2 ty_sl_uint8 [.slice B salt.length d], bkF bx3 ty_int [.int .i64 rounds], bsF A pass, bsF B salt, oddF 5, firstF 2])) :
    Con Tryz.prog n_hmac_pieces_1 #[.func (.yield l) #[] #[], ptrB bx1, ptrB bx2, ptrB bx3] w [f0, bkF bx1 ty_sl_uint8 [.slice A pass.length c], bkF bx2 ty_sl_uint8 [.slice B salt.length d], bkF bx3 ty_int [.int .i64 rounds]]
      (fun _ Fs => ∃ f Fs', Fs = f :: Fs' ∧ ((∃ xs, J xs f ∧ False) ∨ (∃ pre, Jx pre f ∧ pre = [stretchL pass salt rounds] ∧ Fs' = []))) := by
  obtain ⟨Gs, hGs⟩ : ∃ Gs, Gs = [f0, bkF bx1 ty_sl_uint8 [.slice A pass.length c], bkF bx2 ty_sl_uint8 [.slice B salt.length d], bkF bx3 ty_int [.int .i64 rounds]] := ⟨_, rfl⟩
  rw [← hGs]
  have g := good_hmac_pieces_1 w (Un Gs) [bx1, bx2, bx3]
  have hf0 := hJo _ _ hJ0
  have hs0 : Sat (cx_hmac_pieces_1 w (Un Gs) [bx1, bx2, bx3]) (Va.of fun i => [bx1, bx2, bx3].getD i 0) 3 [] (f0 :: R :: [bkF bx1 ty_sl_uint8 [.slice A pass.length c], bkF bx2 ty_sl_uint8 [.slice B salt.length d], bkF bx3 ty_int [.int .i64 rounds], bsF A pass, bsF B salt, oddF 5, firstF 2]) w := by
    refine hm.sat rfl (fun f hf ho k hk => ?_) ⟨Nat.le_refl 3, fun i hi => rfl⟩
    simp only [List.mem_cons, List.not_mem_nil, or_false] at hf
    rcases hf with rfl | rfl | rfl | rfl | rfl | rfl | rfl | rfl | rfl
    · exact ⟨_, by rw [hGs]; simp, hk⟩
    · rw [hRo] at ho; cases ho
    · exact ⟨_, by rw [hGs]; simp, hk⟩
    · exact ⟨bkF bx2 ty_sl_uint8 [.slice B salt.length d], by rw [hGs]; simp, hk⟩
    · exact ⟨bkF bx3 ty_int [.int .i64 rounds], by rw [hGs]; simp, hk⟩
    · cases ho
    · cases ho
    · cases ho
    · cases ho
  have hs1 := ((hs0.toBk 2 rfl 0 (by decide) rfl).toBk 2 rfl 1 (by decide) rfl).toBk 2 rfl 2 (by decide) rfl
  have hml := maxLen_eq
  refine con_of_sx (cx := cx_hmac_pieces_1 w (Un Gs) [bx1, bx2, bx3]) g b_hmac_pieces_1 rfl rfl (β := Va.of fun i => [bx1, bx2, bx3].getD i 0) [.c (.v (.func (.yield l) #[] #[])), .c (.p 0 0), .c (.p 1 0), .c (.p 2 0)] 3 [⟨2, ty_int, [.v (.int .i64 rounds)]⟩, ⟨1, ty_sl_uint8, [.v (.slice B salt.length d)]⟩, ⟨0, ty_sl_uint8, [.v (.slice A pass.length c)]⟩] [f0, R, bsF A pass, bsF B salt, oddF 5, firstF 2] rfl rfl hs1 ?_
  refine call_con [] (fun β w' hs => mnew_c w' A pass c (hs.get 2 rfl) hk (hs.get 4 rfl) (hs.get 5 rfl)) ?_
  rintro v Fs ⟨y, rfl, rfl⟩
  refine loop_rule (ι := Unit) 4 (fun _ => [(0, .c (.v (.func (.yield l) #[] #[]))), (2, .c (.p 1 0)), (3, .c (.p 2 0)), (6, .fn (.func n_hmac_pieces_1_1) [] [.p 3 0]), (7, .c (.v (.int .i64 1)))])
    (fun _ => [⟨3, 355, [.v (ptrB y.m)]⟩, ⟨2, ty_int, [.v (.int .i64 rounds)]⟩, ⟨1, ty_sl_uint8, [.v (.slice B salt.length d)]⟩]) (fun _ => [macF y pass [], f0, R, bsF B salt, oddF 5]) (fun _ => True) (fun _ => 0) () trivial (Ent.mk' ⟨rfl, rfl, rfl, rfl, rfl, trivial⟩ rfl (fun β w' hs => (hs.keepB (by
      refine List.Sublist.cons_cons _ (List.Sublist.cons_cons _ (List.Sublist.cons_cons _ (List.nil_sublist _))))).perm [0, 1, 2, 4, 5])) g ?_
  intro _ _
  obtain ⟨S, hSe⟩ : ∃ S : Nat → List UInt8, S = strU pass salt := ⟨_, rfl⟩
  obtain ⟨X, hXe⟩ : ∃ X : Nat → List UInt8, X = strX pass salt := ⟨_, rfl⟩
  have hS0 : hmL pass (salt ++ Bx.be4 1) = S 0 := by rw [hSe]; rfl
  have hX0 : S 0 = X 0 := by rw [hSe, hXe]; rfl
  have hSl : ∀ n, (S n).length = 32 := fun n => by rw [hSe]; exact strU_len _ _ n
  have hXl : ∀ n, (X n).length = 32 := fun n => by rw [hXe]; exact strX_len _ _ n
  have hSs : ∀ n, hmL pass (S n) = S (n + 1) := fun n => by rw [hSe]; rfl
  have hXs : ∀ n, Bx.xorB (X n) (S (n + 1)) = X (n + 1) := fun n => by rw [hSe, hXe]; rfl
  have hTX : stretchL pass salt rounds = X (rounds - 1) := by rw [hXe]; rfl
  obtain ⟨bk3, hbk3⟩ : ∃ bk3 : Bk, bk3 = ⟨3, 355, [.v (ptrB y.m)]⟩ := ⟨_, rfl⟩
  have hsub : ∀ {n : Nat} {F : List Fact}, Sub (cx_hmac_pieces_1 w (Un Gs) [bx1, bx2, bx3]) n [⟨3, 355, [.v (ptrB y.m)]⟩, ⟨2, ty_int, [.v (.int .i64 rounds)]⟩, ⟨1, ty_sl_uint8, [.v (.slice B salt.length d)]⟩] F [⟨1, ty_sl_uint8, [.v (.slice B salt.length d)]⟩] [] := fun {n F} => Sub.of ((List.sublist_cons_self _ _).trans (List.sublist_cons_self _ _)) (List.nil_sublist _)
  refine draw_rule g p_hmac_pieces_1_4 (by kernel_rfl) [⟨1, ty_sl_uint8, [.v (.slice B salt.length d)]⟩] [] hsub ?_
  refine call_con [] (fun β w' hs => four_c w') ?_
  rintro v Fs ⟨b4, rfl, rfl⟩
  refine ⟨hsub, ?_⟩
  intro b2
  refine ⟨hsub, ?_⟩
  refine call_con [2] (A := fun β => #[.slice (some ⟨b2, 0, none⟩) 2 2, ptrB (β 3)]) (R := fun v Fs => ∃ A' c' y' T', y'.m = y.m ∧ v = .slice A' 32 c' ∧ Fs = [browF ty_uint8 A' (S 0) c', macF y' pass T']) (fun β w' hs => by
    have k1 := (hs.rowRd 0 rfl).ro 1 rfl
    have k2 := k1.part2 (P := some ⟨b2, 0, none⟩) (A := B) (l := salt) (c := d) (B := some ⟨b4, 0, none⟩) (m := Bx.be4 1) (d := 4) [0, 5, 1] rfl
    have k3 := k2.withCell (b := ⟨3, 355, [.v (ptrB y.m)]⟩) (by simp) rfl (js := [3, 0, 7]) rfl
    have q := once_c w' (β 3) y pass [] (some ⟨b2, 0, none⟩) [(B, salt, d), (some ⟨b4, 0, none⟩, Bx.be4 1, 4)] 2 (by show (salt ++ (Bx.be4 1 ++ [])).length ≤ _; simp only [List.length_append, List.length_nil]; show salt.length + (4 + 0) ≤ _; omega) (by show 2 ≤ 1000; decide) (k3.take (js := [1, 0, 2, 3]) rfl)
    have e : partsT [(B, salt, d), (some ⟨b4, 0, none⟩, Bx.be4 1, 4)] = salt ++ Bx.be4 1 := by simp [partsT]
    rw [e, hS0] at q
    exact q.mono (by rintro v Fs ⟨A', c', y', T', h1, rfl, _, _, rfl⟩; exact ⟨A', c', y', T', h1, rfl, rfl⟩)) ?_
  rintro v Fs ⟨A5, c5, y5, T5, hy5, rfl, rfl⟩
  refine ⟨hsub, ?_⟩
  refine ⟨((rounds - 1 : Nat) : Int), by rw [wrap_i64 (by omega) (by omega)]; omega, ?_⟩
  refine loop_rule (ι := Nat × (Option Addr × Nat) × (Option Addr × Nat) × MacY × List UInt8) 4 (fun i => [(0, .c (.v (.func (.yield l) #[] #[]))), (6, .fn (.func n_hmac_pieces_1_1) [] [.p 3 0]), (8, .c (.v (.slice i.2.1.1 32 i.2.1.2))), (9, .c (.v (.slice i.2.2.1.1 32 i.2.2.1.2))), (23, .c (.v (.int .i64 ((rounds - 1 : Nat) : Int)))), (24, .c (.v (.int .i64 (i.1 : Int))))])
    (fun _ => [⟨3, 355, [.v (ptrB y.m)]⟩]) (fun i => [bsF i.2.1.1 (S i.1), bsF i.2.2.1.1 (X i.1), macF i.2.2.2.1 pass i.2.2.2.2, f0, R, oddF 5]) (fun i => i.1 ≤ rounds - 1 ∧ i.2.2.2.1.m = y.m) (fun i => rounds - 1 - i.1) (0, (A5, c5), (A5, c5), y5, T5) ⟨Nat.zero_le _, hy5⟩
    (Ent.mk' ⟨rfl, rfl, rfl, rfl, rfl, rfl, trivial⟩ rfl (fun β w' hs => by
      have k1 := (hs.ro 0 rfl).dupRo 0 rfl
      have k2 := k1.perm [0, 1, 2, 5, 6, 8]
      show Sat _ _ _ _ [bsF A5 (S 0), bsF A5 (X 0), macF y5 pass T5, f0, R, oddF 5] w'
      rw [← hX0]
      exact k2.keepB (List.Sublist.cons_cons _ (List.nil_sublist _)))) g ?_
  rintro ⟨i, ⟨Au, cu⟩, ⟨Ax, cx'⟩, yi, Ti⟩ ⟨hi, hyi⟩
  simp only at hi hyi
  refine BIf.dec (fun hlt => ?_) (fun hge => ?_)
  · have hlt0 : (i : Int) < ((rounds - 1 : Nat) : Int) := hlt
    intro b3
    refine call_con [3] (A := fun β => #[.slice (some ⟨b3, 0, none⟩) 1 1, ptrB (β 3)]) (R := fun v Fs => ∃ A' c' y' T', y'.m = y.m ∧ v = .slice A' 32 c' ∧ Fs = [browF ty_uint8 A' (S (i + 1)) c', macF y' pass T']) (fun β w' hs => by
      have hrow : Sat (cx_hmac_pieces_1 w (Un Gs) [bx1, bx2, bx3]) β 4 [⟨3, 355, [.v (ptrB y.m)]⟩] [rdF 1 (some ⟨b3, 0, none⟩) 1 [.slice Au (S i).length cu], bsF Au (S i), bsF Ax (X i), macF yi pass Ti, f0, R, oddF 5] w' := by rw [hSl]; exact hs.rowRd 0 rfl
      have k2 := hrow.part1 (P := some ⟨b3, 0, none⟩) (A := Au) (l := S i) (c := cu) [0, 1] rfl
      have k3 := k2.withCell (b := ⟨3, 355, [.v (ptrB y.m)]⟩) (by simp) rfl (js := [4, 0, 7]) rfl
      have k4 := k3.take (js := [1, 0, 2, 3]) rfl
      have k5 : Mem w' [macF yi pass Ti, cellR (β 3) (ptrB yi.m), partF (some ⟨b3, 0, none⟩) [(Au, S i, cu)], oddF 5] := by rw [hyi]; exact k4
      have e : partsT [(Au, S i, cu)] = S i := by simp [partsT]
      have q := once_c w' (β 3) yi pass Ti (some ⟨b3, 0, none⟩) [(Au, S i, cu)] 1 (by rw [e, hSl]; decide) (by show 1 ≤ 1000; decide) k5
      rw [e, hSs] at q
      exact q.mono (by rintro v Fs ⟨A', c', y', T', h1, rfl, _, _, rfl⟩; exact ⟨A', c', y', T', h1.trans hyi, rfl, rfl⟩)) ?_
    rintro v Fs ⟨A6, c6, y6, T6, hy6, rfl, rfl⟩
    refine call_con [] (R := fun v Fs => ∃ A' c', v = .slice A' 32 c' ∧ Fs = [browF ty_uint8 A' (X (i + 1)) c']) (fun β w' hs => by
      have q := xor_c w' Ax A6 (X i) (S (i + 1)) cx' c6 (hs.get 4 rfl) (row_rd (hs.get 0 rfl)) (by rw [hXl]; decide)
      rw [hXl, hSl, hXs] at q
      exact q.mono (by rintro v Fs ⟨A', c', rfl, _, _, rfl⟩; exact ⟨A', c', by rw [hXl], rfl⟩)) ?_
    rintro v Fs ⟨A7, c7, rfl, rfl⟩
    refine ⟨((i + 1 : Nat) : Int), by rw [wrap_i64 (by omega) (by omega)]; rfl, ?_⟩
    refine ⟨(i + 1, (A6, c6), (A7, c7), y6, T6), ⟨by show i + 1 ≤ rounds - 1; omega, hy6⟩, by show rounds - 1 - (i + 1) < rounds - 1 - i; omega, Ent.mk' ⟨rfl, rfl, rfl, rfl, rfl, rfl, trivial⟩ rfl (fun β w' hs => ?_)⟩
    exact ((hs.ro 0 rfl).ro 1 rfl).perm [1, 0, 2, 6, 7, 8]
  · have hge0 : ¬ (i : Int) < ((rounds - 1 : Nat) : Int) := hge
    have hir : i = rounds - 1 := by omega
    rw [hTX, ← hir]
    refine yield_ro hY (A := fun β => #[.slice Ax 32 cx']) (pre := []) (x := X i) (f := f0) (X := bsF Ax (X i)) 3 4 rfl hJ0 hf0 rfl hRo (by decide) (fun β => ⟨hXl i, Ax, cx', rfl, rfl⟩) rfl (fun β w' hs => ⟨hs.get 1 rfl, hs.getLt 1 rfl, hs.apart (i := 3) (j := 1) rfl rfl (by decide) (.inl hf0)⟩) ?_ ?_
    · intro f' _ hJ
      exact absurd hJ (hJS _ _)
    · intro f' hfo hJx
      intro β w' hs
      exact (hs.keepB (List.nil_sublist _)).fin [0] ⟨f', [], rfl, .inr ⟨_, hJx, rfl, rfl⟩⟩
end Go.Proofs.YteenjgfbbkdlhaaGreatDoor.Sx

namespace Go.Proofs.YteenjgfbbkdlhaaGreatDoor.Sx
open Go
attribute [local irreducible] Calls
theorem pieces_c (w : World) (A B : Option Addr) (n c m d : Nat) (r : Int) : Con Tryz.prog n_hmac_pieces #[.slice A n c, .slice B m d, .int .i64 r] w [] fun v Fs => ∃ b1 b2 b3, v = .func (.func n_hmac_pieces_1) #[] #[ptrB b1, ptrB b2, ptrB b3] ∧ Fs = [bkF b1 ty_sl_uint8 [.slice A n c], bkF b2 ty_sl_uint8 [.slice B m d], bkF b3 ty_int [.int .i64 r]] := by
  refine con_of_sx (cx := cx_hmac_pieces w (Un [])) (good_hmac_pieces w (Un [])) b_hmac_pieces rfl rfl (β := Va.z) [.c (.v (.slice A n c)), .c (.v (.slice B m d)), .c (.v (.int .i64 r))] 0 [] [] rfl rfl (Sat.start rfl) ?_
  intro β w' hs
  exact hs.ofBk.ofBk.ofBk.fin [0, 1, 2] ⟨β 0, β 1, β 2, rfl, rfl⟩ rfl rfl rfl ⟨rfl, rfl, rfl, trivial⟩
theorem hsized_c (w : World) : Pu Tryz.prog n_hmac_sized #[.int .i64 32] w (.bool true) := by
  refine con_of_sx (cx := cx_hmac_sized w (Un [])) (good_hmac_sized w (Un [])) b_hmac_sized rfl rfl (β := Va.z) [.c (.v (.int .i64 32))] 0 [] [] rfl rfl (Sat.start rfl) ?_
  intro β w' hs
  exact hs.fin [] ⟨rfl, rfl⟩
set_option maxHeartbeats 1000000 in
theorem first32_c (w : World) (bx1 bx2 bx3 : Nat) (A B : Option Addr) (pass salt : List UInt8) (c d rounds : Nat) (hk : pass.length ≤ 1000000) (hn : salt.length ≤ 100000) (hr1 : 1 ≤ rounds) (hr2 : rounds ≤ 64)
    (hm : Mem w [bkF bx1 ty_sl_uint8 [.slice A pass.length c], bkF bx2 ty_sl_uint8 [.slice B salt.length d], bkF bx3 ty_int [.int .i64 rounds], bsF A pass, bsF B salt, oddF 5, firstF 2]) :
    Con Tryz.prog n_hmac_first #[.int .i64 32, .func (.func n_hmac_pieces_1) #[] #[ptrB bx1, ptrB bx2, ptrB bx3]] w [bkF bx1 ty_sl_uint8 [.slice A pass.length c], bkF bx2 ty_sl_uint8 [.slice B salt.length d], bkF bx3 ty_int [.int .i64 rounds]]
      fun v Fs => ∃ A' c', v = .slice A' 32 c' ∧ 32 ≤ c' ∧ c' ≤ maxLen ∧ Fs = [browF ty_uint8 A' (stretchL pass salt rounds) c'] := by
  obtain ⟨Gs, hGs⟩ : ∃ Gs, Gs = [bkF bx1 ty_sl_uint8 [.slice A pass.length c], bkF bx2 ty_sl_uint8 [.slice B salt.length d], bkF bx3 ty_int [.int .i64 rounds]] := ⟨_, rfl⟩
  rw [← hGs]
  have g := good_hmac_first w (Un Gs)
  have hml := maxLen_eq
  obtain ⟨T, hT⟩ : ∃ T, stretchL pass salt rounds = T := ⟨_, rfl⟩
  have hTl : T.length = 32 := by rw [← hT]; exact strX_len _ _ _
  have hs0 : Sat (cx_hmac_first w (Un Gs)) Va.z 0 [] [bkF bx1 ty_sl_uint8 [.slice A pass.length c], bkF bx2 ty_sl_uint8 [.slice B salt.length d], bkF bx3 ty_int [.int .i64 rounds], bsF A pass, bsF B salt, oddF 5, firstF 2] w := hm.sat0 rfl (fun f hf ho k hk => by
    simp only [List.mem_cons, List.not_mem_nil, or_false] at hf
    rcases hf with rfl | rfl | rfl | rfl | rfl | rfl | rfl
    · exact ⟨_, by rw [hGs]; simp, hk⟩
    · exact ⟨bkF bx2 ty_sl_uint8 [.slice B salt.length d], by rw [hGs]; simp, hk⟩
    · exact ⟨bkF bx3 ty_int [.int .i64 rounds], by rw [hGs]; simp, hk⟩
    · cases ho
    · cases ho
    · cases ho
    · cases ho)
  refine con_of_sx (cx := cx_hmac_first w (Un Gs)) g b_hmac_first rfl rfl (β := Va.z) [.c (.v (.int .i64 32)), .c (.v (.func (.func n_hmac_pieces_1) #[] #[ptrB bx1, ptrB bx2, ptrB bx3]))] 0 [] [bkF bx1 ty_sl_uint8 [.slice A pass.length c], bkF bx2 ty_sl_uint8 [.slice B salt.length d], bkF bx3 ty_int [.int .i64 rounds], bsF A pass, bsF B salt, oddF 5, firstF 2] rfl rfl hs0 ?_
  refine range_ruleP (α := List UInt8) (ι := Unit) (κ := List UInt8 × Option Addr × Nat) g rfl (cv := [ptrB bx1, ptrB bx2, ptrB bx3]) rfl (by kernel_rfl) 2 (Nat.le_refl 2)
    (fun pre _ => pre = []) (fun _ => [⟨1, ty_sl_uint8, [.v (.slice none 0 0)]⟩, ⟨0, ty_int, [.v (.int .i64 32)]⟩]) (fun _ => [browF ty_uint8 none [] 0]) (fun _ => ⟨rfl, trivial⟩)
    (fun e pre i => e = .exit 0 ∧ pre = [i.1] ∧ i.1.length = 32 ∧ 32 ≤ i.2.2 ∧ i.2.2 ≤ maxLen) (fun i => [⟨1, ty_sl_uint8, [.v (.slice i.2.1 32 i.2.2)]⟩, ⟨0, ty_int, [.v (.int .i64 32)]⟩]) (fun i => [rowF ty_uint8 1 (.slice i.2.1 32 i.2.2) 32 (i.1.map byte)]) (fun _ => ⟨rfl, trivial⟩)
    [bkF bx1 ty_sl_uint8 [.slice A pass.length c], bkF bx2 ty_sl_uint8 [.slice B salt.length d], bkF bx3 ty_int [.int .i64 rounds]] [bsF A pass, bsF B salt, oddF 5, firstF 2] [] ⟨rfl, rfl, rfl, trivial⟩ (fun g h => by cases h) () rfl (fun β w hs => ⟨β, Agr.refl _ _, (hs.nilRow ty_uint8 1).perm [1, 2, 3, 4, 5, 6, 7, 0]⟩) (fun _ => insP)
    (fun _ _ => False) (fun pre Fs' => pre = [T] ∧ Fs' = [])
    (fun l w f0 R J Jx hJ0 hJo hRo hY hP hm => by
      rw [← hT]
      exact pieces_it l w bx1 bx2 bx3 A B pass salt c d rounds f0 R J Jx hJ0 hJo hRo hY (fun x f hJ => by obtain ⟨_, hi⟩ := hP _ _ hJ; cases hi) hk hn hr1 hr2 hm) ?_ ?_ ?_
  · rintro _ pre x args X W S l bs pn pn' hbs rfl ⟨hx, Ax, cx', rfl, rfl⟩
    refine ⟨_, rfl, ?_⟩
    refine ⟨1, 0, 32, [], x.map byte, x.map byte, rfl, fun β w hs => ?_, bytes_one x, rfl, rfl, by omega, by decide, ?_⟩
    · have h : Rd 1 Ax x.length (x.map byte) w := hs.get 0 rfl
      rw [hx] at h
      exact h
    intro A' c' q1 q2 _
    exact ⟨(x, A', c'), ⟨rfl, rfl, hx, q1, q2⟩, Ent.mk' trivial rfl (fun β w hs => hs.perm [1])⟩
  · rintro xs _ Fs _ h
    exact h.elim
  · rintro e pre ⟨x, A1, c1⟩ Fs ⟨rfl, rfl, hx, h1, h2⟩ ⟨hpre, rfl⟩
    simp only at hx h1 h2
    obtain rfl : x = T := by simpa using hpre
    refine ⟨c1, 32, 0, 32, c1, A1, rfl, rfl, rfl, Nat.le_refl _, h1, Nat.zero_le _, rfl, rfl, cutA_z A1, ?_⟩
    refine call_con [] (R := fun v Fs => ∃ A' c', v = .slice A' 32 c' ∧ 32 ≤ c' ∧ c' ≤ maxLen ∧ Fs = [browF ty_uint8 A' x c']) (fun β w' hs => by
      have q := clone_c w' A1 x c1 (by show Rd 1 A1 x.length _ w'; rw [hx]; exact row_rd (hs.get 0 rfl)) (by omega)
      rw [hx] at q
      exact q) ?_
    rintro v Fs ⟨A2, c2, rfl, h5, h6, rfl⟩
    intro β w' hs
    exact (hs.keepB (List.nil_sublist _)).fin [0] ⟨A2, c2, rfl, h5, h6, by rw [hT]; rfl⟩
theorem stretch_c (w : World) (A B : Option Addr) (pass salt : List UInt8) (c d rounds : Nat) (hr : Bs w A pass) (ht : Bs w B salt) (hk : pass.length ≤ 1000000) (hn : salt.length ≤ 100000) (hr1 : 1 ≤ rounds) (hr2 : rounds ≤ 64) (h1 : (oddF 5).p w) (h0 : (firstF 2).p w) :
    Con Tryz.prog n_hmac_Stretch #[.slice A pass.length c, .slice B salt.length d, .int .i64 rounds, .int .i64 32] w [] fun v Fs => ∃ A' c', v = .tuple #[.slice A' 32 c', .int .i64 0] ∧ 32 ≤ c' ∧ c' ≤ maxLen ∧ Fs = [browF ty_uint8 A' (stretchL pass salt rounds) c'] := by
  have g := good_hmac_Stretch w (Un [])
  have hs0 : Sat (cx_hmac_Stretch w (Un [])) Va.z 0 [] [oldF w] w := old_sat rfl
  have hs1 := (((hs0.sub 0 rfl rfl (firstF 2) rfl h0 (rd_lt h0)).sub 1 rfl rfl (oddF 5) rfl h1 (rd_lt h1)).sub 2 rfl rfl (bsF B salt) rfl ht (rd_lt ht)).sub 3 rfl rfl (bsF A pass) rfl hr (rd_lt hr)
  refine con_of_sx (cx := cx_hmac_Stretch w (Un [])) g b_hmac_Stretch rfl rfl (β := Va.z) [.c (.v (.slice A pass.length c)), .c (.v (.slice B salt.length d)), .c (.v (.int .i64 rounds)), .c (.v (.int .i64 32))] 0 [] [bsF A pass, bsF B salt, oddF 5, firstF 2, oldF w] rfl rfl hs1 ?_
  refine BIf.dec (fun q => absurd (show (rounds : Int) < 1 from q) (by omega)) (fun _ => ?_)
  refine BIf.dec (fun q => absurd (show (64 : Int) < (rounds : Int) from q) (by omega)) (fun _ => ?_)
  refine call_pu (fun β w' hs => hsized_c w') ?_
  refine call_con [] (fun β w' hs => pieces_c w' A B pass.length c salt.length d rounds) ?_
  rintro v Fs ⟨b1, b2, b3, rfl, rfl⟩
  refine call_con [0, 1, 2] (fun β w' hs => first32_c w' b1 b2 b3 A B pass salt c d rounds hk hn hr1 hr2 (hs.mem.take (js := [0, 1, 2, 3, 4, 5, 6]) rfl)) ?_ ⟨rfl, rfl, rfl, trivial⟩
  rintro v Fs ⟨A', c', rfl, h5, h6, rfl⟩
  intro β w' hs
  exact hs.fin [0] ⟨A', c', rfl, h5, h6, rfl⟩
def notIn (l m : List Nat) : List Nat := l.filter fun x => !decide (x ∈ m)
structure OkS (l : List Nat) (m : List UInt8) : Prop where
  len : l.length ≤ 4096
  nums : ∀ n ∈ l, n ≤ 4096
  mask : m.length = 32
def mixL (l1 l2 : List Nat) : List Nat := sortN (notIn l1 l2 ++ notIn l2 l1)
def turnT (L : List Nat) (M : List UInt8) : Bx.Term := ⟨4, [], [], 0, L, M⟩
end Go.Proofs.YteenjgfbbkdlhaaGreatDoor.Sx

namespace Go.Proofs.YteenjgfbbkdlhaaGreatDoor.Sx
open Go
def tA : Bx.Term := hashT [97]
def tB : Bx.Term := hashT [98]
def tC : Bx.Term := turnT [1, 2] Bx.noughts
def B1 : Bx.Box := ⟨true, false, [tA]⟩
def B2 : Bx.Box := ⟨true, false, [tA, tB]⟩
def B3 : Bx.Box := ⟨true, false, [tA, tB, tC]⟩
theorem opens_h {B : Bx.Box} {n : Nat} {t : Bx.Term} (hs : B.sym = true) (hn : n < 4294967296) (h0 : 1 ≤ n) (hl : n ≤ B.L.length) (ht : B.L[n - 1]? = some t) : B.opens (Bx.handle n) = if t.kind = 4 then some (t.list, t.mask) else some ([n], Bx.noughts) :=
  Bx.opens_in (Bx.handle_len n) hs (List.take_left' Bx.front_len) (by rw [show (Bx.handle n).drop 28 = Bx.be4 n from List.drop_left' Bx.front_len, Bx.num_be4 hn]) (by omega) ht
end Go.Proofs.YteenjgfbbkdlhaaGreatDoor.Sx

namespace Go.Proofs.YteenjgfbbkdlhaaGreatDoor.Sx
open Go
attribute [local irreducible] Calls
theorem newX_c (w : World) (sym : Bool) : Con Tryz.prog n_box_New #[.bool sym] w [] fun v Fs => ∃ b y, v = .pointer (some ⟨b, 0, none⟩) ∧ y.ts = [] ∧ Fs = [bxF b ⟨sym, false, []⟩ y] := by
  refine con_of_sx (cx := cx_box_New w (Un [])) (good_box_New w (Un [])) b_box_New rfl rfl (β := Va.z) [.c (.v (.bool sym))] 0 [] [] rfl rfl (Sat.start rfl) ?_
  intro m
  intro β w' hs
  have h2 := (hs.ofBk.nilRow ty_box_Term 6).noMem (partsF []) (fun _ h => (by cases h)) (fun k hk => by obtain ⟨p, hp, _⟩ := hk; cases hp)
  exact (h2.sep [2, 1, 3, 0] rfl ⟨rfl, rfl, rfl, rfl, trivial⟩).fin [0] ⟨_, ⟨none, 0, m, []⟩, rfl, rfl, rfl⟩
def macT (k t : List UInt8) : Bx.Term := ⟨2, k, t, 0, [], []⟩
def strT (p s : List UInt8) (r : Nat) : Bx.Term := ⟨3, p, s, r, [], []⟩
noncomputable def hashB (B : Bx.Box) (t : List UInt8) : List UInt8 × Bx.Box := if B.sym then B.tag (hashT t) else (Sha.sum t, B)
noncomputable def macB (B : Bx.Box) (k t : List UInt8) : List UInt8 × Bx.Box := if B.sym then B.tag (macT k t) else (hmL k t, B)
noncomputable def strB (B : Bx.Box) (p s : List UInt8) (r : Nat) : List UInt8 × Bx.Box := if B.sym then B.tag (strT p s r) else (stretchL p s r, B)
def boxOut (b : Nat) (r : List UInt8 × Bx.Box) (v : Value) (Fs : List Fact) : Prop :=
  ∃ A c y', v = .slice A 32 c ∧ 32 ≤ c ∧ c ≤ maxLen ∧ y'.ts.map (·.1) = r.2.L ∧ Fs = [browF ty_uint8 A r.1 c, bxF b r.2 y']
theorem Sat.unown {cx : Cx} {β : Va} {n : Nat} {H : List Bk} {F : List Fact} {w : World} (h : Sat cx β n H F w) (j : Nat) {size : Nat} {A : Option Addr} {k : Nat} {xs : List Value} (hj : nth F j = some (rdoF size A k xs)) : Sat cx β n H (putAt F j (rdF size A k xs)) w :=
  h.upd hj rfl (Chg.refl _ _) (show (rdF size A k xs).p w from rdo_rd (h.get j hj)) (fun _ hk => .inl hk)
theorem Sat.trd {cx : Cx} {β : Va} {n : Nat} {H : List Bk} {F : List Fact} {w : World} (h : Sat cx β n H F w) (js : List Nat) (t : Bx.Term) (a : TA) (hl : t.list = []) (hm : t.mask = []) (hj : takeIx F js = [bsF a.k t.key, bsF a.t t.text]) : Sat cx β n H (trdF t a :: F) w := by
  have get : ∀ f ∈ takeIx F js, f.p w := fun f hf => by obtain ⟨i, _, hi⟩ := takeIx_mem hf; exact h.fact f (List.mem_of_getElem? hi)
  refine h.subN js (fun f hf => ?_) _ rfl ⟨get (bsF a.k t.key) (by rw [hj]; simp), get (bsF a.t t.text) (by rw [hj]; simp), by rw [hl]; exact rd_nil w a.l, by rw [hm]; exact Bs.nil w a.m⟩ (fun k hk => ?_)
  · rw [hj] at hf
    simp only [List.mem_cons, List.not_mem_nil, or_false] at hf
    rcases hf with rfl | rfl <;> rfl
  · rw [hj]
    rcases hk with hk | hk | hk | hk
    · exact ⟨_, List.mem_cons_self, hk⟩
    · exact ⟨bsF a.t t.text, by simp, hk⟩
    · rw [hl] at hk
      exact absurd hk.1 (by simp)
    · rw [hm] at hk
      exact absurd hk.1 (by simp)
theorem parts_len {ps : List Part} : (ps.map (·.2.1)).flatten = partsT ps := by
  unfold partsT
  rw [List.flatMap_def]
theorem joinP_c (w : World) (b0 : Nat) (ps : List Part) (cP : Nat) (h : (partF (some ⟨b0, 0, none⟩) ps).p w) (h0 : ps ≠ []) (hc : ps.length ≤ cP) (hl : ps.length ≤ 1000) (hn : (partsT ps).length ≤ 1000000) :
    Con Tryz.prog n_bytes_Join #[.slice (some ⟨b0, 0, none⟩) ps.length cP, .slice none 0 0] w [] (readOut (partsT ps)) := by
  match ps with
  | [] => exact absurd rfl h0
  | [p] =>
    have e : partsT [p] = p.2.1 := by simp [partsT]
    rw [e] at hn ⊢
    exact join1R_c w (some ⟨b0, 0, none⟩) p.1 cP p.2.2 p.2.1 h.1 (h.2 p List.mem_cons_self) (by omega)
  | p :: q :: r =>
    have k := joinN_c w b0 cP ((p :: q :: r).map partV) ((p :: q :: r).map (·.2.1)) (by rw [List.length_map]; exact h.1) (fun i v l hv hl => by
      rw [List.getElem?_map] at hv hl
      obtain ⟨x, hx, rfl⟩ := Option.map_eq_some_iff.1 hv
      obtain ⟨x', hx', rfl⟩ := Option.map_eq_some_iff.1 hl
      rw [hx] at hx'
      obtain rfl := Option.some.inj hx'
      exact Bs.holds (h.2 x (List.mem_of_getElem? hx)) x.2.2) (by simp) (by rw [List.length_map]; exact hc) (by rw [List.length_map]; exact hl) (by rw [parts_len]; omega)
    rw [List.length_map, parts_len] at k
    exact k
theorem partOld {P : Option Addr} {ps : List Part} {W w : World} (h : (partF P ps).p W) (ho : (oldF W).p w) : (partF P ps).p w := ⟨Rd.old h.1 ho, fun p hp => Rd.old (h.2 p hp) ho⟩
theorem hashP_c (w : World) (b : Nat) (B : Bx.Box) (y : Lay) (b0 : Nat) (ps : List Part) (cP : Nat) (hts : y.ts.map (·.1) = B.L) (hL : B.L.length ≤ 4096) (h0 : ps ≠ []) (hc : ps.length ≤ cP) (hl : ps.length ≤ 1000) (hn : (partsT ps).length ≤ 1000000) (hm : Mem w [bxF b B y, partF (some ⟨b0, 0, none⟩) ps, oddF 5, firstF 2]) :
    Con Tryz.prog n_box_Box_Hash #[ptrB b, .slice (some ⟨b0, 0, none⟩) ps.length cP] w [bxF b B y] (boxOut b (hashB B (partsT ps))) := by
  have g := good_box_Box_Hash w (Un [bxF b B y])
  have hs0 : Sat (cx_box_Box_Hash w (Un [bxF b B y])) Va.z 0 [] [bxF b B y, partF (some ⟨b0, 0, none⟩) ps, oddF 5, firstF 2] w := hm.sat0 rfl (ownIn (Gs := [bxF b B y]) (fun f hf => by
    simp only [List.mem_cons, List.not_mem_nil, or_false] at hf
    rcases hf with rfl | rfl | rfl <;> rfl))
  refine con_of_sx (cx := cx_box_Box_Hash w (Un [bxF b B y])) g b_box_Box_Hash rfl rfl (β := Va.z) [.c (.v (ptrB b)), .c (.v (.slice (some ⟨b0, 0, none⟩) ps.length cP))] 0 [] [bxF b B y, partF (some ⟨b0, 0, none⟩) ps, oddF 5, firstF 2] rfl rfl hs0 ?_
  cases hsym : B.sym with
  | true =>
    refine ⟨.bool true, fun β w' hs => box_cell (bx_bk (hs.get 0 rfl)) (o := 0) (by simp [boxCells, hsym]), ?_⟩
    refine call_con [] (fun β w' hs => joinP_c w' b0 ps cP (hs.get 1 rfl) h0 hc hl hn) ?_
    rintro v Fs ⟨A1, c1, rfl, q1, q2, rfl⟩
    refine call_con [1] (R := boxOut b (B.tag (hashT (partsT ps)))) (fun β w' hs => by
      have k2 := ((hs.unown 0 rfl).noMem (bsF none []) (Bs.nil w' none) (fun k hk => absurd hk.1 (by simp))).trd [0, 1] (hashT (partsT ps)) ⟨none, A1, none, none, 0, c1, 0, 0⟩ rfl rfl rfl
      exact tag_c w' b B y (hashT (partsT ps)) ⟨none, A1, none, none, 0, c1, 0, 0⟩ hts hL (hashT_sz hn) (k2.mem.take (js := [3, 0]) rfl)) ?_
    rintro v Fs ⟨A2, c2, y2, rfl, r1, r2, r3, rfl⟩
    intro β w' hs
    have e : hashB B (partsT ps) = B.tag (hashT (partsT ps)) := by unfold hashB; rw [hsym]; rfl
    rw [e]
    exact hs.fin [0, 1] ⟨A2, c2, y2, rfl, r1, r2, r3, rfl⟩
  | false =>
    refine ⟨.bool false, fun β w' hs => box_cell (bx_bk (hs.get 0 rfl)) (o := 0) (by simp [boxCells, hsym]), ?_⟩
    refine call_con [] (fun β w' hs => sumJ_c w' (some ⟨b0, 0, none⟩) ps.length cP (partsT ps) (fun w2 ho => joinP_c w2 b0 ps cP (partOld (hs.get 1 rfl) ho) h0 hc hl hn) (by omega) (hs.get 2 rfl) (hs.get 3 rfl)) ?_
    rintro v Fs ⟨A2, c2, rfl, r1, r2, rfl⟩
    intro β w' hs
    have e : hashB B (partsT ps) = (Sha.sum (partsT ps), B) := by unfold hashB; rw [hsym]; rfl
    rw [e]
    exact hs.fin [0, 1] ⟨A2, c2, y, rfl, r1, r2, hts, rfl⟩
theorem macT_sz {k t : List UInt8} (hk : k.length ≤ 1000000) (hl : t.length ≤ 1000000) : TSz (macT k t) := ⟨by show 2 < 1000; decide, by show 0 < 1000; decide, hk, hl, Nat.zero_le _, fun _ h => (by cases h), Nat.zero_le _⟩
theorem strT_sz {k t : List UInt8} {r : Nat} (hk : k.length ≤ 1000000) (hl : t.length ≤ 1000000) (hr : r ≤ 64) : TSz (strT k t r) := ⟨by show 3 < 1000; decide, by show r < 1000; omega, hk, hl, Nat.zero_le _, fun _ h => (by cases h), Nat.zero_le _⟩
theorem macP_c (w : World) (b : Nat) (B : Bx.Box) (y : Lay) (K : Option Addr) (key : List UInt8) (cK : Nat) (b0 : Nat) (ps : List Part) (cP : Nat) (hts : y.ts.map (·.1) = B.L) (hL : B.L.length ≤ 4096) (hk : key.length ≤ 1000000) (h0 : ps ≠ []) (hc : ps.length ≤ cP) (hl : ps.length ≤ 1000) (hn : (partsT ps).length ≤ 1000000) (hm : Mem w [bxF b B y, partF (some ⟨b0, 0, none⟩) ps, bsF K key, oddF 5, firstF 2]) :
    Con Tryz.prog n_box_Box_Mac #[ptrB b, .slice K key.length cK, .slice (some ⟨b0, 0, none⟩) ps.length cP] w [bxF b B y] (boxOut b (macB B key (partsT ps))) := by
  have g := good_box_Box_Mac w (Un [bxF b B y])
  have hs0 : Sat (cx_box_Box_Mac w (Un [bxF b B y])) Va.z 0 [] [bxF b B y, partF (some ⟨b0, 0, none⟩) ps, bsF K key, oddF 5, firstF 2] w := hm.sat0 rfl (ownIn (Gs := [bxF b B y]) (fun f hf => by
    simp only [List.mem_cons, List.not_mem_nil, or_false] at hf
    rcases hf with rfl | rfl | rfl | rfl <;> rfl))
  refine con_of_sx (cx := cx_box_Box_Mac w (Un [bxF b B y])) g b_box_Box_Mac rfl rfl (β := Va.z) [.c (.v (ptrB b)), .c (.v (.slice K key.length cK)), .c (.v (.slice (some ⟨b0, 0, none⟩) ps.length cP))] 0 [] [bxF b B y, partF (some ⟨b0, 0, none⟩) ps, bsF K key, oddF 5, firstF 2] rfl rfl hs0 ?_
  cases hsym : B.sym with
  | true =>
    refine ⟨.bool true, fun β w' hs => box_cell (bx_bk (hs.get 0 rfl)) (o := 0) (by simp [boxCells, hsym]), ?_⟩
    refine call_con [] (fun β w' hs => joinP_c w' b0 ps cP (hs.get 1 rfl) h0 hc hl hn) ?_
    rintro v Fs ⟨A1, c1, rfl, q1, q2, rfl⟩
    refine call_con [1] (R := boxOut b (B.tag (macT key (partsT ps)))) (fun β w' hs => by
      have k2 := (hs.unown 0 rfl).trd [3, 0] (macT key (partsT ps)) ⟨K, A1, none, none, cK, c1, 0, 0⟩ rfl rfl rfl
      exact tag_c w' b B y (macT key (partsT ps)) ⟨K, A1, none, none, cK, c1, 0, 0⟩ hts hL (macT_sz hk hn) (k2.mem.take (js := [2, 0]) rfl)) ?_
    rintro v Fs ⟨A2, c2, y2, rfl, r1, r2, r3, rfl⟩
    intro β w' hs
    have e : macB B key (partsT ps) = B.tag (macT key (partsT ps)) := by unfold macB; rw [hsym]; rfl
    rw [e]
    exact hs.fin [0, 1] ⟨A2, c2, y2, rfl, r1, r2, r3, rfl⟩
  | false =>
    refine ⟨.bool false, fun β w' hs => box_cell (bx_bk (hs.get 0 rfl)) (o := 0) (by simp [boxCells, hsym]), ?_⟩
    refine call_con [] (fun β w' hs => hsum_c w' K (some ⟨b0, 0, none⟩) key (partsT ps) cK ps.length cP (hs.get 2 rfl) hk hn (fun w2 ho => joinP_c w2 b0 ps cP (partOld (hs.get 1 rfl) ho) h0 hc hl hn) (hs.get 3 rfl) (hs.get 4 rfl)) ?_
    rintro v Fs ⟨A2, c2, rfl, r1, r2, rfl⟩
    intro β w' hs
    have e : macB B key (partsT ps) = (hmL key (partsT ps), B) := by unfold macB; rw [hsym]; rfl
    rw [e]
    exact hs.fin [0, 1] ⟨A2, c2, y, rfl, r1, r2, hts, rfl⟩
def strOut (b : Nat) (B : Bx.Box) (y : Lay) (p s : List UInt8) (r : Int) (v : Value) (Fs : List Fact) : Prop :=
  if 1 ≤ r ∧ r ≤ 64 then ∃ A c y', v = .tuple #[.slice A 32 c, .int .i64 0] ∧ 32 ≤ c ∧ c ≤ maxLen ∧ y'.ts.map (·.1) = (strB B p s r.toNat).2.L ∧ Fs = [browF ty_uint8 A (strB B p s r.toNat).1 c, bxF b (strB B p s r.toNat).2 y']
  else v = .tuple #[.slice none 0 0, .int .i64 1] ∧ Fs = [bxF b B y]
theorem strP_c (w : World) (b : Nat) (B : Bx.Box) (y : Lay) (K S : Option Addr) (p s : List UInt8) (cK cS : Nat) (r : Int) (hts : y.ts.map (·.1) = B.L) (hL : B.L.length ≤ 4096) (hk : p.length ≤ 1000000) (hn : s.length ≤ 100000) (hm : Mem w [bxF b B y, bsF K p, bsF S s, oddF 5, firstF 2]) :
    Con Tryz.prog n_box_Box_Stretch #[ptrB b, .slice K p.length cK, .slice S s.length cS, .int .i64 r] w [bxF b B y] (strOut b B y p s r) := by
  have g := good_box_Box_Stretch w (Un [bxF b B y])
  have hs0 : Sat (cx_box_Box_Stretch w (Un [bxF b B y])) Va.z 0 [] [bxF b B y, bsF K p, bsF S s, oddF 5, firstF 2] w := hm.sat0 rfl (ownIn (Gs := [bxF b B y]) (fun f hf => by
    simp only [List.mem_cons, List.not_mem_nil, or_false] at hf
    rcases hf with rfl | rfl | rfl | rfl <;> rfl))
  refine con_of_sx (cx := cx_box_Box_Stretch w (Un [bxF b B y])) g b_box_Box_Stretch rfl rfl (β := Va.z) [.c (.v (ptrB b)), .c (.v (.slice K p.length cK)), .c (.v (.slice S s.length cS)), .c (.v (.int .i64 r))] 0 [] [bxF b B y, bsF K p, bsF S s, oddF 5, firstF 2] rfl rfl hs0 ?_
  refine BIf.dec (fun q => ?_) (fun q => ?_)
  · have q0 : r < 1 := q
    intro β w' hs
    refine hs.fin [0] ?_
    unfold strOut
    rw [if_neg (by omega)]
    exact ⟨rfl, rfl⟩
  have q0 : ¬ r < 1 := q
  refine BIf.dec (fun q2 => ?_) (fun q2 => ?_)
  · have q20 : 64 < r := q2
    intro β w' hs
    refine hs.fin [0] ?_
    unfold strOut
    rw [if_neg (by omega)]
    exact ⟨rfl, rfl⟩
  have q20 : ¬ 64 < r := q2
  obtain ⟨m, rfl⟩ : ∃ m : Nat, r = (m : Int) := ⟨r.toNat, by omega⟩
  have hso : strOut b B y p s (m : Int) = fun v Fs => ∃ A c y', v = .tuple #[.slice A 32 c, .int .i64 0] ∧ 32 ≤ c ∧ c ≤ maxLen ∧ y'.ts.map (·.1) = (strB B p s m).2.L ∧ Fs = [browF ty_uint8 A (strB B p s m).1 c, bxF b (strB B p s m).2 y'] := by
    funext v Fs
    unfold strOut
    rw [if_pos (by omega)]
    rfl
  rw [hso]
  cases hsym : B.sym with
  | true =>
    refine ⟨.bool true, fun β w' hs => box_cell (bx_bk (hs.get 0 rfl)) (o := 0) (by simp [boxCells, hsym]), ?_⟩
    refine call_con [0] (R := boxOut b (B.tag (strT p s m))) (fun β w' hs => by
      have k2 := hs.trd [1, 2] (strT p s m) ⟨K, S, none, none, cK, cS, 0, 0⟩ rfl rfl rfl
      exact tag_c w' b B y (strT p s m) ⟨K, S, none, none, cK, cS, 0, 0⟩ hts hL (strT_sz hk (by omega) (by omega)) (k2.mem.take (js := [1, 0]) rfl)) ?_
    rintro v Fs ⟨A2, c2, y2, rfl, r1, r2, r3, rfl⟩
    intro β w' hs
    have e : strB B p s m = B.tag (strT p s m) := by unfold strB; rw [hsym]; rfl
    rw [e]
    exact hs.fin [0, 1] ⟨A2, c2, y2, rfl, r1, r2, r3, rfl⟩
  | false =>
    refine ⟨.bool false, fun β w' hs => box_cell (bx_bk (hs.get 0 rfl)) (o := 0) (by simp [boxCells, hsym]), ?_⟩
    refine call_con [] (fun β w' hs => stretch_c w' K S p s cK cS m (hs.get 1 rfl) (hs.get 2 rfl) hk hn (by omega) (by omega) (hs.get 3 rfl) (hs.get 4 rfl)) ?_
    rintro v Fs ⟨A2, c2, rfl, r1, r2, rfl⟩
    intro β w' hs
    have e : strB B p s m = (stretchL p s m, B) := by unfold strB; rw [hsym]; rfl
    rw [e]
    exact hs.fin [0, 1] ⟨A2, c2, y, rfl, r1, r2, hts, rfl⟩
def symL (l1 l2 : List Nat) (k : Nat) : List Nat := (List.range' 1 k).filter fun n => decide (n ∈ l1) != decide (n ∈ l2)
theorem symL_len (l1 l2 : List Nat) (k : Nat) : (symL l1 l2 k).length ≤ k := by
  have h := List.length_filter_le (fun n => decide (n ∈ l1) != decide (n ∈ l2)) (List.range' 1 k)
  rw [List.length_range'] at h
  exact h
theorem symL_mix {l1 l2 : List Nat} {N : Nat} (d1 : l1.Nodup) (d2 : l2.Nodup) (h1 : ∀ n ∈ l1, 1 ≤ n ∧ n ≤ N) (h2 : ∀ n ∈ l2, 1 ≤ n ∧ n ≤ N) : symL l1 l2 N = mixL l1 l2 := by
  have hp : (symL l1 l2 N).Perm (notIn l1 l2 ++ notIn l2 l1) := by
    refine (List.perm_ext_iff_of_nodup ?_ ?_).2 (fun n => ?_)
    · exact List.Nodup.sublist List.filter_sublist (List.nodup_range' 1)
    · refine List.nodup_append.2 ⟨List.Nodup.sublist List.filter_sublist d1, List.Nodup.sublist List.filter_sublist d2, ?_⟩
      intro x hx y hy q
      subst q
      have a := (List.mem_filter.1 hx).2
      have b := (List.mem_filter.1 hy).1
      simp [b] at a
    · simp only [symL, notIn, List.mem_filter, List.mem_append, List.mem_range'_1]
      have k1 := h1 n
      have k2 := h2 n
      by_cases a : n ∈ l1 <;> by_cases b : n ∈ l2 <;> simp [a, b]
      · have := k1 a; omega
      · have := k2 b; omega
  have hs : (mixL l1 l2).Perm (notIn l1 l2 ++ notIn l2 l1) := List.mergeSort_perm _ _
  refine List.Perm.eq_of_pairwise (le := fun a b => a ≤ b) (fun a b _ _ p q => Nat.le_antisymm p q) ?_ ?_ (hp.trans hs.symm)
  · exact ((List.pairwise_lt_range' 1).sublist List.filter_sublist).imp (fun h => Nat.le_of_lt h)
  · have h := List.pairwise_mergeSort (le := fun x y : Nat => decide (x ≤ y)) (by simp only [decide_eq_true_eq]; omega) (by simp only [Bool.or_eq_true, decide_eq_true_eq]; omega) (notIn l1 l2 ++ notIn l2 l1)
    exact h.imp (fun h => of_decide_eq_true h)
theorem Con.grow {P : Program} {k : FuncId} {args : Array Value} {w : World} {Gs Gs' : List Fact} {R : Value → List Fact → Prop} (hsub : ∀ k, Un Gs k → Un Gs' k) (h : Con P k args w Gs R) : Con P k args w Gs' R :=
  Calls.mono h fun _ _ ⟨v, he, Fs, hR, hc, hm, ho, hD⟩ => ⟨v, he, Fs, hR, hc.mono (fun i _ => hsub i), hm, ho, fun f hf k hk => (hD f hf k hk).imp_left (hsub k)⟩
def OkN (B : Bx.Box) (l : List Nat) (m : List UInt8) : Prop := OkS l m ∧ l.Nodup ∧ ∀ n ∈ l, 1 ≤ n ∧ n ≤ B.L.length
structure Nf (B : Bx.Box) (l : List Nat) (m : List UInt8) : Prop where
  mask : m.length = 32
  sorted : l.Pairwise (· < ·)
  nums : ∀ n ∈ l, 1 ≤ n ∧ n ≤ B.L.length
  base : ∀ n ∈ l, ∀ u, B.L[n - 1]? = some u → u.kind ≠ 4
structure K4 (B : Bx.Box) (t : Bx.Term) : Prop where
  nf : Nf B t.list t.mask
  form : t = turnT t.list t.mask
  one : ¬ (t.list.length = 1 ∧ t.mask = Bx.noughts)
  raw : ¬ (t.list = [] ∧ ¬ t.mask.take 28 = Bx.front)
structure BInv (B : Bx.Box) : Prop where
  sz : ∀ t ∈ B.L, TSz t
  nodup : B.L.Nodup
  k4 : ∀ t ∈ B.L, t.kind = 4 → K4 B t
  plain : B.sym = false → B.L = []
  len : B.L.length ≤ 4096
structure Ext (B B' : Bx.Box) : Prop where
  sym : B'.sym = B.sym
  full : B'.full = B.full
  len : B'.L.length ≤ B.L.length + 1
  inv : BInv B'
  mono : ∀ h r, B.opens h = some r → B'.opens h = some r
theorem Ext.refl {B : Bx.Box} (h : BInv B) : Ext B B := ⟨rfl, rfl, Nat.le_succ _, h, fun _ _ h => h⟩
theorem Nf.grow {B : Bx.Box} {l : List Nat} {m : List UInt8} (t : Bx.Term) (h : Nf B l m) : Nf { B with L := B.L ++ [t] } l m := by
  refine ⟨h.mask, h.sorted, fun n hn => ?_, fun n hn u hu => ?_⟩
  · have := h.nums n hn
    simp only [List.length_append, List.length_cons, List.length_nil]
    omega
  · have := h.nums n hn
    refine h.base n hn u ?_
    simp only at hu
    rw [List.getElem?_append_left (by omega)] at hu
    exact hu
theorem Nf.ok {B : Bx.Box} {l : List Nat} {m : List UInt8} (hi : BInv B) (h : Nf B l m) : OkN B l m := by
  have hnd : l.Nodup := h.sorted.imp (fun q => Nat.ne_of_lt q)
  refine ⟨⟨?_, fun n hn => ?_, h.mask⟩, hnd, h.nums⟩
  · have e := symL_mix (l2 := []) hnd List.nodup_nil h.nums (fun n hn => (by cases hn))
    have e2 : (mixL l []).length = l.length := by
      rw [mixL, sortN_len]
      have e3 : notIn l [] = l := List.filter_eq_self.2 (fun a _ => by simp)
      rw [e3]
      simp [notIn]
    have := symL_len l [] B.L.length
    rw [e, e2] at this
    have := hi.len
    omega
  · have := h.nums n hn
    have := hi.len
    omega
theorem opens_grow {B : Bx.Box} {t : Bx.Term} {h : List UInt8} {r : List Nat × List UInt8} (h0 : B.opens h = some r) : ({ B with L := B.L ++ [t] } : Bx.Box).opens h = some r := by
  unfold Bx.Box.opens at h0 ⊢
  split at h0
  · rename_i h32
    rw [if_pos h32]
    split at h0
    · rename_i hs
      rw [if_pos hs]
      split at h0
      · cases h0
      · rename_i hn
        have hn' : ¬ (Bx.num (h.drop 28) < 1 ∨ (B.L ++ [t]).length < Bx.num (h.drop 28)) := by
          rw [List.length_append]
          omega
        rw [if_neg hn']
        simp only
        rw [List.getElem?_append_left (by omega)]
        exact h0
    · rename_i hs
      rw [if_neg hs]
      exact h0
  · cases h0
theorem K4.grow {B : Bx.Box} {t : Bx.Term} (u : Bx.Term) (h : K4 B t) : K4 { B with L := B.L ++ [u] } t := ⟨h.nf.grow u, h.form, h.one, h.raw⟩
theorem tag_ext {B : Bx.Box} (hi : BInv B) (hs : B.sym = true) (hl : B.L.length < 4096) {t : Bx.Term} (hz : TSz t) (h4 : t.kind = 4 → K4 B t) : Ext B (B.tag t).2 ∧ ∃ k, (B.tag t).1 = Bx.handle (k + 1) ∧ (B.tag t).2.L[k]? = some t := by
  unfold Bx.Box.tag
  cases hp : Bx.place t B.L with
  | some i => exact ⟨Ext.refl hi, i, rfl, Bx.place_some hp⟩
  | none =>
    simp only
    rw [if_neg (by omega)]
    refine ⟨⟨rfl, rfl, by simp, ⟨fun u hu => ?_, ?_, fun u hu hk => ?_, fun q => ?_, ?_⟩, fun h r q => opens_grow q⟩, B.L.length, rfl, by simp⟩
    · rcases List.mem_append.1 hu with hu | hu
      · exact hi.sz u hu
      · obtain rfl := List.mem_singleton.1 hu
        exact hz
    · refine List.nodup_append.2 ⟨hi.nodup, List.nodup_cons.2 ⟨fun q => (by cases q), List.nodup_nil⟩, fun a ha b hb q => ?_⟩
      obtain rfl := List.mem_singleton.1 hb
      exact Bx.place_none hp (q ▸ ha)
    · rcases List.mem_append.1 hu with hu | hu
      · exact (hi.k4 u hu hk).grow t
      · obtain rfl := List.mem_singleton.1 hu
        exact (h4 hk).grow u
    · rw [show ({ B with L := B.L ++ [t] } : Bx.Box).sym = B.sym from rfl, hs] at q
      cases q
    · simp only [List.length_append, List.length_cons, List.length_nil]
      omega
theorem mem_mix {l1 l2 : List Nat} {n : Nat} (h : n ∈ mixL l1 l2) : n ∈ l1 ∨ n ∈ l2 := by
  have h3 : n ∈ notIn l1 l2 ++ notIn l2 l1 := (List.mergeSort_perm _ _).mem_iff.1 h
  rcases List.mem_append.1 h3 with q | q
  · exact .inl (List.mem_filter.1 q).1
  · exact .inr (List.mem_filter.1 q).1
theorem Nf.mix {B : Bx.Box} {l1 l2 : List Nat} {m1 m2 : List UInt8} (h1 : Nf B l1 m1) (h2 : Nf B l2 m2) : Nf B (mixL l1 l2) (Bx.xorB m1 m2) := by
  have d1 : l1.Nodup := h1.sorted.imp (fun q => Nat.ne_of_lt q)
  have d2 : l2.Nodup := h2.sorted.imp (fun q => Nat.ne_of_lt q)
  refine ⟨by rw [xorB_len, h1.mask, h2.mask]; exact Nat.min_self _, ?_, fun n hn => ?_, fun n hn => ?_⟩
  · rw [← symL_mix d1 d2 h1.nums h2.nums]
    exact (List.pairwise_lt_range' 1).sublist List.filter_sublist
  · rcases mem_mix hn with q | q
    · exact h1.nums n q
    · exact h2.nums n q
  · rcases mem_mix hn with q | q
    · exact h1.base n q
    · exact h2.base n q
theorem len_cons {l : List Value} {n : Nat} (h : l.length = n + 1) : ∃ a r, l = a :: r ∧ r.length = n := by
  cases l with
  | nil => cases h
  | cons a r => exact ⟨a, r, rfl, by simpa using h⟩
def GoodT (B : Bx.Box) (r : List UInt8 × Bx.Box) : Prop := Ext B r.2 ∧ r.1.length = 32 ∧ ∃ q, r.2.opens r.1 = some q
theorem tag_good {B : Bx.Box} (hi : BInv B) (hs : B.sym = true) (hl : B.L.length < 4096) {t : Bx.Term} (hz : TSz t) (h4 : t.kind ≠ 4) : GoodT B (B.tag t) := by
  obtain ⟨he, k, hk, hkt⟩ := tag_ext hi hs hl hz (fun q => absurd q h4)
  refine ⟨he, by rw [hk]; rfl, ?_⟩
  rw [hk]
  have hlen := he.inv.len
  have hlt := (List.getElem?_eq_some_iff.1 hkt).1
  exact ⟨_, (opens_h (he.sym.trans hs) (by omega) (by omega) (by omega) hkt).trans (if_neg h4)⟩
theorem raw_good {B : Bx.Box} (hi : BInv B) (hs : B.sym = false) {h : List UInt8} (hh : h.length = 32) : GoodT B (h, B) :=
  ⟨Ext.refl hi, hh, _, Bx.opens_raw hh (fun q => by rw [hs] at q; cases q.1)⟩
theorem hash_good {B : Bx.Box} (hi : BInv B) (hl : B.L.length < 4096) {t : List UInt8} (ht : t.length ≤ 1000000) : GoodT B (hashB B t) := by
  cases hs : B.sym with
  | true => rw [show hashB B t = B.tag (hashT t) by unfold hashB; rw [hs]; rfl]; exact tag_good hi hs hl (hashT_sz ht) (by show ¬ 1 = 4; decide)
  | false => rw [show hashB B t = (Sha.sum t, B) by unfold hashB; rw [hs]; rfl]; exact raw_good hi hs (sum_len t)
theorem mac_good {B : Bx.Box} (hi : BInv B) (hl : B.L.length < 4096) {k t : List UInt8} (hk : k.length ≤ 1000000) (ht : t.length ≤ 1000000) : GoodT B (macB B k t) := by
  cases hs : B.sym with
  | true => rw [show macB B k t = B.tag (macT k t) by unfold macB; rw [hs]; rfl]; exact tag_good hi hs hl (macT_sz hk ht) (by show ¬ 2 = 4; decide)
  | false => rw [show macB B k t = (hmL k t, B) by unfold macB; rw [hs]; rfl]; exact raw_good hi hs (hmL_len k t)
theorem str_good {B : Bx.Box} (hi : BInv B) (hl : B.L.length < 4096) {k t : List UInt8} {r : Nat} (hk : k.length ≤ 1000000) (ht : t.length ≤ 1000000) (hr : r ≤ 64) : GoodT B (strB B k t r) := by
  cases hs : B.sym with
  | true => rw [show strB B k t r = B.tag (strT k t r) by unfold strB; rw [hs]; rfl]; exact tag_good hi hs hl (strT_sz hk ht hr) (by show ¬ 3 = 4; decide)
  | false => rw [show strB B k t r = (stretchL k t r, B) by unfold strB; rw [hs]; rfl]; exact raw_good hi hs (strX_len _ _ _)
def outL (F : Bx.Box → Lay → Fact) (r : List UInt8 × Bx.Box) (v : Value) (Fs : List Fact) : Prop :=
  ∃ A c y', v = .slice A r.1.length c ∧ r.1.length ≤ c ∧ c ≤ maxLen ∧ y'.ts.map (·.1) = r.2.L ∧ Fs = [browF ty_uint8 A r.1 c, F r.2 y']
theorem boxOut_L {b : Nat} {r : List UInt8 × Bx.Box} {v : Value} {Fs : List Fact} (h : r.1.length = 32) (k : boxOut b r v Fs) : outL (bxF b) r v Fs := by
  obtain ⟨A, c, y', rfl, h1, h2, h3, rfl⟩ := k
  exact ⟨A, c, y', by rw [h], by rw [h]; exact h1, h2, h3, rfl⟩
theorem one_part (A : Option Addr) (l : List UInt8) (c : Nat) : partsT [(A, l, c)] = l := by simp [partsT]
theorem hashL_c (w : World) (b : Nat) (B : Bx.Box) (y : Lay) (b0 : Nat) (A : Option Addr) (l : List UInt8) (c : Nat) (hts : y.ts.map (·.1) = B.L) (hi : BInv B) (hL : B.L.length < 4096) (hn : l.length ≤ 1000000) (hm : Mem w [bxF b B y, partF (some ⟨b0, 0, none⟩) [(A, l, c)], oddF 5, firstF 2]) :
    Con Tryz.prog n_box_Box_Hash #[ptrB b, .slice (some ⟨b0, 0, none⟩) 1 1] w [bxF b B y] (outL (bxF b) (hashB B l)) := by
  have k := hashP_c w b B y b0 [(A, l, c)] 1 hts (by omega) (by simp) (Nat.le_refl 1) (by show 1 ≤ 1000; decide) (by rw [one_part]; exact hn) hm
  rw [one_part] at k
  exact k.mono fun v Fs h => boxOut_L (hash_good hi hL hn).2.1 h
theorem macL_c (w : World) (b : Nat) (B : Bx.Box) (y : Lay) (K : Option Addr) (key : List UInt8) (cK : Nat) (b0 : Nat) (A : Option Addr) (l : List UInt8) (c : Nat) (hts : y.ts.map (·.1) = B.L) (hi : BInv B) (hL : B.L.length < 4096) (hk : key.length ≤ 1000000) (hn : l.length ≤ 1000000) (hm : Mem w [bxF b B y, partF (some ⟨b0, 0, none⟩) [(A, l, c)], bsF K key, oddF 5, firstF 2]) :
    Con Tryz.prog n_box_Box_Mac #[ptrB b, .slice K key.length cK, .slice (some ⟨b0, 0, none⟩) 1 1] w [bxF b B y] (outL (bxF b) (macB B key l)) := by
  have k := macP_c w b B y K key cK b0 [(A, l, c)] 1 hts (by omega) hk (by simp) (Nat.le_refl 1) (by show 1 ≤ 1000; decide) (by rw [one_part]; exact hn) hm
  rw [one_part] at k
  exact k.mono fun v Fs h => boxOut_L (mac_good hi hL hk hn).2.1 h
def strL (F : Bx.Box → Lay → Fact) (r : List UInt8 × Bx.Box) (v : Value) (Fs : List Fact) : Prop :=
  ∃ A c y', v = .tuple #[.slice A r.1.length c, .int .i64 0] ∧ r.1.length ≤ c ∧ c ≤ maxLen ∧ y'.ts.map (·.1) = r.2.L ∧ Fs = [browF ty_uint8 A r.1 c, F r.2 y']
theorem strL_c (w : World) (b : Nat) (B : Bx.Box) (y : Lay) (K S : Option Addr) (p s : List UInt8) (cK cS : Nat) (r : Int) (hr : 1 ≤ r ∧ r ≤ 64) (hts : y.ts.map (·.1) = B.L) (hi : BInv B) (hL : B.L.length < 4096) (hk : p.length ≤ 1000000) (hn : s.length ≤ 100000) (hm : Mem w [bxF b B y, bsF K p, bsF S s, oddF 5, firstF 2]) :
    Con Tryz.prog n_box_Box_Stretch #[ptrB b, .slice K p.length cK, .slice S s.length cS, .int .i64 r] w [bxF b B y] (strL (bxF b) (strB B p s r.toNat)) := by
  refine (strP_c w b B y K S p s cK cS r hts (by omega) hk hn hm).mono fun v Fs h => ?_
  unfold strOut at h
  rw [if_pos hr] at h
  obtain ⟨A, c, y', rfl, h1, h2, h3, rfl⟩ := h
  have e := (str_good (r := r.toNat) hi hL hk (by omega : s.length ≤ 1000000) (by omega)).2.1
  exact ⟨A, c, y', by rw [e], by rw [e]; exact h1, h2, h3, rfl⟩
structure RgOk (r : Rg) : Prop where
  rise : (r.ks.map (·.e)).Pairwise (· < ·)
  le : ∀ k ∈ r.ks, k.e ≤ r.epoch
  len : r.ks.length ≤ r.room
  room : r.room ≤ 8
  master : r.master.length ≤ 64
  ep : r.epoch < 98
def keyS : ByteArray := ⟨#[107, 101, 121, 32]⟩
def keyT (e : Nat) : ByteArray := keyS ++ decimS e
def Rg.more (r : Rg) (A : Option Addr) (c : Nat) (p : List UInt8) : Rg := { r with epoch := r.epoch + 1, ks := r.ks ++ [⟨r.epoch + 1, A, c, p⟩] }
def Rg.cut (r : Rg) : Rg := if r.room < r.ks.length then { r with ks := r.ks.tail } else r
theorem decS_size {u : Nat} (hu : u < 100) : (decimS u).size ≤ 2 := by
  have h : ∀ u : _root_.Fin 100, (decimS u.1).size ≤ 2 := by decide +kernel
  exact h ⟨u, hu⟩
theorem more_look {r : Rg} (hok : RgOk r) : ilook r.ml ((r.epoch + 1 : Nat) : Int) = none := by
  rw [Rg.ml, key_look]
  have : (r.ks.find? fun k => decide ((k.e : Int) = ((r.epoch + 1 : Nat) : Int))) = none := by
    refine List.find?_eq_none.2 fun k hk => ?_
    have := hok.le k hk
    simp
    omega
  rw [this]
  rfl
theorem iput_end : ∀ {l : MLI} {s : Int} {v : Value}, ilook l s = none → iput l s v = l ++ [(s, v)]
  | [], _, _, _ => rfl
  | (k, u) :: r, s, v, h => by
    simp only [ilook] at h
    split at h
    · cases h
    · rename_i hne
      simp only [iput, if_neg hne, List.cons_append]
      rw [iput_end h]
theorem more_rise {r : Rg} (hok : RgOk r) {A : Option Addr} {c : Nat} {p : List UInt8} : (r.more A c p).rise = (r.more A c p).es := by
  have h1 : ((r.ks ++ [(⟨r.epoch + 1, A, c, p⟩ : RKey)]).map (·.e)).Pairwise (· < ·) := by
    rw [List.map_append, List.pairwise_append]
    refine ⟨hok.rise, List.pairwise_singleton _ _, fun x hx y hy => ?_⟩
    obtain ⟨k, hk, rfl⟩ := List.mem_map.1 hx
    obtain rfl := List.mem_singleton.1 hy
    have := hok.le k hk
    show k.e < r.epoch + 1
    omega
  have h2 := List.pairwise_map.1 h1
  unfold Rg.rise
  refine List.mergeSort_of_pairwise (List.pairwise_map.2 (h2.imp fun {a b} q => ?_))
  simp
  omega
set_option maxHeartbeats 2000000 in
theorem rotate_c (w : World) (r : Rg) (B : Bx.Box) (y : Lay) (hok : RgOk r) (hts : y.ts.map (·.1) = B.L) (hi : BInv B) (hL : B.L.length < 4000) (hm : Mem w [rgF r, bxF r.bx B y, oddF 5, firstF 2]) :
    Con Tryz.prog n_ring_Ring_Rotate #[ptrR r.b] w [rgF r, bxF r.bx B y] fun v Fs => ∃ A c y', v = .tuple #[.int .u64 ((r.epoch + 1 : Nat) : Int), .int .i64 0] ∧ y'.ts.map (·.1) = (macB B r.master (keyT (r.epoch + 1)).data.toList).2.L ∧
      Fs = [rgF (r.more A c (macB B r.master (keyT (r.epoch + 1)).data.toList).1).cut, bxF r.bx (macB B r.master (keyT (r.epoch + 1)).data.toList).2 y'] := by
  have g := good_ring_Ring_Rotate w (Un [rgF r, bxF r.bx B y])
  have hml := maxLen_eq
  have hs0 : Sat (cx_ring_Ring_Rotate w (Un [rgF r, bxF r.bx B y])) Va.z 0 [] [rgF r, bxF r.bx B y, oddF 5, firstF 2] w := hm.sat0 rfl (ownIn (Gs := [rgF r, bxF r.bx B y]) (fun f hf => by
    simp only [List.mem_cons, List.not_mem_nil, or_false] at hf
    rcases hf with rfl | rfl <;> rfl))
  have hs1 := hs0.unsep 0 rfl
  obtain ⟨e, he⟩ : ∃ e, r.epoch = e := ⟨_, rfl⟩
  have hep := hok.ep
  have hma := hok.master
  refine con_of_sx (cx := cx_ring_Ring_Rotate w (Un [rgF r, bxF r.bx B y])) g b_ring_Ring_Rotate rfl rfl (β := Va.z) [.c (.v (ptrR r.b))] 0 [] _ rfl rfl hs1 ?_
  obtain ⟨x, hx⟩ : ∃ x : Int, (r.epoch : Int) = x := ⟨_, rfl⟩
  obtain ⟨x1, hx1⟩ : ∃ x1 : Int, ((r.epoch + 1 : Nat) : Int) = x1 := ⟨_, rfl⟩
  refine ⟨.int .u64 x, fun β w' hs => by rw [← hx]; exact cell_bk (hs.get 0 rfl) (o := 4) rfl, ?_⟩
  refine BIf.dec (fun h => absurd h (show ¬ (4294967296 : Int) ≤ x by omega)) (fun _ => ?_)
  refine ⟨.int .u64 x, fun β w' hs => by rw [← hx]; exact cell_bk (hs.get 0 rfl) (o := 4) rfl, ?_⟩
  refine ⟨x1, by rw [wrap_u64']; omega, ?_⟩
  refine ⟨_, fun β w' hs => hs.bkSet 0 (o := 4) (us := [.int .u64 x1]) rfl (by show 5 ≤ 5; decide) (one_mem rfl), ?_⟩
  have hds := decS_size (u := r.epoch + 1) (by omega)
  have hks : keyS.size = 4 := rfl
  have hkl : (keyT (r.epoch + 1)).data.toList.length ≤ 10 := by show (keyS ++ decimS (r.epoch + 1)).size ≤ 10; rw [ByteArray.size_append]; omega
  refine draw_rule g p_ring_Ring_Rotate_6 (by kernel_rfl) [⟨0, ty_ptr_ring_Ring, [.v (ptrR r.b)]⟩] [bkF r.b ty_ring_Ring (putAll r.vs 4 [.int .u64 x1])] (subPerm [0]) ?_
  refine ⟨.map (some r.m), fun β w' hs => cell_bk (hs.get 0 rfl) (o := 3) rfl, ?_⟩
  refine ⟨.int .u64 x1, fun β w' hs => cell_bk (hs.get 0 rfl) (o := 4) rfl, ?_⟩
  refine ⟨.pointer (some ⟨r.bx, 0, none⟩), fun β w' hs => cell_bk (hs.get 0 rfl) (o := 0) rfl, ?_⟩
  refine ⟨.slice r.mA r.master.length r.mc, fun β w' hs => cell_bk (hs.get 0 rfl) (o := 1) rfl, ?_⟩
  refine ⟨.int .u64 x1, fun β w' hs => cell_bk (hs.get 0 rfl) (o := 4) rfl, ?_⟩
  refine call_pu (v := .string (decimS (r.epoch + 1))) (fun β w' hs => by rw [← hx1]; exact fmtU_c w' (r.epoch + 1) (by omega)) ?_
  refine ⟨subPerm [0], ?_⟩
  refine ⟨by show keyS.size + (decimS (r.epoch + 1)).size ≤ maxLen; omega, ?_⟩
  intro bb cb hcb _
  refine ⟨subPerm [1], ?_⟩
  intro br
  refine ⟨subPerm [2], ?_⟩
  refine call_con [6] (R := outL (bxF r.bx) (macB B r.master (keyT (r.epoch + 1)).data.toList)) (fun β w' hs => by
    have h2 := (((hs.rowRd 0 rfl).unown 1 rfl).ro 3 rfl).part1 (l := (keyT (r.epoch + 1)).data.toList) [0, 1] rfl
    exact macL_c w' r.bx B y r.mA r.master r.mc br (some ⟨bb, 0, none⟩) (keyT (r.epoch + 1)).data.toList cb hts hi (by omega) (by omega) (by omega) (h2.mem.take (js := [7, 0, 4, 8, 9]) rfl)) ?_
  rintro v Fs ⟨A, c, y1, rfl, q1, q2, hts1, rfl⟩
  refine ⟨subPerm [4], ?_⟩
  generalize macB B r.master (keyT (r.epoch + 1)).data.toList = k at *
  obtain ⟨kp, kB⟩ := k
  simp only at q1 hts1
  refine ⟨_, fun _ => _, fun β w' hs => hs.mapPutIY g 6 rfl (t := ty_map_uint64_sl_uint8) x1 (.slice A kp.length c), fun _ => ?_⟩
  refine ⟨subPerm [4], ?_⟩
  rw [show iput r.ml x1 (.slice A kp.length c) = (r.more A c kp).ml from by rw [iput_end (by rw [← hx1]; exact more_look hok)]; simp [Rg.ml, Rg.more, RKey.v, ← hx1]]
  have hx1' : x1 = ((r.more A c kp).epoch : Int) := hx1.symm
  have e1 : rgF (r.more A c kp) = sepF [bkF r.b ty_ring_Ring (putAll r.vs 4 [.int .u64 x1]), browF ty_uint8 r.mA r.master r.mc, mapIF .u64 r.m (r.more A c kp).ml, sepF (r.ks.map RKey.f ++ [browF ty_uint8 A kp c])] := by
    rw [hx1']
    unfold rgF
    simp [Rg.more, Rg.vs, putAll, putAt_eq, RKey.f]
  refine call_con [] (fun β w' hs => epochs_c w' (r.more A c kp)) ?_
  rintro v Fs ⟨bx2, rfl, rfl⟩
  refine range_rule (α := Int) (ι := Unit) (κ := Unit) g rfl (cv := [.pointer (some ⟨bx2, 0, none⟩)]) rfl (by kernel_rfl) 1 (Nat.le_refl 1)
    (fun pre _ => pre = []) (fun _ => [⟨0, ty_ptr_ring_Ring, [.v (ptrR r.b)]⟩]) (fun _ => [bxF r.bx kB y1]) (fun i => ⟨rfl, trivial⟩)
    (fun e _ _ => e = .exit 1) (fun _ => [⟨0, ty_ptr_ring_Ring, [.v (ptrR r.b)]⟩]) (fun _ => [rgF (r.more A c kp).cut, bxF r.bx kB y1]) (fun _ => ⟨rfl, rfl, trivial⟩)
    [bkF bx2 ty_ptr_ring_Ring [ptrR r.b], rgF (r.more A c kp)] [] [] ⟨rfl, rfl, trivial⟩ (fun g h => by cases h) () rfl
    (fun β w hs => ⟨β, Agr.refl _ _, by
      have h2 := hs.blur 1 8 (A := r.ks.map RKey.f) (B := []) (x := browF ty_uint8 A kp c) rfl (by show some (sepF (r.ks.map RKey.f)) = _; rw [List.append_nil]) rfl (by decide)
      have h3 := h2.sep [5, 6, 7, 0] rfl ⟨rfl, rfl, rfl, rfl, trivial⟩
      rw [e1]
      exact h3.perm [1, 0, 2]⟩) (insE (r.more A c kp) (r.more A c kp).rise)
    (fun xs Fs' => xs = (r.more A c kp).rise ∧ Fs' = onFst (r.more A c kp).rise [rgF (r.more A c kp)] []) (fun _ Fs' => Fs' = [])
    (fun l w f0 R J Jx hJ0 hJo hRo hY hm => (ep_it l w bx2 (r.more A c kp) f0 R J Jx (by have h1 := hok.len; have h2 := hok.room; show (r.ks ++ [_]).length ≤ 12; rw [List.length_append]; show r.ks.length + 1 ≤ 12; omega) hJ0 hJo hRo hY hm).mono fun _ Fs h => by
      obtain ⟨f, Fs', e0, h⟩ := h
      refine ⟨f, Fs', e0, ?_⟩
      rcases h with ⟨xs, a1, a2, a3⟩ | ⟨pre, a1, a2⟩
      · exact .inl ⟨xs, a1, a2, a3⟩
      · exact .inr ⟨pre, a1, a2⟩) ?_ ?_ ?_
  · rintro ⟨⟩ pre x args X W S' lb bs pn pn' hbs rfl ⟨rfl, rfl, hx0⟩
    refine ⟨_, rfl, ?_⟩
    obtain ⟨rm, hrm⟩ : ∃ rm : Int, (r.room : Int) = rm := ⟨_, rfl⟩
    refine draw_rule (rcx_good g) p_ring_Ring_Rotate_9 (by kernel_rfl) [⟨0, ty_ptr_ring_Ring, [.v (ptrR r.b)]⟩] [rgF (r.more A c kp)] (subPerm [0]) ?_
    refine ⟨.map (some r.m), fun β w' hs => cell_bk (rg_bk (hs.get 0 rfl)) (o := 3) rfl, ?_⟩
    refine ⟨(r.more A c kp).ml, fun β w' hs => rg_map (hs.get 0 rfl), ?_⟩
    refine ⟨.int .i64 rm, fun β w' hs => by rw [← hrm]; exact cell_bk (rg_bk (hs.get 0 rfl)) (o := 2) rfl, ?_⟩
    have hmll : (r.more A c kp).ml.length = (r.more A c kp).ks.length := by rw [Rg.ml, List.length_map]
    refine BIf.dec (fun hgt => ?_) (fun hle => ?_)
    · have hgt0 : rm < ((r.more A c kp).ml.length : Int) := hgt
      have hcut : (r.more A c kp).cut = { (r.more A c kp) with ks := (r.more A c kp).ks.tail } := by
        unfold Rg.cut
        rw [if_pos (by show r.room < _; omega)]
      refine ⟨.map (some r.m), fun β w' hs => cell_bk (rg_bk (hs.get 0 rfl)) (o := 3) rfl, ?_⟩
      obtain ⟨k0, t, hkt⟩ : ∃ k0 t, (r.more A c kp).ks = k0 :: t := by
        cases hq : (r.more A c kp).ks with
        | nil =>
          have h2 : (r.more A c kp).ks.length = r.ks.length + 1 := by show (r.ks ++ [_]).length = _; rw [List.length_append]; rfl
          rw [hq] at h2
          cases h2
        | cons k0 t => exact ⟨k0, t, rfl⟩
      have hxk : x = (k0.e : Int) := by
        rw [more_rise hok, Rg.es, hkt] at hx0
        exact (Option.some.inj hx0).symm
      have hdel : idel (r.more A c kp).ml x = (r.more A c kp).cut.ml := by
        rw [hcut, Rg.ml, Rg.ml, hkt, hxk]
        simp [idel]
      refine ⟨[⟨0, ty_ptr_ring_Ring, [.v (ptrR r.b)]⟩], [rgF (r.more A c kp).cut, bxF r.bx kB y1], .c (.v (.tuple #[])), fun β w' ty hs => ?_, trivial, ?_⟩
      · have h1 := Sat.unsep hs 0 rfl
        obtain ⟨w2, f1, f2⟩ := h1.mapDelI (rcx_good g) 2 rfl (t := ty_map_uint64_sl_uint8) (tk := ty_uint64) x ty _
        refine ⟨w2, f1, ?_⟩
        have h3 := f2.fuse [3] (sepF ((r.more A c kp).cut.ks.map RKey.f)) (fun w hm => by
          have h := hm.fact (sepF ((r.more A c kp).ks.map RKey.f)) List.mem_cons_self
          rw [hkt] at h
          rw [hcut, hkt]
          exact ⟨fun f hf => h.1 f (List.mem_cons_of_mem _ hf), (List.pairwise_cons.1 h.2).2⟩) (fun k hk => by
          refine ⟨sepF ((r.more A c kp).ks.map RKey.f), List.mem_cons_self, ?_⟩
          rw [hcut, hkt] at hk
          rw [hkt]
          obtain ⟨f, hf, hk⟩ := hk
          exact ⟨f, List.mem_cons_of_mem _ hf, hk⟩)
        have h4 := h3.sep [1, 2, 3, 0] rfl ⟨rfl, rfl, rfl, rfl, trivial⟩
        have e2 : rgF (r.more A c kp).cut = sepF [bkF (r.more A c kp).b ty_ring_Ring (r.more A c kp).vs, browF ty_uint8 (r.more A c kp).mA (r.more A c kp).master (r.more A c kp).mc, mapIF .u64 (r.more A c kp).m (idel (r.more A c kp).ml x), sepF ((r.more A c kp).cut.ks.map RKey.f)] := by
          rw [hdel]
          unfold rgF
          rw [hcut]
          rfl
        rw [e2]
        exact h4
      · exact ⟨(), rfl, Ent.mk' trivial rfl (fun β w hs => hs)⟩
    · have hle0 : ¬ rm < ((r.more A c kp).ml.length : Int) := hle
      have hcut : (r.more A c kp).cut = r.more A c kp := by
        unfold Rg.cut
        rw [if_neg (by show ¬ r.room < _; omega)]
      exact ⟨(), rfl, Ent.mk' trivial rfl (fun β w hs => by rw [hcut]; exact hs)⟩
  · rintro xs ⟨⟩ Fs rfl ⟨hxs, rfl⟩
    exfalso
    have h1 : (r.more A c kp).rise.length = (r.more A c kp).ks.length := by rw [Rg.rise, List.length_mergeSort, Rg.es, List.length_map]
    rw [← hxs] at h1
    have h2 : (r.more A c kp).ks.length = r.ks.length + 1 := by show (r.ks ++ [_]).length = _; rw [List.length_append]; rfl
    rw [h2] at h1
    cases h1
  · rintro e' pre ⟨⟩ Fs rfl rfl
    have hcb : (r.more A c kp).cut.b = r.b := by unfold Rg.cut; split <;> rfl
    have hcv : (r.more A c kp).cut.vs = (r.more A c kp).vs := by unfold Rg.cut; split <;> rfl
    refine ⟨.int .u64 x1, fun β w' hs => ?_, ?_⟩
    · have h := rg_bk (hs.get 0 rfl)
      rw [hcb, hcv] at h
      rw [← hx1]
      exact cell_bk h (o := 4) rfl
    intro β w' hs
    rw [← hx1] at *
    exact (hs.keepB (List.nil_sublist _)).fin [0, 1] ⟨A, c, y1, rfl, hts1, rfl⟩
end Go.Proofs.YteenjgfbbkdlhaaGreatDoor.Sx

namespace Go.Proofs.YteenjgfbbkdlhaaGreatDoor.Sx
open Go
theorem tri_sat {cx : Cx} {c : Code} {Q : Exit → KT} {n : Nat} {env : Env} {H : List Bk} {F F' : List Fact} (hS : ∀ β w, Sat cx β n H F w → Sat cx β n H F' w) (h : Tri cx c Q n env H F') : Tri cx c Q n env H F :=
  ⟨fun β a w hi => h.run β a w ⟨hi.ag, hi.size, hi.df, hi.lte, hS β w hi.sat⟩⟩
theorem reify_tri {cx : Cx} {c : Code} {Q : Exit → KT} {n : Nat} {env : Env} {H : List Bk} {F : List Fact} (id : Nat) {ty : TypeId} {cs : List SL} (vs : Nat → List Value) (h1 : tyAt H id = some ty) (h2 : cellsAt H id = some cs) (h3 : ∀ b, allV (cs.map (SL.re id b)) = some (vs b))
    (h : ∀ b, Tri cx c Q n (envRe id b env) (bksRe id b H) (bkF b ty (vs b) :: F)) : Tri cx c Q n env H F :=
  tri_join (ι := Nat) (fun _ => True) n (fun b => envRe id b env) (fun b => bksRe id b H) (fun b => bkF b ty (vs b) :: F) (fun b _ => h b) (EntX.reify id vs h1 h2 h3 (fun b => EntX.of b trivial ⟨fun β a w hi => ⟨β, rfl, rfl, hi⟩⟩))
end Go.Proofs.YteenjgfbbkdlhaaGreatDoor.Sx

namespace Go.Proofs.YteenjgfbbkdlhaaGreatDoor.Sx
open Go
attribute [local irreducible] Calls
theorem more_ok {r : Rg} (hok : RgOk r) (hep : r.epoch + 1 < 98) {A : Option Addr} {c : Nat} {p : List UInt8} : RgOk (r.more A c p).cut := by
  have h1 : ((r.ks ++ [(⟨r.epoch + 1, A, c, p⟩ : RKey)]).map (·.e)).Pairwise (· < ·) := by
    rw [List.map_append, List.pairwise_append]
    refine ⟨hok.rise, List.pairwise_singleton _ _, fun x hx y hy => ?_⟩
    obtain ⟨k, hk, rfl⟩ := List.mem_map.1 hx
    obtain rfl := List.mem_singleton.1 hy
    have := hok.le k hk
    show k.e < r.epoch + 1
    omega
  have h2 : ∀ k ∈ r.ks ++ [(⟨r.epoch + 1, A, c, p⟩ : RKey)], k.e ≤ r.epoch + 1 := by
    intro k hk
    rcases List.mem_append.1 hk with hk | hk
    · have := hok.le k hk
      omega
    · obtain rfl := List.mem_singleton.1 hk
      exact Nat.le_refl _
  have h3 : (r.ks ++ [(⟨r.epoch + 1, A, c, p⟩ : RKey)]).length = r.ks.length + 1 := by rw [List.length_append]; rfl
  have hl := hok.len
  unfold Rg.cut
  split
  · refine ⟨?_, fun k hk => h2 k (List.mem_of_mem_tail hk), ?_, hok.room, hok.master, hep⟩
    · show (((r.ks ++ [(⟨r.epoch + 1, A, c, p⟩ : RKey)]).tail).map (·.e)).Pairwise (· < ·)
      exact h1.sublist ((List.tail_sublist _).map _)
    · show ((r.ks ++ [(⟨r.epoch + 1, A, c, p⟩ : RKey)]).tail).length ≤ r.room
      rw [List.length_tail, h3]
      omega
  · rename_i hn
    have hn2 : ¬ r.room < (r.ks ++ [(⟨r.epoch + 1, A, c, p⟩ : RKey)]).length := hn
    exact ⟨h1, h2, by show (r.ks ++ [(⟨r.epoch + 1, A, c, p⟩ : RKey)]).length ≤ r.room; omega, hok.room, hok.master, hep⟩
def ring0 (b bx : Nat) (mA : Option Addr) (mc : Nat) (master : List UInt8) (room m : Nat) : Rg := ⟨b, bx, mA, mc, master, room, m, [], 0⟩
theorem newR_c (w : World) (bx : Nat) (B : Bx.Box) (y : Lay) (M : Option Addr) (master : List UInt8) (cM room : Nat) (h1 : 1 ≤ master.length) (h2 : master.length ≤ 64) (h3 : 1 ≤ room) (h4 : room ≤ 8) (hts : y.ts.map (·.1) = B.L) (hi : BInv B) (hL : B.L.length < 4000) (hm : Mem w [bxF bx B y, bsF M master, oddF 5, firstF 2]) :
    Con Tryz.prog n_ring_New #[ptrB bx, .slice M master.length cM, .int .i64 (room : Int)] w [bxF bx B y] fun v Fs => ∃ b mA mc m A c y', v = .tuple #[ptrR b, .int .i64 0] ∧ y'.ts.map (·.1) = (macB B master (keyT 1).data.toList).2.L ∧
      Fs = [rgF ((ring0 b bx mA mc master room m).more A c (macB B master (keyT 1).data.toList).1).cut, bxF bx (macB B master (keyT 1).data.toList).2 y'] := by
  have g := good_ring_New w (Un [bxF bx B y])
  have hml := maxLen_eq
  have hs0 : Sat (cx_ring_New w (Un [bxF bx B y])) Va.z 0 [] [bxF bx B y, bsF M master, oddF 5, firstF 2] w := hm.sat0 rfl (ownIn (Gs := [bxF bx B y]) (fun f hf => by
    simp only [List.mem_cons, List.not_mem_nil, or_false] at hf
    rcases hf with rfl | rfl | rfl <;> rfl))
  obtain ⟨rm, hrm⟩ : ∃ rm : Int, (room : Int) = rm := ⟨_, rfl⟩
  rw [hrm]
  refine con_of_tri (cx := cx_ring_New w (Un [bxF bx B y])) g b_ring_New rfl rfl (β := Va.z) [.c (.v (ptrB bx)), .c (.v (.slice M master.length cM)), .c (.v (.int .i64 rm))] 0 [] _ rfl rfl hs0 ?_
  refine tri_seq g ?_
  refine tri_seq g ?_
  refine BIf.dec (fun h => absurd h (show ¬ (master.length : Int) < 1 by omega)) (fun _ => ?_)
  refine BIf.dec (fun h => absurd h (show ¬ (64 : Int) < (master.length : Int) by omega)) (fun _ => ?_)
  refine BIf.dec (fun h => absurd h (show ¬ rm < 1 by omega)) (fun _ => ?_)
  refine BIf.dec (fun h => absurd h (show ¬ (8 : Int) < rm by omega)) (fun _ => ?_)
  refine tri_seq g ?_
  refine call_con [] (fun β w' hs => clone_c w' M master cM (hs.get 1 rfl) (by omega)) ?_
  rintro v Fs ⟨mA, mc, rfl, q1, q2, rfl⟩
  intro m
  refine reify_tri 0 (fun _ => [.pointer (some ⟨bx, 0, none⟩), .slice mA master.length mc, .int .i64 rm, .map (some m), .int .u64 0]) rfl rfl (fun _ => rfl) (fun rb => ?_)
  refine tri_sat (F' := [rgF (ring0 rb bx mA mc master room m), bxF bx B y, oddF 5, firstF 2]) (fun β w' hs => by
    have h1 := (hs.emptyI (kk := .u64) 1 rfl).noMem (sepF []) ⟨fun f hf => (by cases hf), List.Pairwise.nil⟩ (fun k hk => by obtain ⟨f, hf, _⟩ := hk; cases hf)
    have h2 := h1.sep [1, 3, 2, 0] rfl ⟨rfl, rfl, rfl, rfl, trivial⟩
    have e : rgF (ring0 rb bx mA mc master room m) = sepF [bkF rb ty_ring_Ring [.pointer (some ⟨bx, 0, none⟩), .slice mA master.length mc, .int .i64 rm, .map (some m), .int .u64 0], browF ty_uint8 mA master mc, mapIF .u64 m [], sepF []] := by
      rw [← hrm]
      rfl
    rw [e]
    exact h2.perm [0, 1, 3, 4]) ?_
  have hok : RgOk (ring0 rb bx mA mc master room m) := ⟨List.Pairwise.nil, fun k hk => (by cases hk), Nat.zero_le _, h4, h2, by show 0 < 98; decide⟩
  refine tri_seq g ?_
  refine call_con [0, 1] (fun β w' hs => rotate_c w' (ring0 rb bx mA mc master room m) B y hok hts hi hL (hs.mem.take (js := [0, 1, 2, 3]) rfl)) ?_
  rintro v Fs ⟨A, c, y', rfl, hts', rfl⟩
  refine tri_seq g ?_
  refine tri_of g ?_
  intro β w' hs
  exact (hs.keepB (List.nil_sublist _)).fin [0, 1] ⟨rb, mA, mc, m, A, c, y', rfl, hts', rfl⟩
def Rg.drop (r : Rg) (e : Int) : Rg := { r with ks := r.ks.eraseP fun k => decide ((k.e : Int) = e) }
end Go.Proofs.YteenjgfbbkdlhaaGreatDoor.Sx

namespace Go.Proofs.YteenjgfbbkdlhaaGreatDoor.Sx
open Go
structure Pre (B B' : Bx.Box) : Prop where
  sym : B'.sym = B.sym
  full : B'.full = B.full
  terms : ∃ l, B'.L = B.L ++ l
theorem Pre.refl (B : Bx.Box) : Pre B B := ⟨rfl, rfl, [], by simp⟩
theorem Pre.trans {A B C : Bx.Box} (h : Pre A B) (k : Pre B C) : Pre A C := by
  obtain ⟨l, hl⟩ := h.terms
  obtain ⟨m, hm⟩ := k.terms
  exact ⟨k.sym.trans h.sym, k.full.trans h.full, l ++ m, by rw [hm, hl, List.append_assoc]⟩
theorem opens_app {h : List UInt8} {r : List Nat × List UInt8} : ∀ (l : List Bx.Term) {B : Bx.Box}, B.opens h = some r → ({ B with L := B.L ++ l } : Bx.Box).opens h = some r
  | [], B, e => by rw [List.append_nil]; exact e
  | t :: l, B, e => by
    have h1 := opens_app l (opens_grow (t := t) e)
    simp only [List.append_assoc, List.cons_append, List.nil_append] at h1
    exact h1
theorem Pre.opens {B B' : Bx.Box} (h : Pre B B') {t : List UInt8} {r : List Nat × List UInt8} (e : B.opens t = some r) : B'.opens t = some r := by
  obtain ⟨l, hl⟩ := h.terms
  have h1 := opens_app l e
  have e2 : B' = { B with L := B.L ++ l } := by
    obtain ⟨s, f, L⟩ := B'
    have a := h.sym
    have b := h.full
    simp only at a b hl
    subst a b hl
    rfl
  rw [e2]
  exact h1
structure Kept (r : Rg) (k t : Nat) (k1 : List UInt8) : Prop where
  ok : RgOk r
  rm : r.room = k
  ep : r.epoch = t + 1
  p32 : ∀ q ∈ r.ks, q.p.length = 32
  lo : t < k → ∃ A c ks, r.ks = ⟨1, A, c, k1⟩ :: ks ∧ ks.length = t
  hi : k ≤ t → r.ks.length = k ∧ ∀ q ∈ r.ks, 1 < q.e
  eslo : t < k → r.ks.map (·.e) = List.range' 1 (t + 1)
  eshi : k ≤ t → r.ks.map (·.e) = List.range' (t + 2 - k) k
theorem Kept.p {r : Rg} {k t : Nat} {k1 : List UInt8} (h : Kept r k t k1) : ∀ q ∈ r.ks, q.p.length ≤ 1000 := fun q hq => by rw [h.p32 q hq]; decide
theorem kept_new {b bx : Nat} {mA : Option Addr} {mc : Nat} {master : List UInt8} {room m : Nat} {A : Option Addr} {c : Nat} {p : List UInt8} (h2 : master.length ≤ 64) (h3 : 1 ≤ room) (h4 : room ≤ 8) (hp : p.length = 32) : Kept ((ring0 b bx mA mc master room m).more A c p).cut room 0 p := by
  have hok : RgOk (ring0 b bx mA mc master room m) := ⟨List.Pairwise.nil, fun k hk => (by cases hk), Nat.zero_le _, h4, h2, by show 0 < 98; decide⟩
  have e : ((ring0 b bx mA mc master room m).more A c p).cut = (ring0 b bx mA mc master room m).more A c p := by
    unfold Rg.cut
    rw [if_neg]
    show ¬ room < 1
    omega
  refine ⟨more_ok hok (by show 0 + 1 < 98; decide), ?_, ?_, ?_, ?_, fun h => absurd h (by omega), fun _ => by rw [e]; rfl, fun h => absurd h (by omega)⟩
  · rw [e]; rfl
  · rw [e]; rfl
  · rw [e]
    intro q hq
    have hq' : q ∈ [(⟨1, A, c, p⟩ : RKey)] := hq
    obtain rfl := List.mem_singleton.1 hq'
    exact hp
  · intro _
    rw [e]
    exact ⟨A, c, [], rfl, rfl⟩
theorem cut_room (r : Rg) : r.cut.room = r.room := by unfold Rg.cut; split <;> rfl
theorem cut_epoch (r : Rg) : r.cut.epoch = r.epoch := by unfold Rg.cut; split <;> rfl
theorem cut_bx (r : Rg) : r.cut.bx = r.bx := by unfold Rg.cut; split <;> rfl
theorem cut_b (r : Rg) : r.cut.b = r.b := by unfold Rg.cut; split <;> rfl
theorem cut_master (r : Rg) : r.cut.master = r.master := by unfold Rg.cut; split <;> rfl
theorem cut_mem {r : Rg} {q : RKey} (h : q ∈ r.cut.ks) : q ∈ r.ks := by
  unfold Rg.cut at h
  split at h
  · exact List.mem_of_mem_tail h
  · exact h
theorem Kept.next {r : Rg} {k t : Nat} {k1 : List UInt8} (h : Kept r k t k1) (hk : 1 ≤ k) (ht : t < 90) {A : Option Addr} {c : Nat} {p : List UInt8} (hp : p.length = 32) : Kept (r.more A c p).cut k (t + 1) k1 := by
  have hrm := h.rm
  have hep := h.ep
  have hlen : (r.more A c p).ks.length = r.ks.length + 1 := by show (r.ks ++ [_]).length = _; rw [List.length_append]; rfl
  have hroom : (r.more A c p).room = k := hrm
  have hme : (r.more A c p).ks.map (·.e) = r.ks.map (·.e) ++ [t + 2] := by show (r.ks ++ [(⟨r.epoch + 1, A, c, p⟩ : RKey)]).map (·.e) = _; rw [List.map_append, hep]; rfl
  refine ⟨more_ok h.ok (by omega), by rw [cut_room]; exact hrm, by rw [cut_epoch]; show r.epoch + 1 = _; omega, ?_, ?_, ?_, ?_, ?_⟩
  · intro q hq
    have hq' : q ∈ r.ks ++ [(⟨r.epoch + 1, A, c, p⟩ : RKey)] := cut_mem hq
    rcases List.mem_append.1 hq' with hq' | hq'
    · exact h.p32 q hq'
    · obtain rfl := List.mem_singleton.1 hq'
      exact hp
  · intro hlt
    obtain ⟨A0, c0, ks, e, hl⟩ := h.lo (by omega)
    have hcut : (r.more A c p).cut = r.more A c p := by
      unfold Rg.cut
      rw [if_neg]
      rw [hlen, e, hroom, List.length_cons]
      omega
    rw [hcut]
    exact ⟨A0, c0, ks ++ [⟨r.epoch + 1, A, c, p⟩], by show r.ks ++ _ = _; rw [e]; rfl, by rw [List.length_append, hl]; rfl⟩
  · intro hge
    have hl : r.ks.length = k := by
      rcases Nat.lt_or_ge t k with hlt | hge2
      · obtain ⟨A0, c0, ks, e, hl⟩ := h.lo hlt
        rw [e, List.length_cons]
        omega
      · exact (h.hi hge2).1
    have hcut : (r.more A c p).cut = { r.more A c p with ks := (r.more A c p).ks.tail } := by
      unfold Rg.cut
      rw [if_pos (by rw [hlen, hroom]; omega)]
    rw [hcut]
    refine ⟨by show (r.more A c p).ks.tail.length = k; rw [List.length_tail, hlen]; omega, fun q hq => ?_⟩
    have hq' : q ∈ (r.ks ++ [(⟨r.epoch + 1, A, c, p⟩ : RKey)]).tail := hq
    have hrise := h.ok.rise
    have hr0 : r.ks ≠ [] := by intro e; rw [e] at hl; simp at hl; omega
    rw [List.tail_append_of_ne_nil hr0] at hq'
    rcases List.mem_append.1 hq' with hq' | hq'
    · rcases Nat.lt_or_ge t k with hlt | hge2
      · obtain ⟨A0, c0, ks, e, hl⟩ := h.lo hlt
        rw [e] at hq' hrise
        rw [List.map_cons, List.pairwise_cons] at hrise
        exact hrise.1 q.e (List.mem_map.2 ⟨q, hq', rfl⟩)
      · exact (h.hi hge2).2 q (List.mem_of_mem_tail hq')
    · obtain rfl := List.mem_singleton.1 hq'
      show 1 < r.epoch + 1
      omega
  · intro hlt
    obtain ⟨A0, c0, ks, e, hl⟩ := h.lo (by omega)
    have hcut : (r.more A c p).cut = r.more A c p := by
      unfold Rg.cut
      rw [if_neg]
      rw [hlen, e, hroom, List.length_cons]
      omega
    rw [hcut, hme, h.eslo (by omega), List.range'_concat (n := t + 1)]
    simp
    omega
  · intro hge
    have hl : r.ks.length = k := by
      rcases Nat.lt_or_ge t k with hlt | hge2
      · obtain ⟨A0, c0, ks, e, hl⟩ := h.lo hlt
        rw [e, List.length_cons]
        omega
      · exact (h.hi hge2).1
    have hcut : (r.more A c p).cut = { r.more A c p with ks := (r.more A c p).ks.tail } := by
      unfold Rg.cut
      rw [if_pos (by rw [hlen, hroom]; omega)]
    rw [hcut]
    show (r.more A c p).ks.tail.map (·.e) = _
    rw [List.map_tail, hme]
    obtain ⟨s, hs, e⟩ : ∃ s, s + k = t + 2 ∧ r.ks.map (·.e) = List.range' s k := by
      rcases Nat.lt_or_ge t k with hlt | hge2
      · obtain rfl : t + 1 = k := by omega
        exact ⟨1, by omega, h.eslo hlt⟩
      · exact ⟨t + 2 - k, by omega, h.eshi hge2⟩
    have e2 : List.range' s k ++ [t + 2] = List.range' s (k + 1) := by
      rw [List.range'_concat]
      simp
      omega
    rw [e, e2, List.range'_succ, List.tail_cons]
    congr 1
    omega
theorem Kept.key {r : Rg} {k t : Nat} {k1 : List UInt8} (h : Kept r k t k1) (hlt : t < k) : ∃ q, r.key 1 = some q ∧ q.p = k1 := by
  obtain ⟨A, c, ks, e, _⟩ := h.lo hlt
  exact ⟨⟨1, A, c, k1⟩, by unfold Rg.key; rw [e]; rfl, rfl⟩
end Go.Proofs.YteenjgfbbkdlhaaGreatDoor.Sx

namespace Go.Proofs.YteenjgfbbkdlhaaGreatDoor.Sx
open Go
attribute [local irreducible] Calls
structure Dk where
  b : Nat
  rb : Nat
  life : Nat
  serial : Nat
  m1 : Nat
  m2 : Nat
  «to» : MLI
  rv : MLI
def Dk.vs (d : Dk) : List Value := [ptrR d.rb, .int .u64 (d.life : Int), .int .u64 (d.serial : Int), .map (some d.m1), .map (some d.m2)]
def dkF (d : Dk) : Fact := sepF [bkF d.b ty_ticket_Desk d.vs, mapIF .u64 d.m1 d.to, mapIF .u64 d.m2 d.rv]
def ptrD (b : Nat) : Value := .pointer (some ⟨b, 0, none⟩)
theorem newDesk_c (w : World) (rb life : Nat) : Con Tryz.prog n_ticket_NewDesk #[ptrR rb, .int .u64 (life : Int)] w [] fun v Fs => (1 ≤ life ∧ life ≤ 1099511627776 ∧ ∃ b m1 m2, v = .tuple #[ptrD b, .int .i64 0] ∧ Fs = [dkF ⟨b, rb, life, 0, m1, m2, [], []⟩]) ∨ (¬ (1 ≤ life ∧ life ≤ 1099511627776) ∧ v = .tuple #[.pointer none, .int .i64 1] ∧ Fs = []) := by
  have g := good_ticket_NewDesk w (Un [])
  refine con_of_sx (cx := cx_ticket_NewDesk w (Un [])) g b_ticket_NewDesk rfl rfl (β := Va.z) [.c (.v (ptrR rb)), .c (.v (.int .u64 (life : Int)))] 0 [] [] rfl rfl (Sat.start rfl) ?_
  refine BIf.dec (fun h1 => ?_) (fun h1 => ?_)
  · have h10 : (life : Int) < 1 := h1
    intro β w' hs
    exact hs.fin [] (.inr ⟨by omega, rfl, rfl⟩)
  have h10 : ¬ (life : Int) < 1 := h1
  refine BIf.dec (fun h2 => ?_) (fun h2 => ?_)
  · have h20 : (life : Int) > 1099511627776 := h2
    intro β w' hs
    exact hs.fin [] (.inr ⟨by omega, rfl, rfl⟩)
  have h20 : ¬ (life : Int) > 1099511627776 := h2
  intro b1 b2 β w' hs
  have k1 := (((hs.emptyI (kk := .u64) 0 rfl).emptyI (kk := .u64) 1 rfl).ofBk).sep [0, 2, 1] rfl ⟨rfl, rfl, rfl, trivial⟩
  exact k1.fin [0] (.inl ⟨by omega, by omega, β 0, b1, b2, rfl, rfl⟩)
end Go.Proofs.YteenjgfbbkdlhaaGreatDoor.Sx
