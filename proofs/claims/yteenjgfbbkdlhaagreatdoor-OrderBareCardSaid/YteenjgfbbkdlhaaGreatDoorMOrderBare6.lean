/- Texts joined: RgR, TrR, RgN, RgW, RgS, RgV, RgD, Rg0, Rg1, Kn1, RgP, RgS2, DkN, RgA, Sto3, Sto4, Sto5, Or8, Os6, Or9, Mk1, Mk2, Ora, Os7, Orh, Ori, Orm, Orb, Orc, CutN, Ord, Ore, Orf, Org, Orj, Oro, SxCv, Orn, Orp, Os8, Sto6, Sto7, BsG, InsG, DelG, StoG, LdP, St0, St0b, Os9, Osa, Osb, Ork, EqS, Orl, Orq, Orr, Osc, Osd, TabR, Tabs, Tb2, Hnd, SxArg, Laid, Laid2. -/
import Derived.Test.YteenjgfbbkdlhaaGreatDoorMOrderBare5
import Derived.Test.YteenjgfbbkdlhaaGreatDoorMOrderBare4
import Derived.Test.YteenjgfbbkdlhaaGreatDoorMOrderBare2
import Derived.Sort.Walk0
import Derived.Lib.Builder
import Derived.Shelf.Spec.SlicesInsert
import Derived.Shelf.Spec.SlicesInsertGrow
import Derived.Test.YteenjgfbbkdlhaaGreatDoorMOrderBare3
import Derived.Lib.LaidTab
import Derived.Handed
import Derived.Shelf.Vars
import Derived.Below
import Derived.OpenShut
import Derived.ChangeArms
import Derived.LaidMore
set_option linter.unusedVariables false
set_option linter.unusedSimpArgs false
namespace Go.Proofs.YteenjgfbbkdlhaaGreatDoor.Sx
open Go
attribute [local irreducible] Calls
structure RgOk (r : Rg) : Prop where
  rise : (r.ks.map (·.e)).Pairwise (· < ·)
  le : ∀ k ∈ r.ks, k.e ≤ r.epoch
  len : r.ks.length ≤ r.room
  room : r.room ≤ 8
  master : r.master.length ≤ 64
  ep : r.epoch < 98
def keyS : ByteArray := ⟨#[107, 101, 121, 32]⟩
def keyT (e : Nat) : ByteArray := keyS ++ decimS e
def Rg.more (r : Rg) (A : Option Addr) (c : Nat) (p : List UInt8) : Rg := { r with epoch := r.epoch + 1, ks := r.ks ++ [⟨r.epoch + 1, A, c, p⟩] }
def Rg.cut (r : Rg) : Rg := if r.room < r.ks.length then { r with ks := r.ks.tail } else r
theorem decS_size {u : Nat} (hu : u < 100) : (decimS u).size ≤ 2 := by
  have h : ∀ u : _root_.Fin 100, (decimS u.1).size ≤ 2 := by decide +kernel
  exact h ⟨u, hu⟩
theorem more_look {r : Rg} (hok : RgOk r) : ilook r.ml ((r.epoch + 1 : Nat) : Int) = none := by
  rw [Rg.ml, key_look]
  have : (r.ks.find? fun k => decide ((k.e : Int) = ((r.epoch + 1 : Nat) : Int))) = none := by
    refine List.find?_eq_none.2 fun k hk => ?_
    have := hok.le k hk
    simp
    omega
  rw [this]
  rfl
theorem iput_end : ∀ {l : MLI} {s : Int} {v : Value}, ilook l s = none → iput l s v = l ++ [(s, v)]
  | [], _, _, _ => rfl
  | (k, u) :: r, s, v, h => by
    simp only [ilook] at h
    split at h
    · cases h
    · rename_i hne
      simp only [iput, if_neg hne, List.cons_append]
      rw [iput_end h]
theorem more_rise {r : Rg} (hok : RgOk r) {A : Option Addr} {c : Nat} {p : List UInt8} : (r.more A c p).rise = (r.more A c p).es := by
  have h1 : ((r.ks ++ [(⟨r.epoch + 1, A, c, p⟩ : RKey)]).map (·.e)).Pairwise (· < ·) := by
    rw [List.map_append, List.pairwise_append]
    refine ⟨hok.rise, List.pairwise_singleton _ _, fun x hx y hy => ?_⟩
    obtain ⟨k, hk, rfl⟩ := List.mem_map.1 hx
    obtain rfl := List.mem_singleton.1 hy
    have := hok.le k hk
    show k.e < r.epoch + 1
    omega
  have h2 := List.pairwise_map.1 h1
  unfold Rg.rise
  refine List.mergeSort_of_pairwise (List.pairwise_map.2 (h2.imp fun {a b} q => ?_))
  simp
  omega
set_option maxHeartbeats 2000000 in
theorem rotate_c (w : World) (r : Rg) (B : Bx.Box) (y : Lay) (hok : RgOk r) (hts : y.ts.map (·.1) = B.L) (hi : BInv B) (hL : B.L.length < 4000) (hm : Mem w [rgF r, bxF r.bx B y, oddF 5, firstF 2]) :
    Con Tryz.prog n_ring_Ring_Rotate #[ptrR r.b] w [rgF r, bxF r.bx B y] fun v Fs => ∃ A c y', v = .tuple #[.int .u64 ((r.epoch + 1 : Nat) : Int), .int .i64 0] ∧ y'.ts.map (·.1) = (macB B r.master (keyT (r.epoch + 1)).data.toList).2.L ∧
      Fs = [rgF (r.more A c (macB B r.master (keyT (r.epoch + 1)).data.toList).1).cut, bxF r.bx (macB B r.master (keyT (r.epoch + 1)).data.toList).2 y'] := by
  have g := good_ring_Ring_Rotate w (Un [rgF r, bxF r.bx B y])
  have hml := maxLen_eq
  have hs0 : Sat (cx_ring_Ring_Rotate w (Un [rgF r, bxF r.bx B y])) Va.z 0 [] [rgF r, bxF r.bx B y, oddF 5, firstF 2] w := hm.sat0 rfl (ownIn (Gs := [rgF r, bxF r.bx B y]) (fun f hf => by
    simp only [List.mem_cons, List.not_mem_nil, or_false] at hf
    rcases hf with rfl | rfl <;> rfl))
  have hs1 := hs0.unsep 0 rfl
  obtain ⟨e, he⟩ : ∃ e, r.epoch = e := ⟨_, rfl⟩
  have hep := hok.ep
  have hma := hok.master
  refine con_of_sx (cx := cx_ring_Ring_Rotate w (Un [rgF r, bxF r.bx B y])) g b_ring_Ring_Rotate rfl rfl (β := Va.z) [.c (.v (ptrR r.b))] 0 [] _ rfl rfl hs1 ?_
  obtain ⟨x, hx⟩ : ∃ x : Int, (r.epoch : Int) = x := ⟨_, rfl⟩
  obtain ⟨x1, hx1⟩ : ∃ x1 : Int, ((r.epoch + 1 : Nat) : Int) = x1 := ⟨_, rfl⟩
  refine ⟨.int .u64 x, fun β w' hs => by rw [← hx]; exact cell_bk (hs.get 0 rfl) (o := 4) rfl, ?_⟩
  refine BIf.dec (fun h => absurd h (show ¬ (4294967296 : Int) ≤ x by omega)) (fun _ => ?_)
  refine ⟨.int .u64 x, fun β w' hs => by rw [← hx]; exact cell_bk (hs.get 0 rfl) (o := 4) rfl, ?_⟩
  refine ⟨x1, by rw [wrap_u64']; omega, ?_⟩
  refine ⟨_, fun β w' hs => hs.bkSet 0 (o := 4) (us := [.int .u64 x1]) rfl (by show 5 ≤ 5; decide) (one_mem rfl), ?_⟩
  have hds := decS_size (u := r.epoch + 1) (by omega)
  have hks : keyS.size = 4 := rfl
  have hkl : (keyT (r.epoch + 1)).data.toList.length ≤ 10 := by show (keyS ++ decimS (r.epoch + 1)).size ≤ 10; rw [ByteArray.size_append]; omega
  refine draw_rule g p_ring_Ring_Rotate_6 (by kernel_rfl) [⟨0, ty_ptr_ring_Ring, [.v (ptrR r.b)]⟩] [bkF r.b ty_ring_Ring (putAll r.vs 4 [.int .u64 x1])] (subPerm [0]) ?_
  refine ⟨.map (some r.m), fun β w' hs => cell_bk (hs.get 0 rfl) (o := 3) rfl, ?_⟩
  refine ⟨.int .u64 x1, fun β w' hs => cell_bk (hs.get 0 rfl) (o := 4) rfl, ?_⟩
  refine ⟨.pointer (some ⟨r.bx, 0, none⟩), fun β w' hs => cell_bk (hs.get 0 rfl) (o := 0) rfl, ?_⟩
  refine ⟨.slice r.mA r.master.length r.mc, fun β w' hs => cell_bk (hs.get 0 rfl) (o := 1) rfl, ?_⟩
  refine ⟨.int .u64 x1, fun β w' hs => cell_bk (hs.get 0 rfl) (o := 4) rfl, ?_⟩
  refine call_pu (v := .string (decimS (r.epoch + 1))) (fun β w' hs => by rw [← hx1]; exact fmtU_c w' (r.epoch + 1) (by omega)) ?_
  refine ⟨subPerm [0], ?_⟩
  refine ⟨by show keyS.size + (decimS (r.epoch + 1)).size ≤ maxLen; omega, ?_⟩
  intro bb cb hcb _
  refine ⟨subPerm [1], ?_⟩
  intro br
  refine ⟨subPerm [2], ?_⟩
  refine call_con [6] (R := outL (bxF r.bx) (macB B r.master (keyT (r.epoch + 1)).data.toList)) (fun β w' hs => by
    have h2 := (((hs.rowRd 0 rfl).unown 1 rfl).ro 3 rfl).part1 (l := (keyT (r.epoch + 1)).data.toList) [0, 1] rfl
    exact macL_c w' r.bx B y r.mA r.master r.mc br (some ⟨bb, 0, none⟩) (keyT (r.epoch + 1)).data.toList cb hts hi (by omega) (by omega) (by omega) (h2.mem.take (js := [7, 0, 4, 8, 9]) rfl)) ?_
  rintro v Fs ⟨A, c, y1, rfl, q1, q2, hts1, rfl⟩
  refine ⟨subPerm [4], ?_⟩
  generalize macB B r.master (keyT (r.epoch + 1)).data.toList = k at *
  obtain ⟨kp, kB⟩ := k
  simp only at q1 hts1
  refine ⟨_, fun _ => _, fun β w' hs => hs.mapPutIY g 6 rfl (t := ty_map_uint64_sl_uint8) x1 (.slice A kp.length c), fun _ => ?_⟩
  refine ⟨subPerm [4], ?_⟩
  rw [show iput r.ml x1 (.slice A kp.length c) = (r.more A c kp).ml from by rw [iput_end (by rw [← hx1]; exact more_look hok)]; simp [Rg.ml, Rg.more, RKey.v, ← hx1]]
  have hx1' : x1 = ((r.more A c kp).epoch : Int) := hx1.symm
  have e1 : rgF (r.more A c kp) = sepF [bkF r.b ty_ring_Ring (putAll r.vs 4 [.int .u64 x1]), browF ty_uint8 r.mA r.master r.mc, mapIF .u64 r.m (r.more A c kp).ml, sepF (r.ks.map RKey.f ++ [browF ty_uint8 A kp c])] := by
    rw [hx1']
    unfold rgF
    simp [Rg.more, Rg.vs, putAll, putAt_eq, RKey.f]
  refine call_con [] (fun β w' hs => epochs_c w' (r.more A c kp)) ?_
  rintro v Fs ⟨bx2, rfl, rfl⟩
  refine range_rule (α := Int) (ι := Unit) (κ := Unit) g rfl (cv := [.pointer (some ⟨bx2, 0, none⟩)]) rfl (by kernel_rfl) 1 (Nat.le_refl 1)
    (fun pre _ => pre = []) (fun _ => [⟨0, ty_ptr_ring_Ring, [.v (ptrR r.b)]⟩]) (fun _ => [bxF r.bx kB y1]) (fun i => ⟨rfl, trivial⟩)
    (fun e _ _ => e = .exit 1) (fun _ => [⟨0, ty_ptr_ring_Ring, [.v (ptrR r.b)]⟩]) (fun _ => [rgF (r.more A c kp).cut, bxF r.bx kB y1]) (fun _ => ⟨rfl, rfl, trivial⟩)
    [bkF bx2 ty_ptr_ring_Ring [ptrR r.b], rgF (r.more A c kp)] [] [] ⟨rfl, rfl, trivial⟩ (fun g h => by cases h) () rfl
    (fun β w hs => ⟨β, Agr.refl _ _, by
      have h2 := hs.blur 1 8 (A := r.ks.map RKey.f) (B := []) (x := browF ty_uint8 A kp c) rfl (by show some (sepF (r.ks.map RKey.f)) = _; rw [List.append_nil]) rfl (by decide)
      have h3 := h2.sep [5, 6, 7, 0] rfl ⟨rfl, rfl, rfl, rfl, trivial⟩
      rw [e1]
      exact h3.perm [1, 0, 2]⟩) (insE (r.more A c kp) (r.more A c kp).rise)
    (fun xs Fs' => xs = (r.more A c kp).rise ∧ Fs' = onFst (r.more A c kp).rise [rgF (r.more A c kp)] []) (fun _ Fs' => Fs' = [])
    (fun l w f0 R J Jx hJ0 hJo hRo hY hm => (ep_it l w bx2 (r.more A c kp) f0 R J Jx (by have h1 := hok.len; have h2 := hok.room; show (r.ks ++ [_]).length ≤ 12; rw [List.length_append]; show r.ks.length + 1 ≤ 12; omega) hJ0 hJo hRo hY hm).mono fun _ Fs h => by
      obtain ⟨f, Fs', e0, h⟩ := h
      refine ⟨f, Fs', e0, ?_⟩
      rcases h with ⟨xs, a1, a2, a3⟩ | ⟨pre, a1, a2⟩
      · exact .inl ⟨xs, a1, a2, a3⟩
      · exact .inr ⟨pre, a1, a2⟩) ?_ ?_ ?_
  · rintro ⟨⟩ pre x args X W S' lb bs pn pn' hbs rfl ⟨rfl, rfl, hx0⟩
    refine ⟨_, rfl, ?_⟩
    obtain ⟨rm, hrm⟩ : ∃ rm : Int, (r.room : Int) = rm := ⟨_, rfl⟩
    refine draw_rule (rcx_good g) p_ring_Ring_Rotate_9 (by kernel_rfl) [⟨0, ty_ptr_ring_Ring, [.v (ptrR r.b)]⟩] [rgF (r.more A c kp)] (subPerm [0]) ?_
    refine ⟨.map (some r.m), fun β w' hs => cell_bk (rg_bk (hs.get 0 rfl)) (o := 3) rfl, ?_⟩
    refine ⟨(r.more A c kp).ml, fun β w' hs => rg_map (hs.get 0 rfl), ?_⟩
    refine ⟨.int .i64 rm, fun β w' hs => by rw [← hrm]; exact cell_bk (rg_bk (hs.get 0 rfl)) (o := 2) rfl, ?_⟩
    have hmll : (r.more A c kp).ml.length = (r.more A c kp).ks.length := by rw [Rg.ml, List.length_map]
    refine BIf.dec (fun hgt => ?_) (fun hle => ?_)
    · have hgt0 : rm < ((r.more A c kp).ml.length : Int) := hgt
      have hcut : (r.more A c kp).cut = { (r.more A c kp) with ks := (r.more A c kp).ks.tail } := by
        unfold Rg.cut
        rw [if_pos (by show r.room < _; omega)]
      refine ⟨.map (some r.m), fun β w' hs => cell_bk (rg_bk (hs.get 0 rfl)) (o := 3) rfl, ?_⟩
      obtain ⟨k0, t, hkt⟩ : ∃ k0 t, (r.more A c kp).ks = k0 :: t := by
        cases hq : (r.more A c kp).ks with
        | nil =>
          have h2 : (r.more A c kp).ks.length = r.ks.length + 1 := by show (r.ks ++ [_]).length = _; rw [List.length_append]; rfl
          rw [hq] at h2
          cases h2
        | cons k0 t => exact ⟨k0, t, rfl⟩
      have hxk : x = (k0.e : Int) := by
        rw [more_rise hok, Rg.es, hkt] at hx0
        exact (Option.some.inj hx0).symm
      have hdel : idel (r.more A c kp).ml x = (r.more A c kp).cut.ml := by
        rw [hcut, Rg.ml, Rg.ml, hkt, hxk]
        simp [idel]
      refine ⟨[⟨0, ty_ptr_ring_Ring, [.v (ptrR r.b)]⟩], [rgF (r.more A c kp).cut, bxF r.bx kB y1], .c (.v (.tuple #[])), fun β w' ty hs => ?_, trivial, ?_⟩
      · have h1 := Sat.unsep hs 0 rfl
        obtain ⟨w2, f1, f2⟩ := h1.mapDelI (rcx_good g) 2 rfl (t := ty_map_uint64_sl_uint8) (tk := ty_uint64) x ty _
        refine ⟨w2, f1, ?_⟩
        have h3 := f2.fuse [3] (sepF ((r.more A c kp).cut.ks.map RKey.f)) (fun w hm => by
          have h := hm.fact (sepF ((r.more A c kp).ks.map RKey.f)) List.mem_cons_self
          rw [hkt] at h
          rw [hcut, hkt]
          exact ⟨fun f hf => h.1 f (List.mem_cons_of_mem _ hf), (List.pairwise_cons.1 h.2).2⟩) (fun k hk => by
          refine ⟨sepF ((r.more A c kp).ks.map RKey.f), List.mem_cons_self, ?_⟩
          rw [hcut, hkt] at hk
          rw [hkt]
          obtain ⟨f, hf, hk⟩ := hk
          exact ⟨f, List.mem_cons_of_mem _ hf, hk⟩)
        have h4 := h3.sep [1, 2, 3, 0] rfl ⟨rfl, rfl, rfl, rfl, trivial⟩
        have e2 : rgF (r.more A c kp).cut = sepF [bkF (r.more A c kp).b ty_ring_Ring (r.more A c kp).vs, browF ty_uint8 (r.more A c kp).mA (r.more A c kp).master (r.more A c kp).mc, mapIF .u64 (r.more A c kp).m (idel (r.more A c kp).ml x), sepF ((r.more A c kp).cut.ks.map RKey.f)] := by
          rw [hdel]
          unfold rgF
          rw [hcut]
          rfl
        rw [e2]
        exact h4
      · exact ⟨(), rfl, Ent.mk' trivial rfl (fun β w hs => hs)⟩
    · have hle0 : ¬ rm < ((r.more A c kp).ml.length : Int) := hle
      have hcut : (r.more A c kp).cut = r.more A c kp := by
        unfold Rg.cut
        rw [if_neg (by show ¬ r.room < _; omega)]
      exact ⟨(), rfl, Ent.mk' trivial rfl (fun β w hs => by rw [hcut]; exact hs)⟩
  · rintro xs ⟨⟩ Fs rfl ⟨hxs, rfl⟩
    exfalso
    have h1 : (r.more A c kp).rise.length = (r.more A c kp).ks.length := by rw [Rg.rise, List.length_mergeSort, Rg.es, List.length_map]
    rw [← hxs] at h1
    have h2 : (r.more A c kp).ks.length = r.ks.length + 1 := by show (r.ks ++ [_]).length = _; rw [List.length_append]; rfl
    rw [h2] at h1
    cases h1
  · rintro e' pre ⟨⟩ Fs rfl rfl
    have hcb : (r.more A c kp).cut.b = r.b := by unfold Rg.cut; split <;> rfl
    have hcv : (r.more A c kp).cut.vs = (r.more A c kp).vs := by unfold Rg.cut; split <;> rfl
    refine ⟨.int .u64 x1, fun β w' hs => ?_, ?_⟩
    · have h := rg_bk (hs.get 0 rfl)
      rw [hcb, hcv] at h
      rw [← hx1]
      exact cell_bk h (o := 4) rfl
    intro β w' hs
    rw [← hx1] at *
    exact (hs.keepB (List.nil_sublist _)).fin [0, 1] ⟨A, c, y1, rfl, hts1, rfl⟩
end Go.Proofs.YteenjgfbbkdlhaaGreatDoor.Sx

namespace Go.Proofs.YteenjgfbbkdlhaaGreatDoor.Sx
open Go
theorem tri_sat {cx : Cx} {c : Code} {Q : Exit → KT} {n : Nat} {env : Env} {H : List Bk} {F F' : List Fact} (hS : ∀ β w, Sat cx β n H F w → Sat cx β n H F' w) (h : Tri cx c Q n env H F') : Tri cx c Q n env H F :=
  ⟨fun β a w hi => h.run β a w ⟨hi.ag, hi.size, hi.df, hi.lte, hS β w hi.sat⟩⟩
theorem reify_tri {cx : Cx} {c : Code} {Q : Exit → KT} {n : Nat} {env : Env} {H : List Bk} {F : List Fact} (id : Nat) {ty : TypeId} {cs : List SL} (vs : Nat → List Value) (h1 : tyAt H id = some ty) (h2 : cellsAt H id = some cs) (h3 : ∀ b, allV (cs.map (SL.re id b)) = some (vs b))
    (h : ∀ b, Tri cx c Q n (envRe id b env) (bksRe id b H) (bkF b ty (vs b) :: F)) : Tri cx c Q n env H F :=
  tri_join (ι := Nat) (fun _ => True) n (fun b => envRe id b env) (fun b => bksRe id b H) (fun b => bkF b ty (vs b) :: F) (fun b _ => h b) (EntX.reify id vs h1 h2 h3 (fun b => EntX.of b trivial ⟨fun β a w hi => ⟨β, rfl, rfl, hi⟩⟩))
end Go.Proofs.YteenjgfbbkdlhaaGreatDoor.Sx

namespace Go.Proofs.YteenjgfbbkdlhaaGreatDoor.Sx
open Go
attribute [local irreducible] Calls
theorem more_ok {r : Rg} (hok : RgOk r) (hep : r.epoch + 1 < 98) {A : Option Addr} {c : Nat} {p : List UInt8} : RgOk (r.more A c p).cut := by
  have h1 : ((r.ks ++ [(⟨r.epoch + 1, A, c, p⟩ : RKey)]).map (·.e)).Pairwise (· < ·) := by
    rw [List.map_append, List.pairwise_append]
    refine ⟨hok.rise, List.pairwise_singleton _ _, fun x hx y hy => ?_⟩
    obtain ⟨k, hk, rfl⟩ := List.mem_map.1 hx
    obtain rfl := List.mem_singleton.1 hy
    have := hok.le k hk
    show k.e < r.epoch + 1
    omega
  have h2 : ∀ k ∈ r.ks ++ [(⟨r.epoch + 1, A, c, p⟩ : RKey)], k.e ≤ r.epoch + 1 := by
    intro k hk
    rcases List.mem_append.1 hk with hk | hk
    · have := hok.le k hk
      omega
    · obtain rfl := List.mem_singleton.1 hk
      exact Nat.le_refl _
  have h3 : (r.ks ++ [(⟨r.epoch + 1, A, c, p⟩ : RKey)]).length = r.ks.length + 1 := by rw [List.length_append]; rfl
  have hl := hok.len
  unfold Rg.cut
  split
  · refine ⟨?_, fun k hk => h2 k (List.mem_of_mem_tail hk), ?_, hok.room, hok.master, hep⟩
    · show (((r.ks ++ [(⟨r.epoch + 1, A, c, p⟩ : RKey)]).tail).map (·.e)).Pairwise (· < ·)
      exact h1.sublist ((List.tail_sublist _).map _)
    · show ((r.ks ++ [(⟨r.epoch + 1, A, c, p⟩ : RKey)]).tail).length ≤ r.room
      rw [List.length_tail, h3]
      omega
  · rename_i hn
    have hn2 : ¬ r.room < (r.ks ++ [(⟨r.epoch + 1, A, c, p⟩ : RKey)]).length := hn
    exact ⟨h1, h2, by show (r.ks ++ [(⟨r.epoch + 1, A, c, p⟩ : RKey)]).length ≤ r.room; omega, hok.room, hok.master, hep⟩
def ring0 (b bx : Nat) (mA : Option Addr) (mc : Nat) (master : List UInt8) (room m : Nat) : Rg := ⟨b, bx, mA, mc, master, room, m, [], 0⟩
theorem newR_c (w : World) (bx : Nat) (B : Bx.Box) (y : Lay) (M : Option Addr) (master : List UInt8) (cM room : Nat) (h1 : 1 ≤ master.length) (h2 : master.length ≤ 64) (h3 : 1 ≤ room) (h4 : room ≤ 8) (hts : y.ts.map (·.1) = B.L) (hi : BInv B) (hL : B.L.length < 4000) (hm : Mem w [bxF bx B y, bsF M master, oddF 5, firstF 2]) :
    Con Tryz.prog n_ring_New #[ptrB bx, .slice M master.length cM, .int .i64 (room : Int)] w [bxF bx B y] fun v Fs => ∃ b mA mc m A c y', v = .tuple #[ptrR b, .int .i64 0] ∧ y'.ts.map (·.1) = (macB B master (keyT 1).data.toList).2.L ∧
      Fs = [rgF ((ring0 b bx mA mc master room m).more A c (macB B master (keyT 1).data.toList).1).cut, bxF bx (macB B master (keyT 1).data.toList).2 y'] := by
  have g := good_ring_New w (Un [bxF bx B y])
  have hml := maxLen_eq
  have hs0 : Sat (cx_ring_New w (Un [bxF bx B y])) Va.z 0 [] [bxF bx B y, bsF M master, oddF 5, firstF 2] w := hm.sat0 rfl (ownIn (Gs := [bxF bx B y]) (fun f hf => by
    simp only [List.mem_cons, List.not_mem_nil, or_false] at hf
    rcases hf with rfl | rfl | rfl <;> rfl))
  obtain ⟨rm, hrm⟩ : ∃ rm : Int, (room : Int) = rm := ⟨_, rfl⟩
  rw [hrm]
  refine con_of_tri (cx := cx_ring_New w (Un [bxF bx B y])) g b_ring_New rfl rfl (β := Va.z) [.c (.v (ptrB bx)), .c (.v (.slice M master.length cM)), .c (.v (.int .i64 rm))] 0 [] _ rfl rfl hs0 ?_
  refine tri_seq g ?_
  refine tri_seq g ?_
  refine BIf.dec (fun h => absurd h (show ¬ (master.length : Int) < 1 by omega)) (fun _ => ?_)
  refine BIf.dec (fun h => absurd h (show ¬ (64 : Int) < (master.length : Int) by omega)) (fun _ => ?_)
  refine BIf.dec (fun h => absurd h (show ¬ rm < 1 by omega)) (fun _ => ?_)
  refine BIf.dec (fun h => absurd h (show ¬ (8 : Int) < rm by omega)) (fun _ => ?_)
  refine tri_seq g ?_
  refine call_con [] (fun β w' hs => clone_c w' M master cM (hs.get 1 rfl) (by omega)) ?_
  rintro v Fs ⟨mA, mc, rfl, q1, q2, rfl⟩
  intro m
  refine reify_tri 0 (fun _ => [.pointer (some ⟨bx, 0, none⟩), .slice mA master.length mc, .int .i64 rm, .map (some m), .int .u64 0]) rfl rfl (fun _ => rfl) (fun rb => ?_)
  refine tri_sat (F' := [rgF (ring0 rb bx mA mc master room m), bxF bx B y, oddF 5, firstF 2]) (fun β w' hs => by
    have h1 := (hs.emptyI (kk := .u64) 1 rfl).noMem (sepF []) ⟨fun f hf => (by cases hf), List.Pairwise.nil⟩ (fun k hk => by obtain ⟨f, hf, _⟩ := hk; cases hf)
    have h2 := h1.sep [1, 3, 2, 0] rfl ⟨rfl, rfl, rfl, rfl, trivial⟩
    have e : rgF (ring0 rb bx mA mc master room m) = sepF [bkF rb ty_ring_Ring [.pointer (some ⟨bx, 0, none⟩), .slice mA master.length mc, .int .i64 rm, .map (some m), .int .u64 0], browF ty_uint8 mA master mc, mapIF .u64 m [], sepF []] := by
      rw [← hrm]
      rfl
    rw [e]
    exact h2.perm [0, 1, 3, 4]) ?_
  have hok : RgOk (ring0 rb bx mA mc master room m) := ⟨List.Pairwise.nil, fun k hk => (by cases hk), Nat.zero_le _, h4, h2, by show 0 < 98; decide⟩
  refine tri_seq g ?_
  refine call_con [0, 1] (fun β w' hs => rotate_c w' (ring0 rb bx mA mc master room m) B y hok hts hi hL (hs.mem.take (js := [0, 1, 2, 3]) rfl)) ?_
  rintro v Fs ⟨A, c, y', rfl, hts', rfl⟩
  refine tri_seq g ?_
  refine tri_of g ?_
  intro β w' hs
  exact (hs.keepB (List.nil_sublist _)).fin [0, 1] ⟨rb, mA, mc, m, A, c, y', rfl, hts', rfl⟩
def Rg.drop (r : Rg) (e : Int) : Rg := { r with ks := r.ks.eraseP fun k => decide ((k.e : Int) = e) }
theorem rot0_c (w : World) : Pu Tryz.prog n_ring_Ring_Rotate #[.pointer none] w (.tuple #[.int .u64 0, .int .i64 6]) := by
  refine con_of_sx (cx := cx_ring_Ring_Rotate w (Un [])) (good_ring_Ring_Rotate w (Un [])) b_ring_Ring_Rotate rfl rfl (β := Va.z) [.c (.v (.pointer none))] 0 [] [] rfl rfl (Sat.start rfl) ?_
  intro β w' hs
  exact (hs.keepB (List.nil_sublist _)).fin [] ⟨rfl, rfl⟩
theorem key0_c (w : World) (e : Int) : Pu Tryz.prog n_ring_Ring_Key #[.pointer none, .int .u64 e] w (.tuple #[.slice none 0 0, .int .i64 6]) := by
  refine con_of_sx (cx := cx_ring_Ring_Key w (Un [])) (good_ring_Ring_Key w (Un [])) b_ring_Ring_Key rfl rfl (β := Va.z) [.c (.v (.pointer none)), .c (.v (.int .u64 e))] 0 [] [] rfl rfl (Sat.start rfl) ?_
  intro β w' hs
  exact hs.fin [] ⟨rfl, rfl⟩
theorem retire0_c (w : World) (e : Int) : Pu Tryz.prog n_ring_Ring_Retire #[.pointer none, .int .u64 e] w (.int .i64 6) := by
  refine con_of_sx (cx := cx_ring_Ring_Retire w (Un [])) (good_ring_Ring_Retire w (Un [])) b_ring_Ring_Retire rfl rfl (β := Va.z) [.c (.v (.pointer none)), .c (.v (.int .u64 e))] 0 [] [] rfl rfl (Sat.start rfl) ?_
  refine call_pu (fun β w' hs => key0_c w' e) ?_
  intro β w' hs
  exact hs.fin [] ⟨rfl, rfl⟩
end Go.Proofs.YteenjgfbbkdlhaaGreatDoor.Sx

namespace Go.Proofs.YteenjgfbbkdlhaaGreatDoor.Sx
open Go
structure Pre (B B' : Bx.Box) : Prop where
  sym : B'.sym = B.sym
  full : B'.full = B.full
  terms : ∃ l, B'.L = B.L ++ l
theorem Pre.refl (B : Bx.Box) : Pre B B := ⟨rfl, rfl, [], by simp⟩
theorem Pre.trans {A B C : Bx.Box} (h : Pre A B) (k : Pre B C) : Pre A C := by
  obtain ⟨l, hl⟩ := h.terms
  obtain ⟨m, hm⟩ := k.terms
  exact ⟨k.sym.trans h.sym, k.full.trans h.full, l ++ m, by rw [hm, hl, List.append_assoc]⟩
theorem opens_app {h : List UInt8} {r : List Nat × List UInt8} : ∀ (l : List Bx.Term) {B : Bx.Box}, B.opens h = some r → ({ B with L := B.L ++ l } : Bx.Box).opens h = some r
  | [], B, e => by rw [List.append_nil]; exact e
  | t :: l, B, e => by
    have h1 := opens_app l (opens_grow (t := t) e)
    simp only [List.append_assoc, List.cons_append, List.nil_append] at h1
    exact h1
theorem Pre.opens {B B' : Bx.Box} (h : Pre B B') {t : List UInt8} {r : List Nat × List UInt8} (e : B.opens t = some r) : B'.opens t = some r := by
  obtain ⟨l, hl⟩ := h.terms
  have h1 := opens_app l e
  have e2 : B' = { B with L := B.L ++ l } := by
    obtain ⟨s, f, L⟩ := B'
    have a := h.sym
    have b := h.full
    simp only at a b hl
    subst a b hl
    rfl
  rw [e2]
  exact h1
structure Kept (r : Rg) (k t : Nat) (k1 : List UInt8) : Prop where
  ok : RgOk r
  rm : r.room = k
  ep : r.epoch = t + 1
  p32 : ∀ q ∈ r.ks, q.p.length = 32
  lo : t < k → ∃ A c ks, r.ks = ⟨1, A, c, k1⟩ :: ks ∧ ks.length = t
  hi : k ≤ t → r.ks.length = k ∧ ∀ q ∈ r.ks, 1 < q.e
  eslo : t < k → r.ks.map (·.e) = List.range' 1 (t + 1)
  eshi : k ≤ t → r.ks.map (·.e) = List.range' (t + 2 - k) k
theorem Kept.p {r : Rg} {k t : Nat} {k1 : List UInt8} (h : Kept r k t k1) : ∀ q ∈ r.ks, q.p.length ≤ 1000 := fun q hq => by rw [h.p32 q hq]; decide
theorem kept_new {b bx : Nat} {mA : Option Addr} {mc : Nat} {master : List UInt8} {room m : Nat} {A : Option Addr} {c : Nat} {p : List UInt8} (h2 : master.length ≤ 64) (h3 : 1 ≤ room) (h4 : room ≤ 8) (hp : p.length = 32) : Kept ((ring0 b bx mA mc master room m).more A c p).cut room 0 p := by
  have hok : RgOk (ring0 b bx mA mc master room m) := ⟨List.Pairwise.nil, fun k hk => (by cases hk), Nat.zero_le _, h4, h2, by show 0 < 98; decide⟩
  have e : ((ring0 b bx mA mc master room m).more A c p).cut = (ring0 b bx mA mc master room m).more A c p := by
    unfold Rg.cut
    rw [if_neg]
    show ¬ room < 1
    omega
  refine ⟨more_ok hok (by show 0 + 1 < 98; decide), ?_, ?_, ?_, ?_, fun h => absurd h (by omega), fun _ => by rw [e]; rfl, fun h => absurd h (by omega)⟩
  · rw [e]; rfl
  · rw [e]; rfl
  · rw [e]
    intro q hq
    have hq' : q ∈ [(⟨1, A, c, p⟩ : RKey)] := hq
    obtain rfl := List.mem_singleton.1 hq'
    exact hp
  · intro _
    rw [e]
    exact ⟨A, c, [], rfl, rfl⟩
theorem cut_room (r : Rg) : r.cut.room = r.room := by unfold Rg.cut; split <;> rfl
theorem cut_epoch (r : Rg) : r.cut.epoch = r.epoch := by unfold Rg.cut; split <;> rfl
theorem cut_bx (r : Rg) : r.cut.bx = r.bx := by unfold Rg.cut; split <;> rfl
theorem cut_b (r : Rg) : r.cut.b = r.b := by unfold Rg.cut; split <;> rfl
theorem cut_master (r : Rg) : r.cut.master = r.master := by unfold Rg.cut; split <;> rfl
theorem cut_mem {r : Rg} {q : RKey} (h : q ∈ r.cut.ks) : q ∈ r.ks := by
  unfold Rg.cut at h
  split at h
  · exact List.mem_of_mem_tail h
  · exact h
theorem Kept.next {r : Rg} {k t : Nat} {k1 : List UInt8} (h : Kept r k t k1) (hk : 1 ≤ k) (ht : t < 90) {A : Option Addr} {c : Nat} {p : List UInt8} (hp : p.length = 32) : Kept (r.more A c p).cut k (t + 1) k1 := by
  have hrm := h.rm
  have hep := h.ep
  have hlen : (r.more A c p).ks.length = r.ks.length + 1 := by show (r.ks ++ [_]).length = _; rw [List.length_append]; rfl
  have hroom : (r.more A c p).room = k := hrm
  have hme : (r.more A c p).ks.map (·.e) = r.ks.map (·.e) ++ [t + 2] := by show (r.ks ++ [(⟨r.epoch + 1, A, c, p⟩ : RKey)]).map (·.e) = _; rw [List.map_append, hep]; rfl
  refine ⟨more_ok h.ok (by omega), by rw [cut_room]; exact hrm, by rw [cut_epoch]; show r.epoch + 1 = _; omega, ?_, ?_, ?_, ?_, ?_⟩
  · intro q hq
    have hq' : q ∈ r.ks ++ [(⟨r.epoch + 1, A, c, p⟩ : RKey)] := cut_mem hq
    rcases List.mem_append.1 hq' with hq' | hq'
    · exact h.p32 q hq'
    · obtain rfl := List.mem_singleton.1 hq'
      exact hp
  · intro hlt
    obtain ⟨A0, c0, ks, e, hl⟩ := h.lo (by omega)
    have hcut : (r.more A c p).cut = r.more A c p := by
      unfold Rg.cut
      rw [if_neg]
      rw [hlen, e, hroom, List.length_cons]
      omega
    rw [hcut]
    exact ⟨A0, c0, ks ++ [⟨r.epoch + 1, A, c, p⟩], by show r.ks ++ _ = _; rw [e]; rfl, by rw [List.length_append, hl]; rfl⟩
  · intro hge
    have hl : r.ks.length = k := by
      rcases Nat.lt_or_ge t k with hlt | hge2
      · obtain ⟨A0, c0, ks, e, hl⟩ := h.lo hlt
        rw [e, List.length_cons]
        omega
      · exact (h.hi hge2).1
    have hcut : (r.more A c p).cut = { r.more A c p with ks := (r.more A c p).ks.tail } := by
      unfold Rg.cut
      rw [if_pos (by rw [hlen, hroom]; omega)]
    rw [hcut]
    refine ⟨by show (r.more A c p).ks.tail.length = k; rw [List.length_tail, hlen]; omega, fun q hq => ?_⟩
    have hq' : q ∈ (r.ks ++ [(⟨r.epoch + 1, A, c, p⟩ : RKey)]).tail := hq
    have hrise := h.ok.rise
    have hr0 : r.ks ≠ [] := by intro e; rw [e] at hl; simp at hl; omega
    rw [List.tail_append_of_ne_nil hr0] at hq'
    rcases List.mem_append.1 hq' with hq' | hq'
    · rcases Nat.lt_or_ge t k with hlt | hge2
      · obtain ⟨A0, c0, ks, e, hl⟩ := h.lo hlt
        rw [e] at hq' hrise
        rw [List.map_cons, List.pairwise_cons] at hrise
        exact hrise.1 q.e (List.mem_map.2 ⟨q, hq', rfl⟩)
      · exact (h.hi hge2).2 q (List.mem_of_mem_tail hq')
    · obtain rfl := List.mem_singleton.1 hq'
      show 1 < r.epoch + 1
      omega
  · intro hlt
    obtain ⟨A0, c0, ks, e, hl⟩ := h.lo (by omega)
    have hcut : (r.more A c p).cut = r.more A c p := by
      unfold Rg.cut
      rw [if_neg]
      rw [hlen, e, hroom, List.length_cons]
      omega
    rw [hcut, hme, h.eslo (by omega), List.range'_concat (n := t + 1)]
    simp
    omega
  · intro hge
    have hl : r.ks.length = k := by
      rcases Nat.lt_or_ge t k with hlt | hge2
      · obtain ⟨A0, c0, ks, e, hl⟩ := h.lo hlt
        rw [e, List.length_cons]
        omega
      · exact (h.hi hge2).1
    have hcut : (r.more A c p).cut = { r.more A c p with ks := (r.more A c p).ks.tail } := by
      unfold Rg.cut
      rw [if_pos (by rw [hlen, hroom]; omega)]
    rw [hcut]
    show (r.more A c p).ks.tail.map (·.e) = _
    rw [List.map_tail, hme]
    obtain ⟨s, hs, e⟩ : ∃ s, s + k = t + 2 ∧ r.ks.map (·.e) = List.range' s k := by
      rcases Nat.lt_or_ge t k with hlt | hge2
      · obtain rfl : t + 1 = k := by omega
        exact ⟨1, by omega, h.eslo hlt⟩
      · exact ⟨t + 2 - k, by omega, h.eshi hge2⟩
    have e2 : List.range' s k ++ [t + 2] = List.range' s (k + 1) := by
      rw [List.range'_concat]
      simp
      omega
    rw [e, e2, List.range'_succ, List.tail_cons]
    congr 1
    omega
theorem Kept.key {r : Rg} {k t : Nat} {k1 : List UInt8} (h : Kept r k t k1) (hlt : t < k) : ∃ q, r.key 1 = some q ∧ q.p = k1 := by
  obtain ⟨A, c, ks, e, _⟩ := h.lo hlt
  exact ⟨⟨1, A, c, k1⟩, by unfold Rg.key; rw [e]; rfl, rfl⟩
end Go.Proofs.YteenjgfbbkdlhaaGreatDoor.Sx

namespace Go.Proofs.YteenjgfbbkdlhaaGreatDoor.Sx
open Go
attribute [local irreducible] Calls
structure Dk where
  b : Nat
  rb : Nat
  life : Nat
  serial : Nat
  m1 : Nat
  m2 : Nat
  «to» : MLI
  rv : MLI
def Dk.vs (d : Dk) : List Value := [ptrR d.rb, .int .u64 (d.life : Int), .int .u64 (d.serial : Int), .map (some d.m1), .map (some d.m2)]
def dkF (d : Dk) : Fact := sepF [bkF d.b ty_ticket_Desk d.vs, mapIF .u64 d.m1 d.to, mapIF .u64 d.m2 d.rv]
def ptrD (b : Nat) : Value := .pointer (some ⟨b, 0, none⟩)
theorem newDesk_c (w : World) (rb life : Nat) : Con Tryz.prog n_ticket_NewDesk #[ptrR rb, .int .u64 (life : Int)] w [] fun v Fs => (1 ≤ life ∧ life ≤ 1099511627776 ∧ ∃ b m1 m2, v = .tuple #[ptrD b, .int .i64 0] ∧ Fs = [dkF ⟨b, rb, life, 0, m1, m2, [], []⟩]) ∨ (¬ (1 ≤ life ∧ life ≤ 1099511627776) ∧ v = .tuple #[.pointer none, .int .i64 1] ∧ Fs = []) := by
  have g := good_ticket_NewDesk w (Un [])
  refine con_of_sx (cx := cx_ticket_NewDesk w (Un [])) g b_ticket_NewDesk rfl rfl (β := Va.z) [.c (.v (ptrR rb)), .c (.v (.int .u64 (life : Int)))] 0 [] [] rfl rfl (Sat.start rfl) ?_
  refine BIf.dec (fun h1 => ?_) (fun h1 => ?_)
  · have h10 : (life : Int) < 1 := h1
    intro β w' hs
    exact hs.fin [] (.inr ⟨by omega, rfl, rfl⟩)
  have h10 : ¬ (life : Int) < 1 := h1
  refine BIf.dec (fun h2 => ?_) (fun h2 => ?_)
  · have h20 : (life : Int) > 1099511627776 := h2
    intro β w' hs
    exact hs.fin [] (.inr ⟨by omega, rfl, rfl⟩)
  have h20 : ¬ (life : Int) > 1099511627776 := h2
  intro b1 b2 β w' hs
  have k1 := (((hs.emptyI (kk := .u64) 0 rfl).emptyI (kk := .u64) 1 rfl).ofBk).sep [0, 2, 1] rfl ⟨rfl, rfl, rfl, trivial⟩
  exact k1.fin [0] (.inl ⟨by omega, by omega, β 0, b1, b2, rfl, rfl⟩)
theorem box0i (sym : Bool) : BInv ⟨sym, false, []⟩ := ⟨fun _ q => (by cases q), List.nodup_nil, fun _ q => (by cases q), fun _ => rfl, Nat.zero_le _⟩
theorem keyT_len {e : Nat} (he : e < 100) : (keyT e).data.toList.length ≤ 10 := by
  have hds := decS_size he
  have hks : keyS.size = 4 := rfl
  show (keyS ++ decimS e).size ≤ 10
  rw [ByteArray.size_append]
  omega
theorem newK_c (w : World) (bx : Nat) (B : Bx.Box) (y : Lay) (M : Option Addr) (master : List UInt8) (cM room : Nat) (h1 : 1 ≤ master.length) (h2 : master.length ≤ 64) (h3 : 1 ≤ room) (h4 : room ≤ 8) (hts : y.ts.map (·.1) = B.L) (hi : BInv B) (hL : B.L.length < 4000) (hm : Mem w [bxF bx B y, bsF M master, oddF 5, firstF 2]) :
    Con Tryz.prog n_ring_New #[ptrB bx, .slice M master.length cM, .int .i64 (room : Int)] w [bxF bx B y] fun v Fs => ∃ (r : Rg) (y' : Lay), v = .tuple #[ptrR r.b, .int .i64 0] ∧ r.bx = bx ∧ r.master = master ∧ Kept r room 0 (macB B master (keyT 1).data.toList).1 ∧ GoodT B (macB B master (keyT 1).data.toList) ∧ y'.ts.map (·.1) = (macB B master (keyT 1).data.toList).2.L ∧
      Fs = [rgF r, bxF bx (macB B master (keyT 1).data.toList).2 y'] := by
  have hg := mac_good hi (by omega) (k := master) (t := (keyT 1).data.toList) (by omega) (Nat.le_trans (keyT_len (by decide)) (by decide))
  refine (newR_c w bx B y M master cM room h1 h2 h3 h4 hts hi hL hm).mono fun v Fs h => ?_
  obtain ⟨b, mA, mc, m, A, c, y', rfl, hy, rfl⟩ := h
  exact ⟨_, y', by rw [cut_b]; rfl, by rw [cut_bx]; rfl, by rw [cut_master]; rfl, kept_new h2 h3 h4 hg.2.1, hg, hy, rfl⟩
end Go.Proofs.YteenjgfbbkdlhaaGreatDoor.Sx

namespace Go.Proofs.YteenjgfbbkdlhaaGreatDoor.Sx
open Go
attribute [local irreducible] Calls
noncomputable def cx0 (w : World) (S : Nat → Prop) : Cx := ⟨Tryz.prog, w, S, 0, [], [], [], none, []⟩
theorem Sat.recut {cx : Cx} {β : Va} {n : Nat} {H : List Bk} {F : List Fact} {w : World} (h : Sat cx β n H F w) (js : List Nat) {F0 Fs : List Fact} (hre : Sat (cx0 w (Un F0)) Va.z 0 [] F0 w → Sat (cx0 w (Un F0)) Va.z 0 [] Fs w)
    (htk : takeIx F js = F0 := by rfl) (hn : nodupB js = true := by rfl) (ho : Owns F0 := by first | exact ⟨rfl, trivial⟩ | exact ⟨rfl, rfl, trivial⟩ | exact ⟨rfl, rfl, rfl, trivial⟩ | exact ⟨rfl, rfl, rfl, rfl, trivial⟩) (ho' : Owns Fs := by first | exact ⟨rfl, trivial⟩ | exact ⟨rfl, rfl, trivial⟩ | exact ⟨rfl, rfl, rfl, trivial⟩ | exact ⟨rfl, rfl, rfl, rfl, trivial⟩) :
    Sat cx β n H (Fs ++ dropIx js 0 F) w := by
  subst htk
  have hm := h.mem.take hn
  have h1 := hre (hm.sat0 rfl (fun f hf ho k hk => ⟨f, hf, hk⟩))
  refine h.swap js ho (Chg.refl _ _) h1.mem (fun f hf k hk => .inl ?_)
  rcases h1.fown f hf (ho'.mem f hf) k hk with q | q
  · exact q
  · exact absurd (h1.flt f hf k hk) (Nat.not_lt.2 q)
section
variable {c0 : Cx} {w : World}
end
theorem mput_end : ∀ {l : ML} {s : ByteArray} {v : Value}, mlook l s = none → mput l s v = l ++ [(s, v)]
  | [], _, _, _ => rfl
  | (k, u) :: r, s, v, h => by
    simp only [mlook] at h
    split at h
    · cases h
    · rename_i hne
      simp only [mput, if_neg hne, List.cons_append]
      rw [mput_end h]
def secF (x : SecV) (a : ASec) : Fact where
  own := false
  D := Un [bsF x.A1 a.salt, bsF x.A2 a.stored, bsF x.A3 a.server, bsF x.A4 a.ha1]
  p := SRd x a
  st := fun w w' hs h => ⟨h.n1, h.it, h.n2, h.n3, h.n4, (bsF x.A1 a.salt).st w w' (fun k hk => hs k ⟨_, by simp, hk⟩) h.r1, (bsF x.A2 a.stored).st w w' (fun k hk => hs k ⟨_, by simp, hk⟩) h.r2, (bsF x.A3 a.server).st w w' (fun k hk => hs k ⟨_, by simp, hk⟩) h.r3, (bsF x.A4 a.ha1).st w w' (fun k hk => hs k ⟨_, by simp, hk⟩) h.r4⟩
def sto0 (b m : Nat) : Sto := ⟨b, m, [], 0, 0⟩
theorem cnew_c (w : World) : Con Tryz.prog n_cred_New #[] w [] fun v Fs => ∃ b m, v = ptr b ∧ Fs = [stoF (sto0 b m)] := by
  have g := good_cred_New w (Un [])
  refine con_of_sx (cx := cx_cred_New w (Un [])) g b_cred_New rfl rfl (β := Va.z) [] 0 [] [] rfl rfl (Sat.start rfl) ?_
  intro m
  intro β w' hs
  have h1 := (hs.ofBk).noMem (sepF []) ⟨fun f hf => (by cases hf), List.Pairwise.nil⟩ (fun k hk => by obtain ⟨f, hf, _⟩ := hk; cases hf)
  have h2 := h1.sep [1, 2, 0]
  exact h2.fin [0] ⟨β 0, m, rfl, rfl⟩
end Go.Proofs.YteenjgfbbkdlhaaGreatDoor.Sx

namespace Go.Proofs.YteenjgfbbkdlhaaGreatDoor.Sx
open Go
attribute [local irreducible] Calls
def addT (X : ASto) (t : ByteArray) : Int × ASto :=
  if plainF t.data.toList = false then (5, X) else if (aten X.ts t).isSome then (7, X) else if 8 ≤ X.ts.length then (8, X) else (0, { X with ts := X.ts ++ [(t, [])] })
def stoOut (S : Sto) (r : Int × ASto) (v : Value) (Fs : List Fact) : Prop := ∃ S' : Sto, v = .int .i64 r.1 ∧ S'.a = r.2 ∧ S'.b = S.b ∧ Fs = [stoF S']
theorem stoOut_same {S : Sto} {r : Int × ASto} {e : Int} (h : r = (e, S.a)) : stoOut S r (.int .i64 e) [stoF S] := ⟨S, by rw [h], by rw [h], rfl, rfl⟩
theorem ml_len (S : Sto) : S.ml.length = S.a.ts.length := by simp [Sto.ml, Sto.a]
theorem mlook_end : ∀ {l : ML} {s : ByteArray} {v : Value}, mlook l s = none → mlook (l ++ [(s, v)]) s = some v
  | [], s, v, _ => by simp [mlook]
  | (k, u) :: r, s, v, h => by
    simp only [mlook] at h
    split at h
    · cases h
    · rename_i hne
      simp only [List.cons_append, mlook, if_neg hne]
      exact mlook_end h
theorem sto_addT {c0 : Cx} {w : World} {S : Sto} {t : ByteArray} {mb : Nat} (h0 : Sat c0 Va.z 0 [] [bkF S.b ty_cred_Store S.vs, mapF S.m (S.ml ++ [(t, .map (some mb))]), sepF (S.ts.map tenF), mapF mb []] w) :
    Sat c0 Va.z 0 [] [stoF { S with ts := S.ts ++ [⟨mb, t, []⟩] }] w := by
  have h1 := h0.noMem (sepF []) ⟨fun f hf => (by cases hf), List.Pairwise.nil⟩ (fun k hk => by obtain ⟨f, hf, _⟩ := hk; cases hf)
  have h2 := h1.sep [4, 0]
  have h3 := h2.blur 0 3 (A := S.ts.map tenF) (B := []) (x := tenF ⟨mb, t, []⟩) rfl (by show some (sepF (S.ts.map tenF)) = _; rw [List.append_nil]) rfl (by decide)
  have h4 := h3.sep [1, 2, 0]
  have e : stoF { S with ts := S.ts ++ [⟨mb, t, []⟩] } = sepF [bkF S.b ty_cred_Store S.vs, mapF S.m (S.ml ++ [(t, .map (some mb))]), sepF (S.ts.map tenF ++ [tenF ⟨mb, t, []⟩])] := by
    unfold stoF Sto.ml
    simp [Sto.vs]
  rw [e]
  exact h4
theorem addTenant_c (w : World) (S : Sto) (t : ByteArray) (ht : t.size ≤ 100000) (hm : Mem w [stoF S]) : Con Tryz.prog n_cred_Store_AddTenant #[ptr S.b, .string t] w [stoF S] (stoOut S (addT S.a t)) := by
  have g := good_cred_Store_AddTenant w (Un [stoF S])
  refine con_of_sx (cx := cx_cred_Store_AddTenant w (Un [stoF S])) g b_cred_Store_AddTenant rfl rfl (β := Va.z) [.c (.v (ptr S.b)), .c (.v (.string t))] 0 [] [stoF S] rfl rfl (hm.sat0 rfl (fun f hf ho k hk => ⟨f, hf, hk⟩)) ?_
  refine call_pu (fun β w' hs => plain_c w' t ht) ?_
  generalize hp : plainF t.data.toList = bp
  cases bp with
  | false =>
    intro β w' hs
    exact hs.fin [0] (stoOut_same (by unfold addT; rw [if_pos hp]))
  | true =>
    have hp' : ¬ plainF t.data.toList = false := by rw [hp]; decide
    rcases look_ten t S.ts with ⟨A, T, B, eT, h0, h1, h2, h3, _⟩ | ⟨h1, h2, h3⟩
    · refine call_pu (v := .map (some T.b)) (fun β w' hs => by
        have h := users_c w' S t (hs.get 0 rfl) (hs.getLt 0 rfl)
        rw [h0] at h
        exact h) ?_
      intro β w' hs
      refine hs.fin [0] (stoOut_same ?_)
      unfold addT
      rw [if_neg hp', if_pos (by show (aten (S.ts.map Ten.a) t).isSome = true; rw [h3]; rfl)]
    · refine call_pu (v := .map none) (fun β w' hs => by
        have h := users_c w' S t (hs.get 0 rfl) (hs.getLt 0 rfl)
        rw [h3] at h
        exact h) ?_
      have h2' : ¬ (aten S.a.ts t).isSome = true := by show ¬ (aten (S.ts.map Ten.a) t).isSome = true; rw [h2]; simp
      have hl := ml_len S
      refine ⟨.map (some S.m), fun β w' hs => bkc (sto_bk (hs.get 0 rfl)) rfl, ?_⟩
      refine ⟨S.ml, fun β w' hs => sto_map (hs.get 0 rfl), ?_⟩
      refine BIf.dec (fun hf => ?_) (fun hf => ?_)
      · have hf0 : (8 : Int) ≤ (S.ml.length : Int) := hf
        intro β w' hs
        refine hs.fin [0] (stoOut_same ?_)
        unfold addT
        rw [if_neg hp', if_neg h2', if_pos (by omega)]
      · have hf0 : ¬ (8 : Int) ≤ (S.ml.length : Int) := hf
        refine ⟨.map (some S.m), fun β w' hs => bkc (sto_bk (hs.get 0 rfl)) rfl, ?_⟩
        intro mb
        refine ⟨[], fun _ => [stoF { S with ts := S.ts ++ [⟨mb, t, []⟩] }], fun β w' hs => ?_, fun _ => ?_⟩
        · have q1 := hs.unsep 1 rfl
          obtain ⟨w2, q2, q3⟩ := q1.mapPut g 1 rfl (t := ty_map_string_map_string_ptr_cred_Cred) t (.map (some mb))
          rw [mput_end (show mlook S.ml t = none from h1)] at q3
          exact ⟨w2, 0, q2, q3.recut [0, 1, 2, 3] sto_addT⟩
        · intro β w' hs
          refine hs.fin [0] ⟨{ S with ts := S.ts ++ [⟨mb, t, []⟩] }, ?_, ?_, rfl, rfl⟩
          · unfold addT
            rw [if_neg hp', if_neg h2', if_neg (by omega)]
            rfl
          · unfold addT
            rw [if_neg hp', if_neg h2', if_neg (by omega)]
            show ASto.mk ((S.ts ++ [(⟨mb, t, []⟩ : Ten)]).map Ten.a) _ _ = _
            rw [List.map_append]
            rfl
def addU (X : ASto) (t u : ByteArray) (a : ASec) : Int × ASto :=
  match aten X.ts t with
  | none => (6, X)
  | some us => if (nameA u).2 = 0 then if rightA a = false then (4, X) else if (ausr us (nameA u).1).isSome then (7, X) else if 32 ≤ us.length then (8, X) else if greatN ≤ X.last then (8, X) else
      (0, { X with ts := atenU X.ts t (fun us => us ++ [⟨t, (nameA u).1, a, X.last + 1, [], false⟩]), last := X.last + 1 })
    else ((nameA u).2, X)
def newCrd (b : Nat) (t n : ByteArray) (y : Sec) (gen : Nat) : Crd := ⟨b, t, n, y, gen, none, 0, [], false⟩
theorem sto_addU {c0 : Cx} {w : World} {S : Sto} {A B : List Ten} {T : Ten} {n : ByteArray} {c : Crd} {last : Nat} (hT : S.ts = A ++ T :: B) (hn : c.user = n)
    (h0 : Sat c0 Va.z 0 [] [bkF S.b ty_cred_Store [.map (some S.m), .int .u64 (last : Int), .int .u64 S.reads], bkF c.b ty_cred_Cred c.vs, sepF c.parts, mapF T.b (T.m ++ [(n, ptr c.b)]), sepF (T.us.map crdF), mapF S.m S.ml, sepF ((A ++ B).map tenF)] w) :
    Sat c0 Va.z 0 [] [stoF { S with ts := A ++ { T with us := T.us ++ [c] } :: B, last := last }] w := by
  have h1 := h0.unsep 2 rfl
  have h2 := h1.sep [6, 0, 1, 2, 3, 4] rfl ⟨rfl, rfl, rfl, rfl, rfl, rfl, trivial⟩
  have h3 := h2.blur 0 3 (A := T.us.map crdF) (B := []) (x := crdF c) rfl (by show some (sepF (T.us.map crdF)) = _; rw [List.append_nil]) rfl (by decide)
  have h4 := h3.sep [2, 0]
  have e1 : tenF { T with us := T.us ++ [c] } = sepF [mapF T.b (T.m ++ [(n, ptr c.b)]), sepF (T.us.map crdF ++ [crdF c])] := by
    unfold tenF Ten.m
    simp [hn]
  have h4' : Sat c0 Va.z 0 [] [tenF { T with us := T.us ++ [c] }, bkF S.b ty_cred_Store [.map (some S.m), .int .u64 (last : Int), .int .u64 S.reads], mapF S.m S.ml, sepF (A.map tenF ++ B.map tenF)] w := by
    rw [e1, ← List.map_append]
    exact h4
  have h5 := h4'.blur 0 3 (A := A.map tenF) (B := B.map tenF) (x := tenF { T with us := T.us ++ [c] }) rfl rfl rfl (by decide)
  have h6 := h5.sep [1, 2, 0]
  have e : stoF { S with ts := A ++ { T with us := T.us ++ [c] } :: B, last := last } = sepF [bkF S.b ty_cred_Store [.map (some S.m), .int .u64 (last : Int), .int .u64 S.reads], mapF S.m S.ml, sepF (A.map tenF ++ tenF { T with us := T.us ++ [c] } :: B.map tenF)] := by
    unfold stoF Sto.ml
    rw [hT]
    simp [Sto.vs]
  rw [e]
  exact h6
theorem sto_openT {c0 : Cx} {w : World} {S : Sto} {A B : List Ten} {T : Ten} (hT : S.ts = A ++ T :: B) (h0 : Sat c0 Va.z 0 [] [stoF S] w) :
    Sat c0 Va.z 0 [] [bkF S.b ty_cred_Store S.vs, mapF T.b T.m, sepF (T.us.map crdF), mapF S.m S.ml, sepF ((A ++ B).map tenF)] w := by
  have h1 := h0.unsep 0 rfl
  have h2 := h1.focus 2 (A := A.map tenF) (B := B.map tenF) (x := tenF T) (by show some (sepF (S.ts.map tenF)) = _; rw [hT, List.map_append, List.map_cons]) rfl
  have h3 := h2.unsep 0 rfl
  have h4 := h3.perm [3, 0, 1, 4, 2]
  rw [List.map_append]
  exact h4
set_option maxHeartbeats 1000000 in
theorem add_c (w : World) (S : Sto) (t u : ByteArray) (x : SecV) (a : ASec) (hu : u.size ≤ 100000) (hz : ASz a) (hm : Mem w [stoF S, secF x a, namF]) :
    Con Tryz.prog n_cred_Store_Add #[ptr S.b, .string t, .string u, .agg x.vs.toArray] w [stoF S] (stoOut S (addU S.a t u a)) := by
  have g := good_cred_Store_Add w (Un [stoF S])
  refine con_of_sx (cx := cx_cred_Store_Add w (Un [stoF S])) g b_cred_Store_Add rfl rfl (β := Va.z) [.c (.v (ptr S.b)), .c (.v (.string t)), .c (.v (.string u)), .agg x.ss] 0 [] [stoF S, secF x a, namF] rfl rfl (hm.sat0 rfl (ownIn (Gs := [stoF S]) (fun f hf => by
    simp only [List.mem_cons, List.not_mem_nil, or_false] at hf
    rcases hf with rfl | rfl <;> rfl))) ?_
  rcases look_ten t S.ts with ⟨A, T, B, eT, h0, h1, h2, h3, h4, _⟩ | ⟨h1, h2, h3⟩
  rotate_left
  · refine call_pu (v := .map none) (fun β w' hs => by
      have h := users_c w' S t (hs.get 0 rfl) (hs.getLt 0 rfl)
      rw [h3] at h
      exact h) ?_
    intro β w' hs
    refine (hs.keepB (List.nil_sublist _)).fin [0] (stoOut_same ?_)
    unfold addU
    rw [show aten S.a.ts t = none from h2]
  refine call_pu (v := .map (some T.b)) (fun β w' hs => by
    have h := users_c w' S t (hs.get 0 rfl) (hs.getLt 0 rfl)
    rw [h0] at h
    exact h) ?_
  obtain ⟨p, e, hpe⟩ : ∃ p e, nameA u = (p, e) := ⟨_, _, rfl⟩
  have hadd : addU S.a t u a = if e = 0 then if rightA a = false then (4, S.a) else if (ausr (T.us.map Crd.a) p).isSome then (7, S.a) else if 32 ≤ (T.us.map Crd.a).length then (8, S.a) else if greatN ≤ S.last then (8, S.a) else
      (0, { S.a with ts := atenU S.a.ts t (fun us => us ++ [⟨t, p, a, S.last + 1, [], false⟩]), last := S.last + 1 }) else (e, S.a) := by
    unfold addU
    rw [show aten S.a.ts t = _ from h3, hpe]
    rfl
  refine call_pu (v := .tuple #[.string p, .int .i64 e]) (fun β w' hs => by
    have h := nameA_c w' u hu (namF_T (hs.get 2 rfl))
    rw [hpe] at h
    exact h) ?_
  refine BIf.not (BIf.dec (fun he => ?_) (fun he => ?_))
  rotate_left
  · have he0 : ¬ e = 0 := he
    rw [if_neg he0] at hadd
    intro β w' hs
    exact (hs.keepB (List.nil_sublist _)).fin [0] (stoOut_same hadd)
  have he0 : e = 0 := he
  rw [if_pos he0] at hadd
  refine call_pu (fun β w' hs => cright_c w' x) ?_
  have hri : rightN x = rightA a := (hm.fact (secF x a) (by simp)).right
  rw [hri]
  generalize hr : rightA a = br at hadd
  cases br with
  | false =>
    rw [if_pos rfl] at hadd
    intro β w' hs
    exact (hs.keepB (List.nil_sublist _)).fin [0] (stoOut_same hadd)
  | true =>
  rw [if_neg (by decide)] at hadd
  refine ⟨.pointer none, fun w => zero_ptrC w, T.m, mlook T.m p, fun β w' hs => ten_map (sto_ten (hs.get 0 rfl) eT), rfl, ?_⟩
  rcases look_crd p T.us with ⟨U, c, V, eU, q0, q1, q2, q3, _⟩ | ⟨q1, q2, q3⟩
  · rw [show mlook T.m p = _ from q2]
    rw [q3, if_pos (show (some c.a).isSome = true from rfl)] at hadd
    intro β w' hs
    exact (hs.keepB (List.nil_sublist _)).fin [0] (stoOut_same hadd)
  rw [show mlook T.m p = _ from q1]
  rw [q2, if_neg (show ¬ (none : Option ACrd).isSome = true from fun h => by cases h)] at hadd
  have hml : T.m.length = (T.us.map Crd.a).length := by simp [Ten.m]
  refine ⟨T.m, fun β w' hs => ten_map (sto_ten (hs.get 0 rfl) eT), ?_⟩
  rw [← hml] at hadd
  refine BIf.dec (fun hf => ?_) (fun hf => ?_)
  · have hf0 : (32 : Int) ≤ (T.m.length : Int) := hf
    rw [if_pos (by omega)] at hadd
    intro β w' hs
    exact (hs.keepB (List.nil_sublist _)).fin [0] (stoOut_same hadd)
  have hf0 : ¬ (32 : Int) ≤ (T.m.length : Int) := hf
  rw [if_neg (by omega)] at hadd
  refine ⟨.int .u64 (S.last : Int), fun β w' hs => bkc (sto_bk (hs.get 0 rfl)) rfl, ?_⟩
  refine BIf.dec (fun hg => ?_) (fun hg => ?_)
  · have hg0 : (9007199254740992 : Int) ≤ (S.last : Int) := hg
    rw [if_pos (by unfold greatN; omega)] at hadd
    intro β w' hs
    exact (hs.keepB (List.nil_sublist _)).fin [0] (stoOut_same hadd)
  have hg0 : ¬ (9007199254740992 : Int) ≤ (S.last : Int) := hg
  have hgl : S.last < greatN := by unfold greatN; omega
  rw [if_neg (by unfold greatN; omega)] at hadd
  refine call_con [] (fun β w' hs => scopyOf_c w' x a (hs.get 1 rfl) hz) ?_
  rintro v Fs ⟨y, hy, rfl, rfl⟩
  refine ⟨[⟨0, ty_cred_Secret, x.ss⟩], fun yb => [bkF S.b ty_cred_Store S.vs, bkF yb ty_cred_Cred (newCrd yb t p y 0).vs, sepF (newCrd yb t p y 0).parts, mapF T.b (T.m ++ [(p, ptr yb)]), sepF (T.us.map crdF), mapF S.m S.ml, sepF ((A ++ B).map tenF), secF x a, namF], fun β w' hs => ?_, fun yb => ?_⟩
  · have k1 := hs.ofBk
    have k2 := k1.noMem (strsF none []) ⟨rfl, fun q => by cases q⟩ (fun k hk => by obtain ⟨q, _⟩ := hk; cases q)
    have k3 := k2.sep [0, 5, 4, 3, 2] rfl ⟨rfl, rfl, rfl, rfl, rfl, trivial⟩
    have k4 := k3.recut [2] (sto_openT eT) rfl rfl ⟨rfl, trivial⟩ ⟨rfl, rfl, rfl, rfl, rfl, trivial⟩
    obtain ⟨w2, k5, k6⟩ := k4.mapPut g 1 rfl (t := ty_map_string_ptr_cred_Cred) p (ptr (β 1))
    rw [mput_end (show mlook T.m p = none from q1)] at k6
    exact ⟨w2, β 1, k5, k6.perm [0, 6, 5, 1, 2, 3, 4, 7, 8]⟩
  refine ⟨.pointer none, fun w => zero_ptrC w, T.m ++ [(p, ptr yb)], some (ptr yb), fun β w' hs => hs.get 3 rfl, mlook_end (show mlook T.m p = none from q1), ?_⟩
  refine call_con [0, 1] (fun β w' hs => touched_c w' S.b yb S.last (.map (some S.m)) (.int .u64 S.reads) (newCrd yb t p y 0).vs rfl hgl (hs.mem.take (js := [0, 1]) rfl)) ?_
  rintro v Fs ⟨rfl, rfl⟩
  intro β w' hs
  have k := (hs.keepB (List.nil_sublist _)).recut [0, 1, 2, 3, 4, 5, 6] (sto_addU (S := S) (c := newCrd yb t p y (S.last + 1)) (last := S.last + 1) eT rfl) rfl rfl ⟨rfl, rfl, rfl, rfl, rfl, rfl, rfl, trivial⟩
  refine k.fin [0] ⟨{ S with ts := A ++ { T with us := T.us ++ [newCrd yb t p y (S.last + 1)] } :: B, last := S.last + 1 }, by rw [hadd]; rfl, ?_, rfl, rfl⟩
  rw [hadd]
  have k8 := h4 { T with us := T.us ++ [newCrd yb t p y (S.last + 1)] } (fun us => us ++ [⟨t, p, a, S.last + 1, [], false⟩]) h1 (by
    rw [List.map_append]
    show _ ++ [Crd.a (newCrd yb t p y (S.last + 1))] = _
    congr 2
    show ACrd.mk t p y.a (S.last + 1) [] false = _
    rw [hy])
  show ASto.mk _ _ _ = ASto.mk _ _ _
  rw [k8]
  rfl
structure At (S : Sto) (t u : ByteArray) (A : List Ten) (T : Ten) (B : List Ten) (U : List Crd) (c : Crd) (V : List Crd) : Prop where
  ten : S.ts = A ++ T :: B
  crd : T.us = U ++ c :: V
  name : T.name = t
  user : c.user = (nameA u).1
  fine : (nameA u).2 = 0
  is : aone S.a t u = some c.a
  upd : ∀ c' : Crd, ∀ f : ACrd → ACrd, c'.user = c.user → c'.a = f c.a → (A ++ { T with us := U ++ c' :: V } :: B).map Ten.a = atenU S.a.ts t (fun us => ausrU us (nameA u).1 f)
  del : (A ++ { T with us := U ++ V } :: B).map Ten.a = atenU S.a.ts t (fun us => ausrD us (nameA u).1)
  mdel : (U ++ V).map (fun c : Crd => (c.user, ptr c.b)) = Sx.mdel T.m (nameA u).1
  look : mlook S.ml t = some (.map (some T.b))
theorem usr_some {S : Sto} {t u : ByteArray} {c : Crd} (h : S.usr t u = some c) : ∃ A T B U V, At S t u A T B U c V := by
  unfold Sto.usr at h
  split at h
  · rename_i he
    rcases look_ten t S.ts with ⟨A, T, B, eT, h0, h1, h2, h3, h4, _⟩ | ⟨h1, h2, h3⟩
    · rw [h0] at h
      have h' : crdO T.us (nameA u).1 = some c := h
      rcases look_crd (nameA u).1 T.us with ⟨U, c', V, eU, q0, q1, q2, q3, q4, q5, q6, q7⟩ | ⟨q1, q2, q3⟩
      · rw [q0] at h'
        obtain rfl := Option.some.inj h'
        refine ⟨A, T, B, U, V, eT, eU, h1, q1, he, ?_, fun c1 f e1 e2 => ?_, ?_, q6, h2⟩
        · unfold aone aget
          rw [if_pos he, show aten S.a.ts t = _ from h3]
          exact q3
        · refine h4 { T with us := U ++ c1 :: V } (fun us => ausrU us (nameA u).1 f) h1 ?_
          exact q4 c1 f (e1.trans q1) e2
        · exact h4 { T with us := U ++ V } (fun us => ausrD us (nameA u).1) h1 q5
      · rw [q3] at h'; cases h'
    · rw [h3] at h; cases h
  · cases h
theorem usr_none {S : Sto} {t u : ByteArray} (h : S.usr t u = none) : aone S.a t u = none := by
  unfold Sto.usr at h
  unfold aone aget
  split at h
  · rename_i he
    rw [if_pos he]
    rcases look_ten t S.ts with ⟨A, T, B, eT, h0, h1, h2, h3, _⟩ | ⟨h1, h2, h3⟩
    · rw [h0] at h
      have h' : crdO T.us (nameA u).1 = none := h
      rw [show aten S.a.ts t = _ from h3]
      rcases look_crd (nameA u).1 T.us with ⟨U, c', V, eU, q0, q1, q2, q3, _⟩ | ⟨q1, q2, q3⟩
      · rw [q0] at h'; cases h'
      · exact q2
    · rw [show aten S.a.ts t = none from h2]; rfl
  · rename_i he
    rw [if_neg he]
theorem crd_sec {c : Crd} {w : World} (h : (crdF c).p w) : SRd c.sec.x c.sec.a w := Sec.rd fun f hf => h.1 f (by
  unfold Crd.fs Crd.parts
  exact List.mem_cons_of_mem _ (List.mem_cons_of_mem _ hf))
theorem crd_strs {c : Crd} {w : World} (h : (crdF c).p w) : Rd 1 c.rA c.roles.length (strs c.roles) w := h.1 (strsF c.rA c.roles) (by simp [Crd.fs, Crd.parts])
structure CSz (a : ACrd) : Prop where
  sec : ASz a.sec
  roles : a.roles.length ≤ 1000000
def Crd.ss (c : Crd) : List SL := .v (.string c.tenant) :: .v (.string c.user) :: (c.sec.x.ss ++ [.v (.int .u64 c.gen), .v (.slice c.rA c.roles.length c.rc), .v (.bool c.revoked)])
theorem ccopyOf_c (w : World) (c : Crd) (h1 : SRd c.sec.x c.sec.a w) (h2 : Rd 1 c.rA c.roles.length (strs c.roles) w) (hz : CSz c.a) :
    Con Tryz.prog n_cred_Cred_copyOf #[.agg c.vs.toArray] w [] fun v Fs => ∃ c' : Crd, c'.a = c.a ∧ v = .agg c'.vs.toArray ∧ Fs = [srowF c'.rA c'.roles c'.rc, c'.sec.ha1.f, c'.sec.server.f, c'.sec.stored.f, c'.sec.salt.f] := by
  have g := good_cred_Cred_copyOf w (Un [])
  refine con_of_sx (cx := cx_cred_Cred_copyOf w (Un [])) g b_cred_Cred_copyOf rfl rfl (β := Va.z) [.agg c.ss] 0 [] [oldF w] rfl rfl (old_sat rfl) ?_
  have hS : ∀ {n : Nat} {F : List Fact}, Sub (cx_cred_Cred_copyOf w (Un [])) n [⟨1, ty_cred_Cred, ti143.zero.map SL.v⟩, ⟨0, ty_cred_Cred, c.ss⟩] F [⟨0, ty_cred_Cred, c.ss⟩] [] := fun {n F} => Sub.of (List.sublist_cons_self _ _) (List.nil_sublist _)
  refine draw_rule g p_cred_Cred_copyOf_1 (by kernel_rfl) [⟨0, ty_cred_Cred, c.ss⟩] [] hS ?_
  refine call_con [] (fun β w' hs => scopyOf_c w' c.sec.x c.sec.a (h1.old (hs.get 0 rfl)) hz.sec) ?_
  rintro v Fs ⟨y, hy, rfl, rfl⟩
  refine ⟨hS, ?_⟩
  refine call_con [] (fun β w' hs => cloneS_c w' c.rA c.roles c.rc (Rd.old h2 (hs.get 4 rfl)) hz.roles) ?_
  rintro v Fs ⟨A', c', rfl, _, _, rfl⟩
  refine ⟨hS, ?_⟩
  intro β w' hs
  refine (hs.keepB (List.nil_sublist _)).fin [0, 1, 2, 3, 4] ⟨⟨0, c.tenant, c.user, y, c.gen, A', c', c.roles, c.revoked⟩, ?_, rfl, rfl⟩ rfl rfl rfl ⟨rfl, rfl, rfl, rfl, rfl, trivial⟩
  show ACrd.mk _ _ y.a _ _ _ = ACrd.mk _ _ _ _ _ _
  rw [hy]
def stoR (S : Sto) : Sto := { S with reads := IntKind.u64.wrap (S.reads + 1) }
theorem stoR_usr (S : Sto) (t u : ByteArray) : (stoR S).usr t u = S.usr t u := rfl
theorem sto_reads {cx : Cx} {β : Va} {n : Nat} {H : List Bk} {w : World} {S : Sto} (h : Sat cx β n H [stoF S, namF] w) (r : Int) :
    ∃ w', (storeCells ((⟨S.b, 0, none⟩ : Addr).add 2) [.int .u64 r] 0).run cx.P w = .ok () w' ∧ Sat cx β n H [stoF { S with reads := r }, namF] w' := by
  have h1 := h.unsep 0 rfl
  obtain ⟨w', e1, e2⟩ := h1.bkSet 0 (o := 2) (us := [.int .u64 r]) rfl (by simp [Sto.vs]) (fun u hu => by obtain rfl := List.mem_singleton.1 hu; rfl)
  exact ⟨w', e1, e2.sep [0, 1, 2]⟩
def crd0 : Crd := ⟨0, ByteArray.empty, ByteArray.empty, ⟨⟨none, 0, [], Nat.le_refl 0⟩, 0, ⟨none, 0, [], Nat.le_refl 0⟩, ⟨none, 0, [], Nat.le_refl 0⟩, ⟨none, 0, [], Nat.le_refl 0⟩⟩, 0, none, 0, [], false⟩
def crdRows (c : Crd) : List Fact := [srowF c.rA c.roles c.rc, c.sec.ha1.f, c.sec.server.f, c.sec.stored.f, c.sec.salt.f]
def findOut (S : Sto) (t u : ByteArray) (v : Value) (Fs : List Fact) : Prop := match aone S.a t u with
  | none => v = .tuple #[.agg crd0.vs.toArray, .bool false] ∧ Fs = [stoF (stoR S)]
  | some a => ∃ c : Crd, c.a = a ∧ v = .tuple #[.agg c.vs.toArray, .bool true] ∧ Fs = crdRows c ++ [stoF (stoR S)]
theorem add2 (b o j : Nat) : ((⟨b, o, none⟩ : Addr).add j) = ⟨b, o + j, none⟩ := by rw [add_none]
theorem find_c (w : World) (S : Sto) (t u : ByteArray) (hu : u.size ≤ 100000) (hz : ∀ a, aone S.a t u = some a → CSz a) (hm : Mem w [stoF S, namF]) : Con Tryz.prog n_cred_Store_Find #[ptr S.b, .string t, .string u] w [stoF S] (findOut S t u) := by
  have g := good_cred_Store_Find w (Un [stoF S])
  refine con_of_sx (cx := cx_cred_Store_Find w (Un [stoF S])) g b_cred_Store_Find rfl rfl (β := Va.z) [.c (.v (ptr S.b)), .c (.v (.string t)), .c (.v (.string u))] 0 [] [stoF S, namF] rfl rfl (hm.sat0 rfl (ownIn (Gs := [stoF S]) (fun f hf => by
    obtain rfl := List.mem_singleton.1 hf; rfl))) ?_
  refine ⟨.int .u64 S.reads, fun β w' hs => bkc (sto_bk (hs.get 0 rfl)) rfl, IntKind.u64.wrap (S.reads + 1), rfl, ?_⟩
  refine ⟨[stoF (stoR S), namF], fun β w' hs => sto_reads hs _, ?_⟩
  cases hc : S.usr t u with
  | none =>
    refine call_pu (v := .pointer none) (fun β w' hs => by
      have h := get_c w' (stoR S) t u (hs.get 0 rfl) (hs.getLt 0 rfl) hu (namF_T (hs.get 1 rfl))
      rw [stoR_usr, hc] at h
      exact h) ?_
    intro β w' hs
    refine (hs.keepB (List.nil_sublist _)).fin [0] ?_
    unfold findOut
    rw [usr_none hc]
    exact ⟨rfl, rfl⟩
  | some c =>
    obtain ⟨A, T, B, U, V, at_⟩ := usr_some hc
    refine call_pu (v := ptr c.b) (fun β w' hs => by
      have h := get_c w' (stoR S) t u (hs.get 0 rfl) (hs.getLt 0 rfl) hu (namF_T (hs.get 1 rfl))
      rw [stoR_usr, hc] at h
      exact h) ?_
    have hcp : ∀ {w'}, (stoF (stoR S)).p w' → (crdF c).p w' := fun hp => ten_crd (sto_ten hp at_.ten) at_.crd
    refine ⟨c.vs, rfl, fun β w' hs j v hv => ?_, ?_⟩
    · rw [add2]
      exact bkc (crd_bk (hcp (hs.get 0 rfl))) (by rw [Nat.zero_add]; exact hv)
    refine call_con [] (fun β w' hs => ccopyOf_c w' c (crd_sec (hcp (hs.get 0 rfl))) (crd_strs (hcp (hs.get 0 rfl))) (hz _ at_.is)) ?_
    rintro v Fs ⟨c', hc', rfl, rfl⟩
    intro β w' hs
    refine (hs.keepB (List.nil_sublist _)).fin [0, 1, 2, 3, 4, 5] ?_ rfl rfl rfl ⟨rfl, rfl, rfl, rfl, rfl, rfl, trivial⟩
    unfold findOut
    rw [at_.is]
    exact ⟨c', hc', rfl, rfl⟩
def hndF (h bx us : Nat) (n g r t : Value) : Fact := bkF h ty_order_Hands [.pointer (some ⟨bx, 0, none⟩), ptr us, n, g, r, t, .pointer none]
def masL : List UInt8 := [109, 97, 115, 116, 101, 114]
set_option maxHeartbeats 1000000 in
theorem hands24_c (w : World) (hm : Mem w [oddF 5, firstF 2]) : Con Tryz.prog n_ostiarylaw24_hands #[.bool false, .int .i64 4, .int .i64 4] w [] fun v Fs =>
    ∃ h b S n g r t B y, v = .pointer (some ⟨h, 0, none⟩) ∧ S.a = (sto0 0 0).a ∧ y.ts.map (·.1) = B.L ∧ BInv B ∧ B.sym = false ∧ B.L.length ≤ 10 ∧ Fs = [hndF h b S.b n g r t, bxF b B y, stoF S] := by
  have g := good_ostiarylaw24_hands w (Un [])
  refine con_go (cx := cx_ostiarylaw24_hands w (Un [])) g b_ostiarylaw24_hands [.c (.v (.bool false)), .c (.v (.int .i64 4)), .c (.v (.int .i64 4))] [oddF 5, firstF 2] hm ?_
  refine call_con [] (fun β w' hs => newX_c w' false) ?_
  rintro v Fs ⟨b, y0, rfl, hy0, rfl⟩
  refine call_con [] (fun β w' hs => cnew_c w') ?_
  rintro v Fs ⟨us, um, rfl, rfl⟩
  refine call_con [] (fun β w' hs => nonNew_c w' 4 (by decide) (by decide)) ?_
  rintro v Fs ⟨nb, rfl, rfl⟩
  refine call_con [] (fun β w' hs => grdNew_c w' 4 (by decide) (by decide)) ?_
  rintro v Fs ⟨gb, rfl, rfl⟩
  intro b1
  refine ⟨0, _, rfl, ?_⟩
  have hi0 := box0i false
  obtain ⟨B, hB⟩ : ∃ B : Bx.Box, (⟨false, false, []⟩ : Bx.Box) = B := ⟨_, rfl⟩
  have hL0 : B.L.length ≤ 0 := by rw [← hB]; exact Nat.le_refl _
  have hsy : B.sym = false := by rw [← hB]
  have hts0 : y0.ts.map (·.1) = B.L := by rw [← hB, hy0]; rfl
  rw [hB] at hi0 ⊢
  refine call_con [2] (fun β w' hs => newK_c w' b B y0 (some ⟨b1, 0, none⟩) masL 6 3 (by decide) (by decide) (by decide) (by decide) hts0 hi0 (by omega) (hs.mem.take (js := [2, 0, 3, 4]) rfl)) ?_
  rintro v Fs ⟨r, y1, rfl, rb1, _, k1, g1, hy1, rfl⟩
  generalize macB B masL (keyT 1).data.toList = q1 at *
  obtain ⟨p1, B1⟩ := q1
  have l1 := g1.1.len
  have hi1 := g1.1.inv
  have hs1 := g1.1.sym
  simp only at l1 hy1 k1 hi1 hs1
  refine call_con [] (fun β w' hs => newDesk_c w' r.b 200) ?_
  rintro v Fs (⟨_, _, db, m1, m2, rfl, rfl⟩ | ⟨h, _⟩)
  rotate_left
  · exact absurd ⟨by decide, by decide⟩ h
  intro β w' hs
  exact hs.ofBk.fin [0, 3, 5] ⟨β 0, b, sto0 us um, .pointer (some ⟨nb, 0, none⟩), .pointer (some ⟨gb, 0, none⟩), ptrR r.b, .pointer (some ⟨db, 0, none⟩), B1, y1, rfl, rfl, hy1, hi1, by rw [hs1, hsy], by omega, rfl⟩ rfl rfl rfl ⟨rfl, rfl, rfl, trivial⟩
theorem said_c (w : World) (e : Int) : Pu Tryz.prog n_order_said #[.int .i64 e] w (.tuple #[.string (if e = 0 then mkS [111, 107] else mkS []), .int .i64 e]) := by
  have g := good_order_said w (Un [])
  refine con_of_sx (cx := cx_order_said w (Un [])) g b_order_said rfl rfl (β := Va.z) [.c (.v (.int .i64 e))] 0 [] [] rfl rfl (Sat.start rfl) ?_
  refine BIf.not (BIf.dec (fun h => ?_) (fun h => ?_))
  · have h0 : e = 0 := h
    subst h0
    intro β w' hs
    exact hs.fin [] ⟨rfl, rfl⟩
  · have h0 : ¬ e = 0 := h
    intro β w' hs
    rw [if_neg h0]
    exact hs.fin [] ⟨rfl, rfl⟩
def CArgs (A : Option Addr) (a : List (List UInt8)) (w : World) : Prop := Rd 1 A a.length (tx a) w
theorem clT_c (w : World) (A : Option Addr) (a : List (List UInt8)) (c : Nat) (hr : CArgs A a w) (hn : a.length ≤ 100000) : Con Tryz.prog n_slices_Clone_string_string #[.slice A a.length c] w [] fun v Fs => ∃ A' c', v = .slice A' a.length c' ∧ a.length ≤ c' ∧ Fs = [txF A' a c'] := by
  have g := good_slices_Clone_string_string w (Un [])
  have hml := maxLen_eq
  refine con_of_sx (cx := cx_slices_Clone_string_string w (Un [])) g b_slices_Clone_string_string rfl rfl (β := Va.z) [.c (.v (.slice A a.length c))] 0 [] [oldF w] rfl rfl (old_sat rfl) ?_
  refine BIf.mk (fun h => ?_) (fun h => ?_)
  · have hA : A = none := by simpa using h
    subst hA
    have ha : a = [] := by
      cases a with
      | nil => rfl
      | cons x r => obtain ⟨ad, q, _⟩ := hr.2 (by simp); cases q
    subst ha
    intro β w' hs
    exact (hs.nilRow ty_string 1).fin [0] ⟨none, 0, rfl, Nat.le_refl _, rfl⟩ rfl rfl rfl ⟨rfl, trivial⟩
  intro b1
  refine ⟨0, 0, a.length, [], tx a, _, rfl, fun β w' hs => Rd.old hr (hs.get 1 rfl), (fun u hu => by obtain ⟨s, rfl⟩ := tx_one a u hu; rfl), Nat.zero_add _, rfl, by omega, by show a.length * 16 ≤ _; omega, ?_⟩
  intro A' c' h1 h2 h3 β w' hs
  exact hs.fin [0] ⟨A', c', rfl, h1, rfl⟩ rfl rfl rfl ⟨rfl, trivial⟩
def hbF (h : Nat) (pv : Value) : Fact := bkF h ty_order_Hands [.pointer none, .pointer none, .pointer none, .pointer none, .pointer none, .pointer none, pv]
theorem hb_cell {h : Nat} {pv : Value} {w : World} (hp : (roX (hbF h pv)).p w) {o : Nat} {v : Value} (ho : ([.pointer none, .pointer none, .pointer none, .pointer none, .pointer none, .pointer none, pv] : List Value)[o]? = some v) : w.cell? ⟨h, o, none⟩ = some v := cell_bk (show (bkF h ty_order_Hands [.pointer none, .pointer none, .pointer none, .pointer none, .pointer none, .pointer none, pv]).p w from hp) ho
theorem tkRevB_c (w : World) (s : Int) : Pu Tryz.prog n_ticket_Desk_Revoke #[.pointer none, .int .u64 s] w (.int .i64 6) := by
  have g := good_ticket_Desk_Revoke w (Un [])
  refine con_of_sx (cx := cx_ticket_Desk_Revoke w (Un [])) g b_ticket_Desk_Revoke rfl rfl (β := Va.z) [.c (.v (.pointer none)), .c (.v (.int .u64 s))] 0 [] [] rfl rfl (Sat.start rfl) ?_
  intro β w' hs
  exact (hs.keepB (List.nil_sublist _)).fin [] ⟨rfl, rfl⟩
theorem tkSweepB_c (w : World) (s : Int) : Pu Tryz.prog n_ticket_Desk_Sweep #[.pointer none, .int .u64 s] w (.int .i64 0) := by
  have g := good_ticket_Desk_Sweep w (Un [])
  refine con_of_sx (cx := cx_ticket_Desk_Sweep w (Un [])) g b_ticket_Desk_Sweep rfl rfl (β := Va.z) [.c (.v (.pointer none)), .c (.v (.int .u64 s))] 0 [] [] rfl rfl (Sat.start rfl) ?_
  intro β w' hs
  exact (hs.keepB (List.nil_sublist _)).fin [] ⟨rfl, rfl⟩
theorem tkSerB_c (w : World) : Pu Tryz.prog n_ticket_Desk_Serial #[.pointer none] w (.int .u64 0) := by
  have g := good_ticket_Desk_Serial w (Un [])
  refine con_of_sx (cx := cx_ticket_Desk_Serial w (Un [])) g b_ticket_Desk_Serial rfl rfl (β := Va.z) [.c (.v (.pointer none))] 0 [] [] rfl rfl (Sat.start rfl) ?_
  intro β w' hs
  exact (hs.keepB (List.nil_sublist _)).fin [] ⟨rfl, rfl⟩
theorem numG_c (w : World) (s : ByteArray) (hs0 : s.size ≤ 1000000) (hm : Mem w [errF 6, errF 7, powF]) : Con Tryz.prog n_order_number #[.string s] w [] fun v Fs => (∃ (n : Nat) (b : Bool), v = .tuple #[.int .u64 (n : Int), .bool b] ∧ (b = true → n < 18446744073709551616)) ∧ Fs = [] := by
  have g := good_order_number w (Un [])
  refine con_go (cx := cx_order_number w (Un [])) g b_order_number [.c (.v (.string s))] [errF 6, errF 7, powF] hm ?_
  refine call_con [] (fun β w' hs => parseUG_c w' s hs0 (hs.mem.take (js := [0, 1]) rfl)) ?_
  rintro v Fs ⟨⟨u, hu, rfl⟩ | ⟨hu, n, te, pv, rfl⟩, rfl⟩
  · have hb := Lib.parseUintB_le hu
    have fin : ∀ b : Bool, ∀ {k : Nat} {H : List Bk} {F : List Fact} (β : Va) (w' : World), Sat (cx_order_number w (Un [])) β k H F w' → Fin w [] (fun v Fs => (∃ (n : Nat) (b : Bool), v = .tuple #[.int .u64 (n : Int), .bool b] ∧ (b = true → n < 18446744073709551616)) ∧ Fs = []) (.tuple #[.int .u64 (u : Int), .bool b]) w' := fun b _ _ _ β w' hs => (hs.keepB (List.nil_sublist _)).fin [] ⟨⟨u, b, rfl, fun _ => by omega⟩, rfl⟩
    refine ⟨true, fun w => eql_nil (by kernel_rfl) _ _, ?_⟩
    refine BIf.dec (fun _ => ?_) (fun _ => ?_)
    · refine call_pu (fun β w' hs => fmtUG_c w' u (by omega) (hs.mem.take (js := [2]) rfl)) ?_
      exact fin _
    · exact fin _
  · refine ⟨false, fun w => eql_if (by kernel_rfl) _ _ _ _, ?_⟩
    intro β w' hs
    exact (hs.keepB (List.nil_sublist _)).fin [] ⟨⟨n, false, rfl, fun h => by cases h⟩, rfl⟩
theorem numberedR_c (w : World) (s : ByteArray) (hs : s.size ≤ 1000000) (hm : Mem w [errF 6, errF 7, powF]) : Con Tryz.prog n_order_numbered #[.string s, .func (.func n_ring_Ring_Retire) #[.pointer none] #[]] w [] fun v Fs => (∃ e : Int, v = .tuple #[.string (mkS []), .int .i64 e] ∧ 1 ≤ e ∧ e ≤ 17) ∧ Fs = [] := by
  have g := good_order_numbered w (Un [])
  refine con_go (cx := cx_order_numbered w (Un [])) g b_order_numbered [.c (.v (.string s)), .c (.v (.func (.func n_ring_Ring_Retire) #[.pointer none] #[]))] [errF 6, errF 7, powF] hm ?_
  refine call_con [] (fun β w' hs' => numG_c w' s hs (hs'.mem.take (js := [0, 1, 2]) rfl)) ?_
  rintro v Fs ⟨⟨n, b, rfl, hn⟩, rfl⟩
  cases b with
  | false =>
    intro β w' hs
    exact (hs.keepB (List.nil_sublist _)).fin [] ⟨⟨4, rfl, by decide, by decide⟩, rfl⟩
  | true =>
    refine .inl ⟨by kernel_rfl, ?_⟩
    refine call_pu (fun β w' hs => retire0_c w' n) ?_
    refine call_pu (fun β w' hs => said_c w' 6) ?_
    exact fun β w' hs => (hs.keepB (List.nil_sublist _)).fin [] ⟨⟨6, rfl, by decide, by decide⟩, rfl⟩
theorem numberedT_c (w : World) (s : ByteArray) (hs : s.size ≤ 1000000) (hm : Mem w [errF 6, errF 7, powF]) : Con Tryz.prog n_order_numbered #[.string s, .func (.func n_ticket_Desk_Revoke) #[.pointer none] #[]] w [] fun v Fs => (∃ e : Int, v = .tuple #[.string (mkS []), .int .i64 e] ∧ 1 ≤ e ∧ e ≤ 17) ∧ Fs = [] := by
  have g := good_order_numbered w (Un [])
  refine con_go (cx := cx_order_numbered w (Un [])) g b_order_numbered [.c (.v (.string s)), .c (.v (.func (.func n_ticket_Desk_Revoke) #[.pointer none] #[]))] [errF 6, errF 7, powF] hm ?_
  refine call_con [] (fun β w' hs' => numG_c w' s hs (hs'.mem.take (js := [0, 1, 2]) rfl)) ?_
  rintro v Fs ⟨⟨n, b, rfl, hn⟩, rfl⟩
  cases b with
  | false =>
    intro β w' hs
    exact (hs.keepB (List.nil_sublist _)).fin [] ⟨⟨4, rfl, by decide, by decide⟩, rfl⟩
  | true =>
    refine .inl ⟨by kernel_rfl, ?_⟩
    refine call_pu (fun β w' hs => tkRevB_c w' n) ?_
    refine call_pu (fun β w' hs => said_c w' 6) ?_
    exact fun β w' hs => (hs.keepB (List.nil_sublist _)).fin [] ⟨⟨6, rfl, by decide, by decide⟩, rfl⟩
def cmdV (v : List UInt8) (A : Option Addr) (n c : Nat) : Value := .agg #[.string (mkS v), .slice A n c]
def tenAdd : List UInt8 := [116, 101, 110, 97, 110, 116, 45, 97, 100, 100]
def usrAdd : List UInt8 := [117, 115, 101, 114, 45, 97, 100, 100]
def shwUsr : List UInt8 := [115, 104, 111, 119, 45, 117, 115, 101, 114]
def argF (A : Option Addr) (a : List (List UInt8)) : Fact := rdF 1 A a.length (tx a)
theorem four_one (u : Value) (l : List (List UInt8)) (h : u ∈ tx l) : u.oneCell' = true := by
  obtain ⟨s, rfl⟩ := tx_one l u h
  rfl
set_option maxHeartbeats 1000000 in
theorem usersTen_c (w : World) (h b : Nat) (S : Sto) (n g0 r t : Value) (x : List UInt8) (hx : x.length ≤ 100000) (A : Option Addr) (c : Nat) (hm : Mem w ([stoF S, hndF h b S.b n g0 r t] ++ [argF A [x]])) :
    Con Tryz.prog n_order_Hands_users #[.pointer (some ⟨h, 0, none⟩), cmdV tenAdd A 1 c] w [stoF S, hndF h b S.b n g0 r t] fun v Fs => ∃ S' : Sto, S'.a = (addT S.a (mkS x)).2 ∧ S'.b = S.b ∧ v = .tuple #[.string (if (addT S.a (mkS x)).1 = 0 then mkS [111, 107] else mkS []), .int .i64 (addT S.a (mkS x)).1, .bool true] ∧ Fs = [stoF S', hndF h b S.b n g0 r t] := by
  have g := good_order_Hands_users w (Un [stoF S, hndF h b S.b n g0 r t])
  have hml := maxLen_eq
  refine con_go (cx := cx_order_Hands_users w (Un [stoF S, hndF h b S.b n g0 r t])) g b_order_Hands_users [.c (.v (.pointer (some ⟨h, 0, none⟩))), .agg [.v (.string (mkS tenAdd)), .v (.slice A 1 c)]] [argF A [x]] hm ?_
  refine call_con [] (fun β w' hs => clT_c w' A [x] c (hs.get 2 rfl) (by show 1 ≤ 100000; decide)) ?_
  rintro v Fs ⟨A1, c1, rfl, h1, rfl⟩
  intro b1
  refine ⟨1, 1, 4, tx [x], tx [[], [], []], tx [x, [], [], []], rfl, fun β w' hs => row_rd (hs.get 0 rfl), fun u hu => four_one u _ hu, rfl, rfl, by omega, by show 4 * 16 ≤ _; omega, ?_⟩
  intro A2 c2 p2 _ h2
  obtain ⟨ad2, rfl⟩ : ∃ ad, A2 = some ad := by
    cases A2 with
    | none => exact absurd (h2 rfl).2 (by decide)
    | some ad => exact ⟨ad, rfl⟩
  refine draw_rule g p_order_Hands_users_6 (by kernel_rfl) [] [rowF ty_string 1 (.slice (some ad2) 4 c2) 4 (tx [x, [], [], []]), hndF h b S.b n g0 r t] (Sub.of (List.nil_sublist _) (((((List.nil_sublist _).cons_cons _).cons _).cons_cons _).cons _)) ?_
  refine ⟨_, fun β w' hs => cell_bk (hs.get 1 rfl) (o := 1) rfl, ?_⟩
  refine ⟨_, 0, rfl, rfl, by omega, ?_⟩
  refine ⟨.string (mkS x), fun β w' hs => Rd.cell1 (row_rd (hs.get 0 rfl)) rfl, ?_⟩
  refine call_con [2] (fun β w' hs => addTenant_c w' S (mkS x) (by rw [mkS_len]; omega) (hs.mem.take (js := [2]) rfl)) ?_
  rintro v Fs ⟨S', rfl, hS1, hS2, rfl⟩
  refine ⟨Sub.of (List.nil_sublist _) ((((List.nil_sublist _).cons_cons _).cons_cons _).cons _ |>.cons _), ?_⟩
  refine call_pu (fun β w' hs => said_c w' _) ?_
  intro β w' hs
  exact (hs.keepB (List.nil_sublist _)).fin [0, 3] ⟨S', hS1, hS2, rfl, rfl⟩ rfl rfl rfl ⟨rfl, rfl, trivial⟩
theorem usersNo_c (w : World) (hp : Value) (v : List UInt8) (hv : v = usrAdd ∨ v = shwUsr) (A : Option Addr) (a : List (List UInt8)) (hn : a.length ≤ 1000) (c : Nat) (hm : Mem w [argF A a]) :
    Con Tryz.prog n_order_Hands_users #[hp, cmdV v A a.length c] w [] fun u Fs => u = .tuple #[.string (mkS []), .int .i64 0, .bool false] ∧ Fs = [] := by
  have g := good_order_Hands_users w (Un [])
  have hml := maxLen_eq
  refine con_go (cx := cx_order_Hands_users w (Un [])) g b_order_Hands_users [.c (.v hp), .agg [.v (.string (mkS v)), .v (.slice A a.length c)]] [argF A a] hm ?_
  refine call_con [] (fun β w' hs => clT_c w' A a c (hs.get 0 rfl) (by omega)) ?_
  rintro u Fs ⟨A1, c1, rfl, h1, rfl⟩
  intro b1
  refine ⟨1, a.length, a.length + 3, tx a, tx [[], [], []], tx (a ++ [[], [], []]), rfl, fun β w' hs => row_rd (hs.get 0 rfl), fun u hu => four_one u _ hu, rfl, by simp [tx], by omega, by show (a.length + 3) * 16 ≤ _; omega, ?_⟩
  intro A2 c2 p2 _ h2
  rcases hv with rfl | rfl
  · intro β w' hs
    exact (hs.keepB (List.nil_sublist _)).fin [] ⟨rfl, rfl⟩
  · intro β w' hs
    exact (hs.keepB (List.nil_sublist _)).fin [] ⟨rfl, rfl⟩
def passA (s : ByteArray) : ByteArray × Int := (mkS (sizF s.data.toList 64).1, (sizF s.data.toList 64).2)
theorem pass_c (w : World) (s : ByteArray) (hl : s.size ≤ 100000) (hn : NamT w) : Pu Tryz.prog n_name_Password #[.string s] w (.tuple #[.string (passA s).1, .int .i64 (passA s).2]) := by
  have g := good_name_Password w (Un [])
  refine con_of_sx (cx := cx_name_Password w (Un [])) g b_name_Password rfl rfl (β := Va.z) [.c (.v (.string s))] 0 [] [oldF w] rfl rfl (old_sat rfl) ?_
  refine call_pu (fun β w' hs => sized_c w' s 64 (by decide) hl (NamT.sat hs 0 rfl hn).f (NamT.sat hs 0 rfl hn).s5 (NamT.sat hs 0 rfl hn).s6 (NamT.sat hs 0 rfl hn).s4) ?_
  intro β w' hs
  exact hs.fin [] ⟨rfl, rfl⟩
theorem siz_len (l : List UInt8) (k : Nat) : (sizF l k).1.length ≤ k := by
  unfold sizF
  split
  · split
    · exact Nat.zero_le _
    · split
      · exact Nat.zero_le _
      · rename_i h; exact Nat.le_of_not_lt h
  · exact Nat.zero_le _
theorem mkS_size (l : List UInt8) : (mkS l).size = l.length := by simp [mkS, ByteArray.size]
theorem nameA_len (s : ByteArray) : (nameA s).1.size ≤ 32 := by rw [nameA, mkS_size]; exact siz_len _ 32
theorem passA_len (s : ByteArray) : (passA s).1.size ≤ 64 := by rw [passA, mkS_size]; exact siz_len _ 64
theorem saltedN_iff {n : Nat} {it : Int} : saltedN n it = decide (0 < n ∧ n ≤ 32 ∧ 0 < it ∧ it ≤ 64) := by
  unfold saltedN
  rw [Bool.eq_iff_iff]
  simp only [Bool.and_eq_true, decide_eq_true_eq]
  omega
theorem salted_ok {n : Nat} {it : Int} (h : saltedN n it = true) : 1 ≤ it ∧ it ≤ 64 ∧ n ≤ 32 := by
  rw [saltedN_iff] at h
  have := of_decide_eq_true h
  omega
def clientK : List UInt8 := [67, 108, 105, 101, 110, 116, 32, 75, 101, 121]
def serverK : List UInt8 := [83, 101, 114, 118, 101, 114, 32, 75, 101, 121]
def mkErr (tenant user pass : ByteArray) (n : Nat) (it : Int) : Int :=
  if plainF tenant.data.toList = false then 5 else if ¬ (nameA user).2 = 0 then (nameA user).2 else if ¬ (passA pass).2 = 0 then (passA pass).2 else if saltedN n it = false then 1 else 0
noncomputable def mk1 (B : Bx.Box) (p salt : List UInt8) (it : Nat) : List UInt8 × Bx.Box := strB B p salt it
noncomputable def mk2 (B : Bx.Box) (p salt : List UInt8) (it : Nat) : List UInt8 × Bx.Box := macB (mk1 B p salt it).2 (mk1 B p salt it).1 clientK
noncomputable def mk3 (B : Bx.Box) (p salt : List UInt8) (it : Nat) : List UInt8 × Bx.Box := hashB (mk2 B p salt it).2 (mk2 B p salt it).1
noncomputable def mk4 (B : Bx.Box) (p salt : List UInt8) (it : Nat) : List UInt8 × Bx.Box := macB (mk3 B p salt it).2 (mk1 B p salt it).1 serverK
noncomputable def mk5 (B : Bx.Box) (p salt : List UInt8) (it : Nat) (t : List UInt8) : List UInt8 × Bx.Box := hashB (mk4 B p salt it).2 t
structure MkG (B : Bx.Box) (p salt : List UInt8) (it : Nat) (t : List UInt8) : Prop where
  g1 : GoodT B (mk1 B p salt it)
  g2 : GoodT (mk1 B p salt it).2 (mk2 B p salt it)
  g3 : GoodT (mk2 B p salt it).2 (mk3 B p salt it)
  g4 : GoodT (mk3 B p salt it).2 (mk4 B p salt it)
  g5 : GoodT (mk4 B p salt it).2 (mk5 B p salt it t)
theorem mk_good {B : Bx.Box} (hi : BInv B) (hl : B.L.length < 4000) {p salt t : List UInt8} {it : Nat} (hp : p.length ≤ 1000000) (hs : salt.length ≤ 1000000) (ht : t.length ≤ 1000000) (hit : it ≤ 64) : MkG B p salt it t := by
  have g1 : GoodT B (mk1 B p salt it) := str_good hi (by omega) hp hs hit
  have l1 := g1.1.len
  have k1 := g1.2.1
  have g2 : GoodT (mk1 B p salt it).2 (mk2 B p salt it) := mac_good g1.1.inv (by omega) (by omega) (by decide)
  have l2 := g2.1.len
  have k2 := g2.2.1
  have g3 : GoodT (mk2 B p salt it).2 (mk3 B p salt it) := hash_good g2.1.inv (by omega) (by omega)
  have l3 := g3.1.len
  have g4 : GoodT (mk3 B p salt it).2 (mk4 B p salt it) := mac_good g3.1.inv (by omega) (by omega) (by decide)
  have l4 := g4.1.len
  exact ⟨g1, g2, g3, g4, hash_good g4.1.inv (by omega) ht⟩
theorem MkG.ext {B : Bx.Box} {p salt t : List UInt8} {it : Nat} (h : MkG B p salt it t) : (mk5 B p salt it t).2.L.length ≤ B.L.length + 5 ∧ BInv (mk5 B p salt it t).2 ∧ (mk5 B p salt it t).2.sym = B.sym := by
  have l1 := h.g1.1.len
  have l2 := h.g2.1.len
  have l3 := h.g3.1.len
  have l4 := h.g4.1.len
  have l5 := h.g5.1.len
  exact ⟨by omega, h.g5.1.inv, by rw [h.g5.1.sym, h.g4.1.sym, h.g3.1.sym, h.g2.1.sym, h.g1.1.sym]⟩
def colonS : ByteArray := ⟨#[58]⟩
def haT (u tenant p : ByteArray) : ByteArray := u ++ colonS ++ tenant ++ colonS ++ p
theorem haT_size (u tenant p : ByteArray) : (haT u tenant p).size = u.size + tenant.size + p.size + 2 := by
  have : colonS.size = 1 := rfl
  simp only [haT, ByteArray.size_append, this]
  omega
def noSec : Value := .agg #[.slice none 0 0, .int .i64 0, .slice none 0 0, .slice none 0 0, .slice none 0 0]
def madeSec (F : Bx.Box → Lay → Fact) (B : Bx.Box) (tenant user pass : ByteArray) (salt : List UInt8) (it : Int) (v : Value) (Fs : List Fact) : Prop :=
  ∃ A0 c0 A1 c1 A2 c2 A3 c3 y',
    v = .tuple #[(SecA.mk A0 A1 A2 A3 c0 c1 c2 c3 salt (mk3 B (passA pass).1.data.toList salt it.toNat).1 (mk4 B (passA pass).1.data.toList salt it.toNat).1 (mk5 B (passA pass).1.data.toList salt it.toNat (haT (nameA user).1 tenant (passA pass).1).data.toList).1 it).val, .int .i64 0] ∧
    y'.ts.map (·.1) = (mk5 B (passA pass).1.data.toList salt it.toNat (haT (nameA user).1 tenant (passA pass).1).data.toList).2.L ∧
    Fs = [browF ty_uint8 A3 (mk5 B (passA pass).1.data.toList salt it.toNat (haT (nameA user).1 tenant (passA pass).1).data.toList).1 c3, browF ty_uint8 A2 (mk4 B (passA pass).1.data.toList salt it.toNat).1 c2, browF ty_uint8 A1 (mk3 B (passA pass).1.data.toList salt it.toNat).1 c1, browF ty_uint8 A0 salt c0, F (mk5 B (passA pass).1.data.toList salt it.toNat (haT (nameA user).1 tenant (passA pass).1).data.toList).2 y']
def makeOut (F : Bx.Box → Lay → Fact) (B : Bx.Box) (y : Lay) (tenant user pass : ByteArray) (salt : List UInt8) (it : Int) (v : Value) (Fs : List Fact) : Prop :=
  if mkErr tenant user pass salt.length it = 0 then madeSec F B tenant user pass salt it v Fs
  else v = .tuple #[noSec, .int .i64 (mkErr tenant user pass salt.length it)] ∧ Fs = [F B y]
theorem makeOut_no {F : Bx.Box → Lay → Fact} {B : Bx.Box} {y : Lay} {tenant user pass : ByteArray} {salt : List UInt8} {it e : Int} (h : mkErr tenant user pass salt.length it = e) (h0 : ¬ e = 0) : makeOut F B y tenant user pass salt it (.tuple #[noSec, .int .i64 e]) [F B y] := by
  unfold makeOut
  rw [h, if_neg h0]
  exact ⟨rfl, rfl⟩
set_option maxHeartbeats 2000000 in
theorem make_c (w : World) (b : Nat) (B : Bx.Box) (y : Lay) (tenant user pass : ByteArray) (S : Option Addr) (salt : List UInt8) (cS : Nat) (it : Int) (hts : y.ts.map (·.1) = B.L) (hi : BInv B) (hL : B.L.length < 4000) (ht : tenant.size ≤ 100000) (hu : user.size ≤ 100000) (hp : pass.size ≤ 100000) (hsl : salt.length ≤ 100000)
    (hm : Mem w [bxF b B y, bsF S salt, oddF 5, firstF 2, namF]) :
    Con Tryz.prog n_cred_Make #[ptrB b, .string tenant, .string user, .string pass, .slice S salt.length cS, .int .i64 it] w [bxF b B y] (makeOut (bxF b) B y tenant user pass salt it) := by
  have g := good_cred_Make w (Un [bxF b B y])
  have hml := maxLen_eq
  have hs0 : Sat (cx_cred_Make w (Un [bxF b B y])) Va.z 0 [] [bxF b B y, bsF S salt, oddF 5, firstF 2, namF] w := hm.sat0 rfl (ownIn (Gs := [bxF b B y]) (fun f hf => by
    simp only [List.mem_cons, List.not_mem_nil, or_false] at hf
    rcases hf with rfl | rfl | rfl | rfl <;> rfl))
  refine con_of_sx (cx := cx_cred_Make w (Un [bxF b B y])) g b_cred_Make rfl rfl (β := Va.z) [.c (.v (ptrB b)), .c (.v (.string tenant)), .c (.v (.string user)), .c (.v (.string pass)), .c (.v (.slice S salt.length cS)), .c (.v (.int .i64 it))] 0 [] _ rfl rfl hs0 ?_
  have bad : ∀ {e : Int}, mkErr tenant user pass salt.length it = e → ¬ e = 0 → ∀ {n : Nat} {H : List Bk} (β : Va) (w' : World), Sat (cx_cred_Make w (Un [bxF b B y])) β n H [bxF b B y, bsF S salt, oddF 5, firstF 2, namF] w' → Fin w [bxF b B y] (makeOut (bxF b) B y tenant user pass salt it) (.tuple #[noSec, .int .i64 e]) w' := by
    intro e h h0 n H β w' hs
    exact (hs.keepB (List.nil_sublist _)).fin [0] (makeOut_no h h0)
  obtain ⟨b1, hb1⟩ : ∃ b1, plainF tenant.data.toList = b1 := ⟨_, rfl⟩
  refine call_pu (v := .bool b1) (fun β w' hs => by rw [← hb1]; exact plain_c w' tenant ht) ?_
  cases b1 with
  | false => exact fun β w' hs => bad (by unfold mkErr; rw [if_pos hb1]) (by decide) β w' hs
  | true =>
  obtain ⟨un, ue, hun⟩ : ∃ un ue, nameA user = (un, ue) := ⟨_, _, rfl⟩
  have hul := nameA_len user
  rw [hun] at hul
  simp only at hul
  refine call_pu (v := .tuple #[.string un, .int .i64 ue]) (fun β w' hs => by
    have h := nameA_c w' user hu (namF_T (hs.get 4 rfl))
    rw [hun] at h
    exact h) ?_
  refine BIf.not (BIf.dec (fun h1 => ?_) (fun h1 => ?_))
  rotate_left
  · exact fun β w' hs => bad (by unfold mkErr; rw [if_neg (by rw [hb1]; decide), hun, if_pos h1]) h1 β w' hs
  obtain rfl : ue = 0 := h1
  obtain ⟨pn, pe, hpn⟩ : ∃ pn pe, passA pass = (pn, pe) := ⟨_, _, rfl⟩
  have hpl := passA_len pass
  rw [hpn] at hpl
  simp only at hpl
  refine call_pu (v := .tuple #[.string pn, .int .i64 pe]) (fun β w' hs => by
    have h := pass_c w' pass hp (namF_T (hs.get 4 rfl))
    rw [hpn] at h
    exact h) ?_
  refine BIf.not (BIf.dec (fun h2 => ?_) (fun h2 => ?_))
  rotate_left
  · exact fun β w' hs => bad (by unfold mkErr; rw [if_neg (by rw [hb1]; decide), hun, if_neg (by simp), hpn, if_pos h2]) h2 β w' hs
  obtain rfl : pe = 0 := h2
  obtain ⟨b2, hb2⟩ : ∃ b2, saltedN salt.length it = b2 := ⟨_, rfl⟩
  refine call_pu (v := .bool b2) (fun β w' hs => by rw [← hb2]; exact csalted_c w' S salt.length cS it) ?_
  cases b2 with
  | false => exact fun β w' hs => bad (by unfold mkErr; rw [if_neg (by rw [hb1]; decide), hun, if_neg (by simp), hpn, if_neg (by simp), if_pos hb2]) (by decide) β w' hs
  | true =>
  obtain ⟨hit1, hit2, hs32⟩ := salted_ok hb2
  have hout : makeOut (bxF b) B y tenant user pass salt it = madeSec (bxF b) B tenant user pass salt it := by
    funext v Fs
    unfold makeOut
    rw [if_pos (by unfold mkErr; rw [if_neg (by rw [hb1]; decide), hun, if_neg (by simp), hpn, if_neg (by simp), if_neg (by rw [hb2]; decide)])]
  rw [hout]
  unfold madeSec
  rw [hun, hpn]
  simp only
  clear hout bad
  have hpl2 : pn.data.toList.length ≤ 64 := hpl
  have hht := haT_size un tenant pn
  have ht32 : tenant.size ≤ 32 := by
    unfold plainF at hb1
    simp only [Bool.and_eq_true, decide_eq_true_eq] at hb1
    exact hb1.2.2
  have hG := mk_good hi hL (p := pn.data.toList) (salt := salt) (it := it.toNat) (t := (haT un tenant pn).data.toList) (by omega) (by omega) (by show (haT un tenant pn).size ≤ _; omega) (by omega)
  intro bp cp hcp _
  refine call_con [1] (R := strL (bxF b) (mk1 B pn.data.toList salt it.toNat)) (fun β w' hs => strL_c w' b B y (some ⟨bp, 0, none⟩) S pn.data.toList salt cp cS it ⟨hit1, hit2⟩ hts hi (by omega) (by omega) (by omega) ((hs.unown 0 rfl).mem.take (js := [1, 0, 2, 3, 4]) rfl)) ?_
  rintro v Fs ⟨A1, c1, y1, rfl, q1, q2, hts1, rfl⟩
  have l1 := hG.g1.1.len
  have k1 := hG.g1.2.1
  intro bc
  refine ⟨0, _, rfl, ?_⟩
  intro br
  refine call_con [3] (R := outL (bxF b) (mk2 B pn.data.toList salt it.toNat)) (fun β w' hs => by
    have h2 := ((hs.rowRd 0 rfl).ro 2 rfl).part1 (l := clientK) [0, 1] rfl
    exact macL_c w' b _ y1 A1 _ c1 br _ clientK 10 hts1 hG.g1.1.inv (by omega) (by omega) (by decide) (h2.mem.take (js := [4, 0, 3, 7, 8]) rfl)) ?_
  rintro v Fs ⟨A2, c2, y2, rfl, q3, q4, hts2, rfl⟩
  have l2 := hG.g2.1.len
  have k2 := hG.g2.2.1
  refine call_con [] (fun β w' hs => clone_c w' S salt cS (hs.get 6 rfl) (by omega)) ?_
  rintro v Fs ⟨A0, c0, rfl, q5, q6, rfl⟩
  intro br2
  refine call_con [3] (R := outL (bxF b) (mk3 B pn.data.toList salt it.toNat)) (fun β w' hs => by
    have h2 := ((hs.rowRd 0 rfl).ro 2 rfl).part1 (l := (mk2 B pn.data.toList salt it.toNat).1) [0, 2] rfl
    exact hashL_c w' b _ y2 br2 A2 _ c2 hts2 hG.g2.1.inv (by omega) (by omega) (h2.mem.take (js := [4, 0, 10, 11]) rfl)) ?_
  rintro v Fs ⟨A3, c3, y3, rfl, q7, q8, hts3, rfl⟩
  have l3 := hG.g3.1.len
  have k3 := hG.g3.2.1
  intro bs
  refine ⟨0, _, rfl, ?_⟩
  intro br3
  refine call_con [3] (R := outL (bxF b) (mk4 B pn.data.toList salt it.toNat)) (fun β w' hs => by
    have h2 := ((hs.rowRd 0 rfl).ro 9 rfl).part1 (l := serverK) [0, 1] rfl
    exact macL_c w' b _ y3 A1 _ c1 br3 _ serverK 10 hts3 hG.g3.1.inv (by omega) (by omega) (by decide) (h2.mem.take (js := [4, 0, 10, 13, 14]) rfl)) ?_
  rintro v Fs ⟨A4, c4, y4, rfl, q9, q10, hts4, rfl⟩
  have l4 := hG.g4.1.len
  have k4 := hG.g4.2.1
  have hcs : colonS.size = 1 := rfl
  refine ⟨by show un.size + 1 ≤ maxLen; omega, by show (un ++ colonS).size + tenant.size ≤ maxLen; rw [ByteArray.size_append]; omega, by show (un ++ colonS ++ tenant).size + 1 ≤ maxLen; rw [ByteArray.size_append, ByteArray.size_append]; omega, by show (un ++ colonS ++ tenant ++ colonS).size + pn.size ≤ maxLen; rw [ByteArray.size_append, ByteArray.size_append, ByteArray.size_append]; omega, ?_⟩
  intro bh ch hch _
  intro br4
  refine call_con [3] (R := outL (bxF b) (mk5 B pn.data.toList salt it.toNat (haT un tenant pn).data.toList)) (fun β w' hs => by
    have h2 := ((hs.rowRd 0 rfl).unown 1 rfl).part1 (l := (haT un tenant pn).data.toList) [0, 1] rfl
    exact hashL_c w' b _ y4 br4 (some ⟨bh, 0, none⟩) (haT un tenant pn).data.toList ch hts4 hG.g4.1.inv (by omega) (by show (haT un tenant pn).size ≤ _; omega) (h2.mem.take (js := [4, 0, 16, 17]) rfl)) ?_
  rintro v Fs ⟨A5, c5, y5, rfl, q11, q12, hts5, rfl⟩
  intro β w' hs
  exact (hs.keepB (List.nil_sublist _)).fin [0, 4, 7, 9, 1] ⟨A0, c0, A3, c3, A4, c4, A5, c5, y5, rfl, hts5, rfl⟩ rfl rfl rfl ⟨rfl, rfl, rfl, rfl, rfl, trivial⟩
theorem num4_c (w : World) : Pu Tryz.prog n_order_number #[.string (mkS [52])] w (.tuple #[.int .u64 4, .bool true]) := by
  have g := good_order_number w (Un [])
  refine con_of_sx (cx := cx_order_number w (Un [])) g b_order_number rfl rfl (β := Va.z) [.c (.v (.string (mkS [52])))] 0 [] [] rfl rfl (Sat.start rfl) ?_
  refine call_pu (v := .tuple #[.int .u64 ((4 : Nat) : Int), .nilIface]) (fun β w' hs => parseU_c w' (mkS [52]) 4 (by decide) (by decide)) ?_
  refine ⟨true, fun w => eql_nil (by kernel_rfl) _ _, ?_⟩
  refine call_pu (v := .string (mkS [52])) (fun β w' hs => by
    have h := fmtU_c w' 4 (by decide)
    have e : decimS 4 = mkS [52] := by decide +kernel
    rw [e] at h
    exact h) ?_
  intro β w' hs
  exact hs.fin [] ⟨rfl, rfl⟩
def annO : List UInt8 := [97, 110, 110]
def penO : List UInt8 := [112, 101, 110, 99, 105, 108]
def exA : List (List UInt8) := [[116], annO, penO, [48, 49, 48, 50], [52]]
set_option maxHeartbeats 1000000 in
theorem secEx_c (w : World) (h b us : Nat) (n g0 r t : Value) (B : Bx.Box) (y : Lay) (hts : y.ts.map (·.1) = B.L) (hi : BInv B) (hL : B.L.length < 4000) (A : Option Addr) (c : Nat) (hm : Mem w ([bxF b B y, hndF h b us n g0 r t] ++ [argF A exA, oddF 5, firstF 2, namF])) :
    Con Tryz.prog n_order_Hands_secret #[.pointer (some ⟨h, 0, none⟩), .slice A 5 c] w [bxF b B y, hndF h b us n g0 r t] fun v Fs => ∃ Fs', Fs = Fs' ++ [hndF h b us n g0 r t] ∧ madeSec (bxF b) B (mkS [116]) (mkS annO) (mkS penO) [1, 2] 4 v Fs' := by
  have g := good_order_Hands_secret w (Un [bxF b B y, hndF h b us n g0 r t])
  refine con_go (cx := cx_order_Hands_secret w (Un [bxF b B y, hndF h b us n g0 r t])) g b_order_Hands_secret [.c (.v (.pointer (some ⟨h, 0, none⟩))), .c (.v (.slice A 5 c))] [argF A exA, oddF 5, firstF 2, namF] hm ?_
  have hA : Rd 1 A 5 (tx exA) w := hm.fact (argF A exA) (by simp)
  obtain ⟨ad, rfl, _⟩ := hA.2 (by decide)
  have at_ : ∀ (k : Nat) (x : List UInt8), exA[k]? = some x → ∀ w', (argF (some ad) exA).p w' → w'.cell? (ad.add (k * 1)) = some (.string (mkS x)) := fun k x hk w' hw => Rd.cell1 (hw : Rd 1 (some ad) 5 (tx exA) w') (by unfold tx; rw [List.getElem?_map, hk]; rfl)
  refine ⟨_, 3, rfl, rfl, by omega, ?_⟩
  refine ⟨.string (mkS [48, 49, 48, 50]), fun β w' hs => at_ 3 _ rfl w' (hs.get 2 rfl), ?_⟩
  refine call_con [] (fun β w' hs => Unhex_c w' [48, 49, 48, 50] (by decide)) ?_
  rintro v Fs ⟨A1, l1, c1, e, rfl, he, hc1, rfl⟩
  have hu : unhexA [48, 49, 48, 50] = some [1, 2] := by decide +kernel
  rw [hu] at he
  rcases he with ⟨rfl, h0⟩ | ⟨_, h0⟩
  rotate_left
  · cases h0
  obtain rfl := Option.some.inj h0
  refine ⟨_, 4, rfl, rfl, by omega, ?_⟩
  refine ⟨.string (mkS [52]), fun β w' hs => at_ 4 _ rfl w' (hs.get 3 rfl), ?_⟩
  refine call_pu (fun β w' hs => num4_c w') ?_
  refine draw_rule g p_order_Hands_secret_5 (by kernel_rfl) [] [hndF h b us n g0 r t, argF (some ad) exA] (Sub.of (List.nil_sublist _) (((((List.nil_sublist _).cons_cons _).cons_cons _).cons _).cons _)) ?_
  refine ⟨.pointer (some ⟨b, 0, none⟩), fun β w' hs => cell_bk (hs.get 0 rfl) (o := 0) rfl, ?_⟩
  refine ⟨_, 0, rfl, rfl, by omega, ?_⟩
  refine ⟨.string (mkS [116]), fun β w' hs => at_ 0 _ rfl w' (hs.get 1 rfl), ?_⟩
  refine ⟨_, 1, rfl, rfl, by omega, ?_⟩
  refine ⟨.string (mkS annO), fun β w' hs => at_ 1 _ rfl w' (hs.get 1 rfl), ?_⟩
  refine ⟨_, 2, rfl, rfl, by omega, ?_⟩
  refine ⟨.string (mkS penO), fun β w' hs => at_ 2 _ rfl w' (hs.get 1 rfl), ?_⟩
  refine ⟨4, by show min (4 : Int) 1048576 = 4; decide, ?_⟩
  refine ⟨((4 : Nat) : Int), by rw [wrap_i64 (by omega) (by omega)]; rfl, ?_⟩
  have herr : mkErr (mkS [116]) (mkS annO) (mkS penO) ([1, 2] : List UInt8).length 4 = 0 := by decide +kernel
  refine call_con [1] (R := madeSec (bxF b) B (mkS [116]) (mkS annO) (mkS penO) [1, 2] 4) (fun β w' hs => (make_c w' b B y (mkS [116]) (mkS annO) (mkS penO) A1 [1, 2] c1 4 hts hi hL (by decide) (by decide) (by decide) (by decide) ((hs.ro 0 rfl).mem.take (js := [1, 0, 4, 5, 6]) rfl)).mono (fun v Fs h => by unfold makeOut at h; rw [if_pos herr] at h; exact h)) ?_
  rintro v Fs ⟨A5, c5, A6, c6, A7, c7, A8, c8, y2, rfl, hy2, rfl⟩
  generalize hq5 : mk5 B (passA (mkS penO)).1.data.toList [1, 2] (4 : Int).toNat (haT (nameA (mkS annO)).1 (mkS [116]) (passA (mkS penO)).1).data.toList = q5 at *
  generalize hq4 : mk4 B (passA (mkS penO)).1.data.toList [1, 2] (4 : Int).toNat = q4 at *
  generalize hq3 : mk3 B (passA (mkS penO)).1.data.toList [1, 2] (4 : Int).toNat = q3 at *
  refine ⟨Sub.of (List.nil_sublist _) (((((((((List.nil_sublist _).cons_cons _).cons_cons _).cons _).cons _).cons _).cons _).cons _).cons _), ?_⟩
  refine ⟨Sub.of (List.nil_sublist _) (((((((((List.nil_sublist _).cons_cons _).cons_cons _).cons _).cons _).cons _).cons _).cons _).cons _), ?_⟩
  intro β w' hs
  refine (hs.keepB (List.nil_sublist _)).fin [0, 1, 2, 3, 4, 6] ⟨[browF ty_uint8 A8 q5.1 c8, browF ty_uint8 A7 q4.1 c7, browF ty_uint8 A6 q3.1 c6, browF ty_uint8 A5 [1, 2] c5, bxF b q5.2 y2], rfl, A5, c5, A6, c6, A7, c7, A8, c8, y2, ?_, ?_, ?_⟩ rfl rfl rfl ⟨rfl, rfl, rfl, rfl, rfl, rfl, trivial⟩
  · rw [hq3, hq4, hq5]
    rfl
  · rw [hq5]
    exact hy2
  · rw [hq3, hq4, hq5]
def noSecB : Value := .agg #[.slice none 0 0, .int .i64 0, .slice none 0 0, .slice none 0 0, .slice none 0 0]
theorem makeB_c (w : World) (tenant user pass : ByteArray) (S : Value) (it : Int) : Pu Tryz.prog n_cred_Make #[.pointer none, .string tenant, .string user, .string pass, S, .int .i64 it] w (.tuple #[noSecB, .int .i64 6]) := by
  have g := good_cred_Make w (Un [])
  refine con_of_sx (cx := cx_cred_Make w (Un [])) g b_cred_Make rfl rfl (β := Va.z) [.c (.v (.pointer none)), .c (.v (.string tenant)), .c (.v (.string user)), .c (.v (.string pass)), .c (.v S), .c (.v (.int .i64 it))] 0 [] [] rfl rfl (Sat.start rfl) ?_
  intro β w' hs
  exact (hs.keepB (List.nil_sublist _)).fin [] ⟨rfl, rfl⟩
theorem secB_c (w : World) (h : Nat) (pv : Value) (A : Option Addr) (c : Nat) (a0 a1 a2 a3 a4 : List UInt8) (z3 : a3.length ≤ 100000) (z4 : a4.length ≤ 100000) (hm : Mem w [roX (hbF h pv), argF A [a0, a1, a2, a3, a4], errF 6, errF 7, powF]) :
    Con Tryz.prog n_order_Hands_secret #[.pointer (some ⟨h, 0, none⟩), .slice A 5 c] w [] fun v Fs => (∃ e : Int, v = .tuple #[noSecB, .int .i64 e] ∧ 1 ≤ e ∧ e ≤ 17) ∧ Fs = [] := by
  have g := good_order_Hands_secret w (Un [])
  refine con_go (cx := cx_order_Hands_secret w (Un [])) g b_order_Hands_secret [.c (.v (.pointer (some ⟨h, 0, none⟩))), .c (.v (.slice A 5 c))] [roX (hbF h pv), argF A [a0, a1, a2, a3, a4], errF 6, errF 7, powF] hm ?_
  have hA : Rd 1 A 5 (tx [a0, a1, a2, a3, a4]) w := hm.fact (argF A [a0, a1, a2, a3, a4]) (by simp)
  obtain ⟨ad, rfl, _⟩ := hA.2 (by decide)
  have at_ : ∀ (k : Nat) (x : List UInt8), [a0, a1, a2, a3, a4][k]? = some x → ∀ w', (argF (some ad) [a0, a1, a2, a3, a4]).p w' → w'.cell? (ad.add (k * 1)) = some (.string (mkS x)) := fun k x hk w' hw => Rd.cell1 (hw : Rd 1 (some ad) 5 (tx [a0, a1, a2, a3, a4]) w') (by unfold tx; rw [List.getElem?_map, hk]; rfl)
  refine ⟨_, 3, rfl, rfl, by omega, ?_⟩
  refine ⟨.string (mkS a3), fun β w' hs => at_ 3 _ rfl w' (hs.get 1 rfl), ?_⟩
  refine call_con [] (fun β w' hs => Unhex_c w' a3 (by omega)) ?_
  rintro v Fs ⟨A1, l1, c1, e, rfl, he, hc1, rfl⟩
  refine ⟨_, 4, rfl, rfl, by omega, ?_⟩
  refine ⟨.string (mkS a4), fun β w' hs => at_ 4 _ rfl w' (hs.get 2 rfl), ?_⟩
  refine call_con [] (fun β w' hs => numG_c w' (mkS a4) (by rw [mkS_sz1]; omega) (hs.mem.take (js := [3, 4, 5]) rfl)) ?_
  rintro v Fs ⟨⟨n, b, rfl, hn⟩, rfl⟩
  refine BIf.not (BIf.dec (fun _ => ?_) (fun _ => ?_))
  rotate_left
  · intro β w' hs
    exact (hs.keepB (List.nil_sublist _)).fin [] ⟨⟨4, rfl, by decide, by decide⟩, rfl⟩
  cases b with
  | false =>
    intro β w' hs
    exact (hs.keepB (List.nil_sublist _)).fin [] ⟨⟨4, rfl, by decide, by decide⟩, rfl⟩
  | true =>
    have hn := hn rfl
    refine draw_rule g p_order_Hands_secret_5 (by kernel_rfl) [] [roX (hbF h pv), argF (some ad) [a0, a1, a2, a3, a4]] (Sub.of (List.nil_sublist _) ((((List.nil_sublist _).cons_cons _).cons_cons _).cons _)) ?_
    refine ⟨.pointer none, fun β w' hs => hb_cell (hs.get 0 rfl) (o := 0) rfl, ?_⟩
    refine ⟨_, 0, rfl, rfl, by omega, ?_⟩
    refine ⟨.string (mkS a0), fun β w' hs => at_ 0 _ rfl w' (hs.get 1 rfl), ?_⟩
    refine ⟨_, 1, rfl, rfl, by omega, ?_⟩
    refine ⟨.string (mkS a1), fun β w' hs => at_ 1 _ rfl w' (hs.get 1 rfl), ?_⟩
    refine ⟨_, 2, rfl, rfl, by omega, ?_⟩
    refine ⟨.string (mkS a2), fun β w' hs => at_ 2 _ rfl w' (hs.get 1 rfl), ?_⟩
    refine ⟨((min n 1048576 : Nat) : Int), by show min (n : Int) 1048576 = _; omega, ?_⟩
    refine ⟨((min n 1048576 : Nat) : Int), by rw [wrap_i64 (by omega) (by omega)], ?_⟩
    refine call_pu (fun β w' hs => makeB_c w' (mkS a0) (mkS a1) (mkS a2) _ _) ?_
    refine ⟨Sub.of (List.nil_sublist _) ((((List.nil_sublist _).cons_cons _).cons_cons _).cons _), ?_⟩
    refine ⟨Sub.of (List.nil_sublist _) ((((List.nil_sublist _).cons_cons _).cons_cons _).cons _), ?_⟩
    exact fun β w' hs => (hs.keepB (List.nil_sublist _)).fin [] ⟨⟨6, rfl, by decide, by decide⟩, rfl⟩
def errR (v : Value) (Fs : List Fact) : Prop := (∃ (s : ByteArray) (e : Int), v = .tuple #[.string s, .int .i64 e] ∧ 0 ≤ e ∧ e ≤ 17) ∧ Fs = []
theorem userB_c (w : World) (h : Nat) (pv : Value) (v0 : ByteArray) (A : Option Addr) (c : Nat) (a0 a1 a2 a3 a4 : List UInt8) (z3 : a3.length ≤ 100000) (z4 : a4.length ≤ 100000) (hm : Mem w [roX (hbF h pv), argF A [a0, a1, a2, a3, a4], errF 6, errF 7, powF]) :
    Con Tryz.prog n_order_Hands_user #[.pointer (some ⟨h, 0, none⟩), .agg #[.string v0, .slice A 5 c]] w [] errR := by
  have g := good_order_Hands_user w (Un [])
  refine con_go (cx := cx_order_Hands_user w (Un [])) g b_order_Hands_user [.c (.v (.pointer (some ⟨h, 0, none⟩))), .agg [.v (.string v0), .v (.slice A 5 c)]] [roX (hbF h pv), argF A [a0, a1, a2, a3, a4], errF 6, errF 7, powF] hm ?_
  refine call_con [] (fun β w' hs => secB_c w' h pv A c a0 a1 a2 a3 a4 z3 z4 (hs.mem.take (js := [0, 1, 2, 3, 4]) rfl)) ?_
  rintro v Fs ⟨⟨e, rfl, he1, he2⟩, rfl⟩
  refine BIf.not (BIf.dec (fun he => ?_) (fun _ => ?_))
  · exact absurd (show e = 0 from he) (by omega)
  · exact fun β w' hs => (hs.keepB (List.nil_sublist _)).fin [] ⟨⟨_, e, rfl, by omega, he2⟩, rfl⟩
end Go.Proofs.YteenjgfbbkdlhaaGreatDoor.Sx

namespace Go.Proofs.YteenjgfbbkdlhaaGreatDoor.Sx
open Go
def catW (us : List (List UInt8)) : List UInt8 := us.flatMap fun u => 32 :: u
theorem join_cat (v : List UInt8) (us : List (List UInt8)) : Lib.join (v :: us) [32] = v ++ catW us := by
  rw [Lib.join_cons]
  unfold Lib.joinTail catW
  rw [List.flatMap_def]
  rfl
end Go.Proofs.YteenjgfbbkdlhaaGreatDoor.Sx

namespace Go.Proofs.YteenjgfbbkdlhaaGreatDoor.Sx
open Go
attribute [local irreducible] Calls
def secX (A0 A1 A2 A3 : Option Addr) (c0 c1 c2 c3 : Nat) (a : ASec) : SecV := ⟨A0, a.salt.length, c0, a.iter, A1, a.stored.length, c1, A2, a.server.length, c2, A3, a.ha1.length, c3⟩
theorem Sat.secRows {cx : Cx} {β : Va} {n : Nat} {H : List Bk} {w : World} {F : List Fact} {A0 A1 A2 A3 : Option Addr} {c0 c1 c2 c3 : Nat} {a : ASec} (h : Sat cx β n H F w) (js : List Nat)
    (hj : takeIx F js = [browF ty_uint8 A3 a.ha1 c3, browF ty_uint8 A2 a.server c2, browF ty_uint8 A1 a.stored c1, browF ty_uint8 A0 a.salt c0]) (hn : nodupB js = true := by rfl) : Sat cx β n H (secF (secX A0 A1 A2 A3 c0 c1 c2 c3 a) a :: dropIx js 0 F) w := by
  refine h.fuse js (secF (secX A0 A1 A2 A3 c0 c1 c2 c3 a) a) (fun w hm => ?_) (fun k hk => ?_) hn (by rw [hj]; exact ⟨rfl, rfl, rfl, rfl, trivial⟩)
  · rw [hj] at hm
    exact ⟨rfl, rfl, rfl, rfl, rfl, row_rd (hm.fact (browF ty_uint8 A0 a.salt c0) (by simp)), row_rd (hm.fact (browF ty_uint8 A1 a.stored c1) (by simp)), row_rd (hm.fact (browF ty_uint8 A2 a.server c2) (by simp)), row_rd (hm.fact (browF ty_uint8 A3 a.ha1 c3) (by simp))⟩
  · rw [hj]
    obtain ⟨f, hf, hk⟩ := hk
    simp only [secX, List.mem_cons, List.not_mem_nil, or_false] at hf
    rcases hf with rfl | rfl | rfl | rfl
    all_goals
      obtain ⟨_, ad, q, rfl⟩ := hk
      subst q
    · exact ⟨browF ty_uint8 (some ad) a.salt c0, by simp, rfl⟩
    · exact ⟨browF ty_uint8 (some ad) a.stored c1, by simp, rfl⟩
    · exact ⟨browF ty_uint8 (some ad) a.server c2, by simp, rfl⟩
    · exact ⟨browF ty_uint8 (some ad) a.ha1 c3, by simp, rfl⟩
theorem nameA_ann : nameA (mkS annO) = (mkS annO, 0) := by
  have e : sizF annO 32 = (annO, 0) := by decide +kernel
  show (mkS (sizF annO 32).1, (sizF annO 32).2) = _
  rw [e]
theorem addT_ex : addT (sto0 0 0).a (mkS [116]) = (0, ⟨[(mkS [116], [])], 0, 0⟩) := by
  have e : plainF (mkS [116]).data.toList = true := by decide +kernel
  unfold addT
  rw [e]
  rfl
theorem addU_ex {a : ASec} (hr : rightA a = true) : (addU (addT (sto0 0 0).a (mkS [116])).2 (mkS [116]) (mkS annO) a).1 = 0 := by
  rw [addT_ex]
  unfold addU
  rw [show aten (ASto.ts ⟨[(mkS [116], [])], 0, 0⟩) (mkS [116]) = some [] from if_pos rfl]
  simp only [nameA_ann, hr]
  rfl
set_option maxHeartbeats 1000000 in
theorem userEx_c (w : World) (h b : Nat) (S : Sto) (n g0 r t : Value) (B : Bx.Box) (y : Lay) (hts : y.ts.map (·.1) = B.L) (hi : BInv B) (hL : B.L.length < 4000) (hS : S.a = (addT (sto0 0 0).a (mkS [116])).2) (A : Option Addr) (c : Nat) (hm : Mem w ([bxF b B y, hndF h b S.b n g0 r t, stoF S] ++ [argF A exA, oddF 5, firstF 2, namF])) :
    Con Tryz.prog n_order_Hands_user #[.pointer (some ⟨h, 0, none⟩), cmdV usrAdd A 5 c] w [bxF b B y, hndF h b S.b n g0 r t, stoF S] fun v Fs => ∃ (S' : Sto) (a : ASec) (B' : Bx.Box) (y' : Lay), S'.a = (addU S.a (mkS [116]) (mkS annO) a).2 ∧ S'.b = S.b ∧ rightA a = true ∧ v = .tuple #[.string (mkS [111, 107]), .int .i64 0] ∧ Fs = [stoF S', hndF h b S.b n g0 r t, bxF b B' y'] := by
  have g := good_order_Hands_user w (Un [bxF b B y, hndF h b S.b n g0 r t, stoF S])
  refine con_go (cx := cx_order_Hands_user w (Un [bxF b B y, hndF h b S.b n g0 r t, stoF S])) g b_order_Hands_user [.c (.v (.pointer (some ⟨h, 0, none⟩))), .agg [.v (.string (mkS usrAdd)), .v (.slice A 5 c)]] [argF A exA, oddF 5, firstF 2, namF] hm ?_
  refine call_con [0, 1] (fun β w' hs => secEx_c w' h b S.b n g0 r t B y hts hi hL A c (hs.mem.take (js := [0, 1, 3, 4, 5, 6]) rfl)) ?_
  rintro v Fs ⟨Fs', rfl, A0, c0, A1, c1, A2, c2, A3, c3, y2, rfl, hy2, rfl⟩
  have hG := mk_good (B := B) hi hL (p := (passA (mkS penO)).1.data.toList) (salt := [1, 2]) (t := (haT (nameA (mkS annO)).1 (mkS [116]) (passA (mkS penO)).1).data.toList) (it := (4 : Int).toNat) (by decide +kernel) (by decide) (by decide +kernel) (by decide)
  have l3 := hG.g3.2.1
  have l4 := hG.g4.2.1
  have l5 := hG.g5.2.1
  clear hG hy2
  generalize mk5 B (passA (mkS penO)).1.data.toList [1, 2] (4 : Int).toNat (haT (nameA (mkS annO)).1 (mkS [116]) (passA (mkS penO)).1).data.toList = q5 at *
  generalize mk4 B (passA (mkS penO)).1.data.toList [1, 2] (4 : Int).toNat = q4 at *
  generalize mk3 B (passA (mkS penO)).1.data.toList [1, 2] (4 : Int).toNat = q3 at *
  obtain ⟨q5, B5⟩ := q5
  obtain ⟨q4, B4⟩ := q4
  obtain ⟨q3, B3⟩ := q3
  simp only at l3 l4 l5
  have hA : Rd 1 A 5 (tx exA) w := hm.fact (argF A exA) (by simp)
  obtain ⟨ad, rfl, _⟩ := hA.2 (by decide)
  have at_ : ∀ (k : Nat) (x : List UInt8), exA[k]? = some x → ∀ w', (argF (some ad) exA).p w' → w'.cell? (ad.add (k * 1)) = some (.string (mkS x)) := fun k x hk w' hw => Rd.cell1 (hw : Rd 1 (some ad) 5 (tx exA) w') (by unfold tx; rw [List.getElem?_map, hk]; rfl)
  refine draw_rule g p_order_Hands_user_5 (by kernel_rfl) [⟨1, ty_cred_Secret, [.v (.slice A0 2 c0), .v (.int .i64 4), .v (.slice A1 q3.length c1), .v (.slice A2 q4.length c2), .v (.slice A3 q5.length c3)]⟩, ⟨0, ty_order_Command, [.v (.string (mkS usrAdd)), .v (.slice (some ad) 5 c)]⟩] [hndF h b S.b n g0 r t, argF (some ad) exA] (Sub.of (List.Sublist.refl _) ((((((((List.nil_sublist _).cons_cons _).cons _).cons_cons _).cons _).cons _).cons _).cons _ |>.cons _)) ?_
  refine ⟨_, fun β w' hs => cell_bk (hs.get 0 rfl) (o := 1) rfl, ?_⟩
  refine ⟨_, 0, rfl, rfl, by omega, ?_⟩
  refine ⟨.string (mkS [116]), fun β w' hs => at_ 0 _ rfl w' (hs.get 1 rfl), ?_⟩
  refine ⟨_, 1, rfl, rfl, by omega, ?_⟩
  refine ⟨.string (mkS annO), fun β w' hs => at_ 1 _ rfl w' (hs.get 1 rfl), ?_⟩
  obtain ⟨a, ha⟩ : ∃ a : ASec, (⟨[1, 2], 4, q3, q4, q5⟩ : ASec) = a := ⟨_, rfl⟩
  have hr : rightA a = true := by
    rw [← ha]
    show (saltedA [1, 2] 4 && (decide (q3.length = 32) && (decide (q4.length = 32) && decide (q5.length = 32)))) = true
    rw [l3, l4, l5]
    decide
  have hz : ASz a := by
    rw [← ha]
    exact ⟨by show 2 ≤ 1000000; decide, by show q3.length ≤ _; omega, by show q4.length ≤ _; omega, by show q5.length ≤ _; omega⟩
  have h0 := addU_ex hr
  rw [← hS] at h0
  refine call_con [6] (fun β w' hs => add_c w' S (mkS [116]) (mkS annO) (secX A0 A1 A2 A3 c0 c1 c2 c3 ⟨[1, 2], 4, q3, q4, q5⟩) a (by decide) hz (by
    have h := (hs.secRows (a := ⟨[1, 2], 4, q3, q4, q5⟩) [0, 1, 2, 3] rfl).mem.take (js := [3, 0, 7]) rfl
    rw [ha] at h ⊢
    exact h)) ?_
  rintro v Fs ⟨S', rfl, hS1, hS2, rfl⟩
  rw [h0]
  refine ⟨subPerm [6, 7], ?_⟩
  refine call_pu (fun β w' hs => said_c w' 0) ?_
  refine ⟨subPerm [6, 7], ?_⟩
  intro β w' hs
  exact (hs.keepB (List.nil_sublist _)).fin [0, 6, 5] ⟨S', a, B5, y2, hS1, hS2, hr, rfl, rfl⟩ rfl rfl rfl ⟨rfl, rfl, rfl, trivial⟩
theorem joinE_c (w : World) (A : Option Addr) (c : Nat) (s : ByteArray) : Pu Tryz.prog n_strings_Join #[.slice A 0 c, .string s] w (.string (mkS [])) := by
  have g := good_strings_Join w (Un [])
  refine con_of_sx (cx := cx_strings_Join w (Un [])) g b_strings_Join rfl rfl (β := Va.z) [.c (.v (.slice A 0 c)), .c (.v (.string s))] 0 [] [] rfl rfl (Sat.start rfl) ?_
  intro β w' hs
  exact hs.fin [] ⟨rfl, rfl⟩
theorem dec1_c (w : World) : Pu Tryz.prog n_order_dec #[.int .u64 1] w (.string (mkS [49])) := by
  have g := good_order_dec w (Un [])
  refine con_of_sx (cx := cx_order_dec w (Un [])) g b_order_dec rfl rfl (β := Va.z) [.c (.v (.int .u64 1))] 0 [] [] rfl rfl (Sat.start rfl) ?_
  refine call_pu (v := .string (mkS [49])) (fun β w' hs => by
    have h := fmtU_c w' 1 (by decide)
    have e : decimS 1 = mkS [49] := by decide +kernel
    rw [e] at h
    exact h) ?_
  intro β w' hs
  exact hs.fin [] ⟨rfl, rfl⟩
theorem aone_ex {a : ASec} (hr : rightA a = true) : aone (addU (addT (sto0 0 0).a (mkS [116])).2 (mkS [116]) (mkS annO) a).2 (mkS [116]) (mkS annO) = some ⟨mkS [116], mkS annO, a, 1, [], false⟩ := by
  rw [addT_ex]
  unfold addU
  rw [show aten (ASto.ts ⟨[(mkS [116], [])], 0, 0⟩) (mkS [116]) = some [] from if_pos rfl]
  simp only [nameA_ann, hr]
  unfold aone
  rw [nameA_ann]
  rfl
theorem showEx_c (w : World) (h b : Nat) (S : Sto) (n g0 r t : Value) (a : ASec) (hr : rightA a = true) (hS : S.a = (addU (addT (sto0 0 0).a (mkS [116])).2 (mkS [116]) (mkS annO) a).2) (hm : Mem w ([stoF S, hndF h b S.b n g0 r t] ++ [namF])) :
    Con Tryz.prog n_order_Hands_show #[.pointer (some ⟨h, 0, none⟩), .string (mkS [116]), .string (mkS annO)] w [stoF S, hndF h b S.b n g0 r t] fun v Fs => v = .tuple #[.string (mkS [49, 32, 111, 110, 32, 45]), .int .i64 0] ∧ Fs = [] := by
  have g := good_order_Hands_show w (Un [stoF S, hndF h b S.b n g0 r t])
  have ho := aone_ex hr
  rw [← hS] at ho
  refine con_go (cx := cx_order_Hands_show w (Un [stoF S, hndF h b S.b n g0 r t])) g b_order_Hands_show [.c (.v (.pointer (some ⟨h, 0, none⟩))), .c (.v (.string (mkS [116]))), .c (.v (.string (mkS annO)))] [namF] hm ?_
  refine ⟨_, fun β w' hs => cell_bk (hs.get 1 rfl) (o := 1) rfl, ?_⟩
  have hz : ∀ x, aone S.a (mkS [116]) (mkS annO) = some x → CSz x := fun x hx => by
    rw [ho] at hx
    obtain rfl := Option.some.inj hx
    have hr2 := hr
    unfold rightA saltedA at hr2
    simp only [Bool.and_eq_true, decide_eq_true_eq] at hr2
    exact ⟨⟨by show a.salt.length ≤ _; omega, by show a.stored.length ≤ _; omega, by show a.server.length ≤ _; omega, by show a.ha1.length ≤ _; omega⟩, Nat.zero_le _⟩
  refine call_con [0] (R := fun v Fs => ∃ x : Crd, x.a = ⟨mkS [116], mkS annO, a, 1, [], false⟩ ∧ v = .tuple #[.agg x.vs.toArray, .bool true] ∧ Fs = crdRows x ++ [stoF (stoR S)]) (fun β w' hs => (find_c w' S (mkS [116]) (mkS annO) (by decide) hz (hs.mem.take (js := [0, 2]) rfl)).mono (fun v Fs h => by unfold findOut at h; rw [ho] at h; exact h)) ?_
  rintro v Fs ⟨⟨cb, tn, us, sc, gn, rA, rc, ro, rv⟩, hx, rfl, rfl⟩
  simp only [Crd.a, ACrd.mk.injEq] at hx
  obtain ⟨rfl, rfl, _, rfl, rfl, rfl⟩ := hx
  refine call_pu (fun β w' hs => joinE_c w' rA rc ⟨#[44]⟩) ?_
  refine call_pu (fun β w' hs => dec1_c w') ?_
  intro b1
  refine call_pu (v := .string (mkS [49, 32, 111, 110, 32, 45])) (fun β w' hs => by
    have h := join_c w' b1 3 [mkS [49], ⟨#[111, 110]⟩, ⟨#[45]⟩] ⟨#[32]⟩ (row_rd (hs.get 0 rfl)) (hs.getLt 0 rfl b1 rfl) (by show 3 ≤ 1000; decide) (Nat.le_refl 3) (by decide +kernel)
    have e : joinB [mkS [49], ⟨#[111, 110]⟩, ⟨#[45]⟩] ⟨#[32]⟩ = mkS [49, 32, 111, 110, 32, 45] := by decide +kernel
    rw [e] at h
    exact h) ?_
  intro β w' hs
  exact (hs.keepB (List.nil_sublist _)).fin [] ⟨rfl, rfl⟩
theorem Rd.cutN {size : Nat} {w : World} {A : Option Addr} {xs : List Value} {n : Nat} (h : Rd size A n xs w) {c i j : Nat} (hn : n ≤ c) (hij : i ≤ j) (hj : j ≤ n) : Rd size (cutA A c i size) (j - i) ((xs.drop (i * size)).take ((j - i) * size)) w := by
  have hl := h.1
  have hle : i * size + (j - i) * size ≤ n * size := by rw [← Nat.add_mul]; exact Nat.mul_le_mul_right _ (by omega)
  refine ⟨by rw [List.length_take, List.length_drop]; omega, fun hp => ?_⟩
  obtain ⟨ad, rfl, hc⟩ := h.2 (by omega)
  have hne : ¬ c = i := by omega
  refine ⟨ad.add (i * size), by simp [cutA, hne], fun k u hk => ?_⟩
  rw [add_add']
  refine hc (i * size + k) u ?_
  rw [← hk]
  have hkl : k < (j - i) * size := by
    have := (List.getElem?_eq_some_iff.1 hk).1
    rw [List.length_take] at this
    omega
  rw [List.getElem?_take, if_pos hkl, List.getElem?_drop]
theorem runTen_c (w : World) (h b : Nat) (S : Sto) (n g0 r t : Value) (x : List UInt8) (hx : x.length ≤ 100000) (A : Option Addr) (c : Nat) (now : Int) (hm : Mem w ([stoF S, hndF h b S.b n g0 r t] ++ [argF A [x], verbF 0])) :
    Con Tryz.prog n_order_Hands_Run #[.pointer (some ⟨h, 0, none⟩), cmdV tenAdd A 1 c, .int .u64 now] w [stoF S, hndF h b S.b n g0 r t] fun v Fs => ∃ S' : Sto, S'.a = (addT S.a (mkS x)).2 ∧ S'.b = S.b ∧ v = .tuple #[.string (if (addT S.a (mkS x)).1 = 0 then mkS [111, 107] else mkS []), .int .i64 (addT S.a (mkS x)).1] ∧ Fs = [stoF S', hndF h b S.b n g0 r t] := by
  have g := good_order_Hands_Run w (Un [stoF S, hndF h b S.b n g0 r t])
  refine con_go (cx := cx_order_Hands_Run w (Un [stoF S, hndF h b S.b n g0 r t])) g b_order_Hands_Run [.c (.v (.pointer (some ⟨h, 0, none⟩))), .agg [.v (.string (mkS tenAdd)), .v (.slice A 1 c)], .c (.v (.int .u64 now))] [argF A [x], verbF 0] hm ?_
  refine call_pu (v := .int .i64 0) (fun β w' hs => by
    have h := counted_c w' tenAdd A 1 c (hs.mem.take (js := [3]) rfl)
    have e : cntE tenAdd 1 = 0 := by decide +kernel
    rw [e] at h
    exact h) ?_
  refine call_con [0, 1] (fun β w' hs => usersTen_c w' h b S n g0 r t x hx A c (hs.mem.take (js := [0, 1, 2]) rfl)) ?_
  rintro v Fs ⟨S', hS1, hS2, rfl, rfl⟩
  intro β w' hs
  exact (hs.keepB (List.nil_sublist _)).fin [0, 1] ⟨S', hS1, hS2, rfl, rfl⟩ rfl rfl rfl ⟨rfl, rfl, trivial⟩
theorem runUsr_c (w : World) (h b : Nat) (S : Sto) (n g0 r t : Value) (B : Bx.Box) (y : Lay) (hts : y.ts.map (·.1) = B.L) (hi : BInv B) (hL : B.L.length < 4000) (hS : S.a = (addT (sto0 0 0).a (mkS [116])).2) (A : Option Addr) (c : Nat) (now : Int) (hm : Mem w ([bxF b B y, hndF h b S.b n g0 r t, stoF S] ++ [argF A exA, oddF 5, firstF 2, namF, verbF 0])) :
    Con Tryz.prog n_order_Hands_Run #[.pointer (some ⟨h, 0, none⟩), cmdV usrAdd A 5 c, .int .u64 now] w [bxF b B y, hndF h b S.b n g0 r t, stoF S] fun v Fs => ∃ (S' : Sto) (a : ASec) (B' : Bx.Box) (y' : Lay), S'.a = (addU S.a (mkS [116]) (mkS annO) a).2 ∧ S'.b = S.b ∧ rightA a = true ∧ v = .tuple #[.string (mkS [111, 107]), .int .i64 0] ∧ Fs = [stoF S', hndF h b S.b n g0 r t, bxF b B' y'] := by
  have g := good_order_Hands_Run w (Un [bxF b B y, hndF h b S.b n g0 r t, stoF S])
  refine con_go (cx := cx_order_Hands_Run w (Un [bxF b B y, hndF h b S.b n g0 r t, stoF S])) g b_order_Hands_Run [.c (.v (.pointer (some ⟨h, 0, none⟩))), .agg [.v (.string (mkS usrAdd)), .v (.slice A 5 c)], .c (.v (.int .u64 now))] [argF A exA, oddF 5, firstF 2, namF, verbF 0] hm ?_
  refine call_pu (v := .int .i64 0) (fun β w' hs => by
    have h := counted_c w' usrAdd A 5 c (hs.mem.take (js := [7]) rfl)
    have e : cntE usrAdd 5 = 0 := by decide +kernel
    rw [e] at h
    exact h) ?_
  refine call_con [] (fun β w' hs => usersNo_c w' (.pointer (some ⟨h, 0, none⟩)) usrAdd (.inl rfl) A exA (by decide) c (hs.mem.take (js := [3]) rfl)) ?_
  rintro v Fs ⟨rfl, rfl⟩
  refine call_con [0, 1, 2] (hown := ⟨rfl, rfl, rfl, trivial⟩) (fun β w' hs => userEx_c w' h b S n g0 r t B y hts hi hL hS A c (hs.mem.take (js := [0, 1, 2, 3, 4, 5, 6]) rfl)) ?_
  rintro v Fs ⟨S', a, B', y', hS1, hS2, hr, rfl, rfl⟩
  intro β w' hs
  exact (hs.keepB (List.nil_sublist _)).fin [0, 1, 2] ⟨S', a, B', y', hS1, hS2, hr, rfl, rfl⟩ rfl rfl rfl ⟨rfl, rfl, rfl, trivial⟩
set_option maxRecDepth 100000 in
theorem runShw_c (w : World) (h b : Nat) (S : Sto) (n g0 r t : Value) (a : ASec) (hr : rightA a = true) (hS : S.a = (addU (addT (sto0 0 0).a (mkS [116])).2 (mkS [116]) (mkS annO) a).2) (A : Option Addr) (c : Nat) (now : Int) (hm : Mem w ([stoF S, hndF h b S.b n g0 r t] ++ [argF A [[116], annO], namF, verbF 0])) :
    Con Tryz.prog n_order_Hands_Run #[.pointer (some ⟨h, 0, none⟩), cmdV shwUsr A 2 c, .int .u64 now] w [stoF S, hndF h b S.b n g0 r t] fun v Fs => v = .tuple #[.string (mkS [49, 32, 111, 110, 32, 45]), .int .i64 0] ∧ Fs = [] := by
  have g := good_order_Hands_Run w (Un [stoF S, hndF h b S.b n g0 r t])
  refine con_go (cx := cx_order_Hands_Run w (Un [stoF S, hndF h b S.b n g0 r t])) g b_order_Hands_Run [.c (.v (.pointer (some ⟨h, 0, none⟩))), .agg [.v (.string (mkS shwUsr)), .v (.slice A 2 c)], .c (.v (.int .u64 now))] [argF A [[116], annO], namF, verbF 0] hm ?_
  refine call_pu (v := .int .i64 0) (fun β w' hs => by
    have h := counted_c w' shwUsr A 2 c (hs.mem.take (js := [4]) rfl)
    have e : cntE shwUsr 2 = 0 := by decide +kernel
    rw [e] at h
    exact h) ?_
  refine call_con [] (fun β w' hs => usersNo_c w' (.pointer (some ⟨h, 0, none⟩)) shwUsr (.inr rfl) A [[116], annO] (by decide) c (hs.mem.take (js := [2]) rfl)) ?_
  rintro v Fs ⟨rfl, rfl⟩
  have hA : Rd 1 A 2 (tx [[116], annO]) w := hm.fact (argF A [[116], annO]) (by simp)
  obtain ⟨ad, rfl, _⟩ := hA.2 (by decide)
  have at_ : ∀ (k : Nat) (x : List UInt8), [[116], annO][k]? = some x → ∀ w', (argF (some ad) [[116], annO]).p w' → w'.cell? (ad.add (k * 1)) = some (.string (mkS x)) := fun k x hk w' hw => Rd.cell1 (hw : Rd 1 (some ad) 2 (tx [[116], annO]) w') (by unfold tx; rw [List.getElem?_map, hk]; rfl)
  refine draw_rule g p_order_Hands_Run_29 (by kernel_rfl) [⟨0, ty_order_Command, [.v (.string (mkS shwUsr)), .v (.slice (some ad) 2 c)]⟩] [argF (some ad) [[116], annO]] (Sub.of (List.Sublist.refl _) ((((List.nil_sublist _).cons_cons _).cons _).cons _)) ?_
  refine ⟨_, 0, rfl, rfl, by omega, ?_⟩
  refine ⟨.string (mkS [116]), fun β w' hs => at_ 0 _ rfl w' (hs.get 0 rfl), ?_⟩
  refine ⟨_, 1, rfl, rfl, by omega, ?_⟩
  refine ⟨.string (mkS annO), fun β w' hs => at_ 1 _ rfl w' (hs.get 0 rfl), ?_⟩
  refine call_con [0, 1] (fun β w' hs => showEx_c w' h b S n g0 r t a hr hS (hs.mem.take (js := [0, 1, 3]) rfl)) ?_
  rintro v Fs ⟨rfl, rfl⟩
  refine ⟨subPerm [0], ?_⟩
  intro β w' hs
  exact (hs.keepB (List.nil_sublist _)).fin [] ⟨rfl, rfl⟩ rfl rfl rfl ⟨⟩
theorem Sat.argCut {cx : Cx} {β : Va} {n : Nat} {H : List Bk} {F : List Fact} {w : World} {A0 : Option Addr} {c0 : Nat} {v0 : List UInt8} {a : List (List UInt8)} (h : Sat cx β n H (txF A0 (v0 :: a) c0 :: F) w) (hc : a.length + 1 ≤ c0) : Sat cx β n H (argF (cutA A0 c0 1 1) a :: F) w := by
  have hp : (txF A0 (v0 :: a) c0).p w := h.get 0 rfl
  have h1 := Rd.cutN (row_rd hp) (c := c0) (i := 1) (j := (v0 :: a).length) hc (by simp) (Nat.le_refl _)
  have h2 : Rd 1 (cutA A0 c0 1 1) a.length (tx a) w := by
    have h3 : ((tx (v0 :: a)).drop (1 * 1)).take (((v0 :: a).length - 1) * 1) = tx a := by
      rw [List.take_of_length_le (by simp [tx])]
      rfl
    rw [h3] at h1
    exact h1
  refine h.upd (j := 0) (f := txF A0 (v0 :: a) c0) rfl rfl (Chg.refl _ _) (show (argF (cutA A0 c0 1 1) a).p w from h2) (fun b hb => .inl (rowD hp b ?_))
  obtain ⟨h0, ad, q, rfl⟩ := hb
  refine ⟨by simp, ?_⟩
  obtain ⟨ad0, rfl, _⟩ := (row_rd hp).2 (by simp)
  refine ⟨ad0, rfl, ?_⟩
  have hne : ¬ c0 = 1 := by simp at h0; omega
  simp [cutA, hne] at q
  rw [← q]
  rfl
theorem parse_at (w : World) (s v0 : List UInt8) (a : List (List UInt8)) (hs : s.length ≤ 4096) (hw : wordsF s = (v0 :: a, true)) (he : cntE v0 a.length = 0) (hm : Mem w [verbF 0]) : Con Tryz.prog n_order_Parse #[.string (mkS s)] w [] fun v Fs => ∃ A0 c0, v = .tuple #[.agg #[.string (mkS v0), .slice (cutA A0 c0 1 1) a.length (c0 - 1)], .int .i64 0] ∧ a.length + 1 ≤ c0 ∧ Fs = [txF A0 (v0 :: a) c0] :=
  (parse_c w s (by omega) hm).mono (by
    intro v Fs h
    have hp : parF s = (v0, a, 0) := by
      unfold parF
      rw [if_neg (by omega), hw]
      exact if_pos he
    rcases h with ⟨A0, c0, v1, a1, _, hw1, _, _, rfl, hc, rfl⟩ | ⟨e, h1, h2, _⟩
    · rw [hw] at hw1
      cases hw1
      exact ⟨A0, c0, rfl, hc, rfl⟩
    · rw [hp] at h1
      cases h1
      exact absurd rfl h2)
def lnTen : List UInt8 := tenAdd ++ [32, 116]
theorem doTen_c (w : World) (h b : Nat) (S : Sto) (n g0 r t : Value) (hm : Mem w ([stoF S, hndF h b S.b n g0 r t] ++ [verbF 0])) :
    Con Tryz.prog n_order_Hands_Do #[.pointer (some ⟨h, 0, none⟩), .string (mkS lnTen), .int .u64 1] w [stoF S, hndF h b S.b n g0 r t] fun v Fs => ∃ S' : Sto, S'.a = (addT S.a (mkS [116])).2 ∧ S'.b = S.b ∧ v = .tuple #[.string (if (addT S.a (mkS [116])).1 = 0 then mkS [111, 107] else mkS []), .int .i64 (addT S.a (mkS [116])).1] ∧ Fs = [stoF S', hndF h b S.b n g0 r t] := by
  have g := good_order_Hands_Do w (Un [stoF S, hndF h b S.b n g0 r t])
  refine con_go (cx := cx_order_Hands_Do w (Un [stoF S, hndF h b S.b n g0 r t])) g b_order_Hands_Do [.c (.v (.pointer (some ⟨h, 0, none⟩))), .c (.v (.string (mkS lnTen))), .c (.v (.int .u64 1))] [verbF 0] hm ?_
  refine call_conS [] (fun β w' hs => parse_at w' lnTen tenAdd [[116]] (by decide) (by decide +kernel) (by decide +kernel) (hs.mem.take (js := [2]) rfl)) ?_
  rintro v Fs ⟨A0, c0, rfl, hc, rfl⟩
  refine ⟨_, _, fun β w' hs => hs.argCut hc, ?_⟩
  refine call_con [1, 2] (fun β w' hs => runTen_c w' h b S n g0 r t [116] (by decide) (cutA A0 c0 1 1) (c0 - 1) 1 (hs.mem.take (js := [1, 2, 0, 3]) rfl)) ?_
  rintro v Fs ⟨S', hS1, hS2, rfl, rfl⟩
  intro β w' hs
  exact (hs.keepB (List.nil_sublist _)).fin [0, 1] ⟨S', hS1, hS2, rfl, rfl⟩ rfl rfl rfl ⟨rfl, rfl, trivial⟩
def lnUsr : List UInt8 := [117, 115, 101, 114, 45, 97, 100, 100, 32, 116, 32, 97, 110, 110, 32, 34, 112, 101, 110, 99, 105, 108, 34, 32, 48, 49, 48, 50, 32, 52]
def lnShw : List UInt8 := [115, 104, 111, 119, 45, 117, 115, 101, 114, 32, 116, 32, 97, 110, 110]
theorem doUsr_c (w : World) (h b : Nat) (S : Sto) (n g0 r t : Value) (B : Bx.Box) (y : Lay) (hts : y.ts.map (·.1) = B.L) (hi : BInv B) (hL : B.L.length < 4000) (hS : S.a = (addT (sto0 0 0).a (mkS [116])).2) (hm : Mem w ([bxF b B y, hndF h b S.b n g0 r t, stoF S] ++ [oddF 5, firstF 2, namF, verbF 0])) :
    Con Tryz.prog n_order_Hands_Do #[.pointer (some ⟨h, 0, none⟩), .string (mkS lnUsr), .int .u64 1] w [bxF b B y, hndF h b S.b n g0 r t, stoF S] fun v Fs => ∃ (S' : Sto) (a : ASec) (B' : Bx.Box) (y' : Lay), S'.a = (addU S.a (mkS [116]) (mkS annO) a).2 ∧ S'.b = S.b ∧ rightA a = true ∧ v = .tuple #[.string (mkS [111, 107]), .int .i64 0] ∧ Fs = [stoF S', hndF h b S.b n g0 r t, bxF b B' y'] := by
  have g := good_order_Hands_Do w (Un [bxF b B y, hndF h b S.b n g0 r t, stoF S])
  refine con_go (cx := cx_order_Hands_Do w (Un [bxF b B y, hndF h b S.b n g0 r t, stoF S])) g b_order_Hands_Do [.c (.v (.pointer (some ⟨h, 0, none⟩))), .c (.v (.string (mkS lnUsr))), .c (.v (.int .u64 1))] [oddF 5, firstF 2, namF, verbF 0] hm ?_
  refine call_conS [] (fun β w' hs => parse_at w' lnUsr usrAdd exA (by decide) (by decide +kernel) (by decide +kernel) (hs.mem.take (js := [6]) rfl)) ?_
  rintro v Fs ⟨A0, c0, rfl, hc, rfl⟩
  refine ⟨_, _, fun β w' hs => hs.argCut hc, ?_⟩
  refine call_con [1, 2, 3] (hown := ⟨rfl, rfl, rfl, trivial⟩) (fun β w' hs => runUsr_c w' h b S n g0 r t B y hts hi hL hS (cutA A0 c0 1 1) (c0 - 1) 1 (hs.mem.take (js := [1, 2, 3, 0, 4, 5, 6, 7]) rfl)) ?_
  rintro v Fs ⟨S', a, B', y', hS1, hS2, hr, rfl, rfl⟩
  intro β w' hs
  exact (hs.keepB (List.nil_sublist _)).fin [0, 1, 2] ⟨S', a, B', y', hS1, hS2, hr, rfl, rfl⟩ rfl rfl rfl ⟨rfl, rfl, rfl, trivial⟩
theorem doShw_c (w : World) (h b : Nat) (S : Sto) (n g0 r t : Value) (a : ASec) (hr : rightA a = true) (hS : S.a = (addU (addT (sto0 0 0).a (mkS [116])).2 (mkS [116]) (mkS annO) a).2) (hm : Mem w ([stoF S, hndF h b S.b n g0 r t] ++ [namF, verbF 0])) :
    Con Tryz.prog n_order_Hands_Do #[.pointer (some ⟨h, 0, none⟩), .string (mkS lnShw), .int .u64 1] w [stoF S, hndF h b S.b n g0 r t] fun v Fs => v = .tuple #[.string (mkS [49, 32, 111, 110, 32, 45]), .int .i64 0] ∧ Fs = [] := by
  have g := good_order_Hands_Do w (Un [stoF S, hndF h b S.b n g0 r t])
  refine con_go (cx := cx_order_Hands_Do w (Un [stoF S, hndF h b S.b n g0 r t])) g b_order_Hands_Do [.c (.v (.pointer (some ⟨h, 0, none⟩))), .c (.v (.string (mkS lnShw))), .c (.v (.int .u64 1))] [namF, verbF 0] hm ?_
  refine call_conS [] (fun β w' hs => parse_at w' lnShw shwUsr [[116], annO] (by decide) (by decide +kernel) (by decide +kernel) (hs.mem.take (js := [3]) rfl)) ?_
  rintro v Fs ⟨A0, c0, rfl, hc, rfl⟩
  refine ⟨_, _, fun β w' hs => hs.argCut hc, ?_⟩
  refine call_con [1, 2] (fun β w' hs => runShw_c w' h b S n g0 r t a hr hS (cutA A0 c0 1 1) (c0 - 1) 1 (hs.mem.take (js := [1, 2, 0, 3, 4]) rfl)) ?_
  rintro v Fs ⟨rfl, rfl⟩
  intro β w' hs
  exact (hs.keepB (List.nil_sublist _)).fin [] ⟨rfl, rfl⟩ rfl rfl rfl ⟨⟩
theorem awake24_c (w : World) (hm : Mem w [oddF 5, firstF 2, namF, verbF 0]) :
    Con Tryz.prog n_ostiarylaw24_awake #[] w [] fun v Fs => v = .bool true ∧ Fs = [] := by
  have g := good_ostiarylaw24_awake w (Un [])
  refine con_go (cx := cx_ostiarylaw24_awake w (Un [])) g b_ostiarylaw24_awake [] [oddF 5, firstF 2, namF, verbF 0] hm ?_
  refine call_con [] (fun β w' hs => hands24_c w' (hs.mem.take (js := [0, 1]) rfl)) ?_
  rintro v Fs ⟨h, b, S, n, g0, r, t, B, y, rfl, hSa, hts, hi, _, hBL, rfl⟩
  have e1 : addT S.a (mkS [116]) = (0, ⟨[(mkS [116], [])], 0, 0⟩) := by rw [hSa]; exact addT_ex
  refine call_con [2, 0] (fun β w' hs => doTen_c w' h b S n g0 r t (hs.mem.take (js := [2, 0, 6]) rfl)) ?_
  rintro v Fs ⟨S1, hS1, hB1, hv, hF⟩
  have hv1 : v = .tuple #[.string (mkS [111, 107]), .int .i64 0] := by rw [hv, e1]; rfl
  rw [← hB1] at hF
  subst hF hv1
  refine call_con [2, 1, 0] (hown := ⟨rfl, rfl, rfl, trivial⟩) (fun β w' hs => doUsr_c w' h b S1 n g0 r t B y hts hi (by omega) (by rw [hS1, hSa]) (hs.mem.take (js := [2, 1, 0, 3, 4, 5, 6]) rfl)) ?_
  rintro v Fs ⟨S2, a, B2, y2, hS2, hB2, hr, rfl, hF⟩
  rw [← hB2] at hF
  subst hF
  refine call_con [0, 1] (fun β w' hs => doShw_c w' h b S2 n g0 r t a hr (by rw [hS2, hS1, hSa]) (hs.mem.take (js := [0, 1, 5, 6]) rfl)) ?_
  rintro v Fs ⟨rfl, rfl⟩
  intro β w' hs
  exact (hs.keepB (List.nil_sublist _)).fin [] ⟨rfl, rfl⟩ rfl rfl rfl ⟨⟩
theorem eq_lit {v l : List UInt8} (h : mkS v = ⟨l.toArray⟩) : v = l := by
  have h := congrArg (fun s : ByteArray => s.data.toList) h
  simpa [mkS] using h
theorem cutTextO_c (w : World) (s : ByteArray) (k : Nat) (_hk : k ≤ 1000000) : Pu Tryz.prog n_ostiaryref01_CutText #[.string s, .int .i64 k] w (.string (mkS (s.data.toList.take k))) := by
  refine pu_of (calls_of_sx (cx := cx_ostiaryref01_CutText w None_) (good_ostiaryref01_CutText w None_) b_ostiaryref01_CutText rfl rfl (β := Va.z) [.c (.v (.string s)), .c (.v (.int .i64 k))] 0 [] [] rfl rfl (Sat.start rfl) ?_)
  refine ⟨((min s.size k : Nat) : Int), by dsimp only; omega, ?_⟩
  refine ⟨min s.size k, 0, rfl, rfl, by omega, Nat.zero_le _, ?_⟩
  intro β w' hs
  refine ⟨?_, hs.chg⟩
  have e : s.data.toList.take k = s.data.toList.take (min s.size k) := by
    rw [List.take_eq_take_min, show s.data.toList.length = s.size from rfl, Nat.min_comm]
  rw [e, ← mkS_take, mkS_of]
  rfl
end Go.Proofs.YteenjgfbbkdlhaaGreatDoor.Sx

namespace Go.Proofs.YteenjgfbbkdlhaaGreatDoor.Sx
open Go
section
variable {cx : Cx} {β : Va} {n : Nat} {env : Env} {H : List Bk} {F : List Fact} {a : Act} {w w' : World}
end
end Go.Proofs.YteenjgfbbkdlhaaGreatDoor.Sx

namespace Go.Proofs.YteenjgfbbkdlhaaGreatDoor.Sx
open Go
attribute [local irreducible] Calls
theorem joinT_c (w : World) (A : Option Addr) (v : List UInt8) (us : List (List UInt8)) (c : Nat) (h : (txF A (v :: us) c).p w) (hd : ∀ k, (txF A (v :: us) c).D k → k < w.heap.size) (hn : us.length ≤ 900) (hc : (v :: us).length ≤ c) (hl : (v ++ catW us).length ≤ 100000000) :
    Pu Tryz.prog n_strings_Join #[.slice A (v :: us).length c, .string ⟨#[32]⟩] w (.string (mkS (v ++ catW us))) := by
  have hr : Rd 1 A (v :: us).length (tx (v :: us)) w := row_rd h
  rcases h.2 with ⟨_, h0⟩ | ⟨b, cap, cur, he, _⟩
  · cases h0
  have hA : A = some ⟨b, 0, none⟩ := by injection he
  subst hA
  have e1 : ((v :: us).map mkS).map (·.data.toList) = v :: us := by
    rw [List.map_map]
    exact (List.map_congr_left (g := id) (fun x _ => mkSo x)).trans (List.map_id _)
  have hj := join_c w b c ((v :: us).map mkS) ⟨#[32]⟩ (by rw [List.length_map, List.map_map]; exact hr) (hd b rfl) (by rw [List.length_map]; show us.length + 1 ≤ _; omega) (by rw [List.length_map]; exact hc) (by
    rw [e1]
    show (Lib.join (v :: us) [32]).length ≤ _
    rw [join_cat]
    omega)
  rw [List.length_map] at hj
  have e2 : joinB ((v :: us).map mkS) ⟨#[32]⟩ = mkS (v ++ catW us) := by
    unfold joinB
    rw [e1]
    show (⟨(Lib.join (v :: us) [32]).toArray⟩ : ByteArray) = _
    rw [join_cat]
    rfl
  rw [e2] at hj
  exact hj
theorem tenB_it {α : Type} (l : Nat) (w : World) (bx : Nat) (f0 R : Fact) (J Jx : List α → Fact → Prop) (hJ0 : J [] f0) (hJo : ∀ pre f, J pre f → f.own = true) (hRo : R.own = false)
    (hm : Mem w (f0 :: R :: [bkF bx ty_ptr_cred_Store [.pointer none]])) :
    Con Tryz.prog n_cred_Store_Tenants_1 #[.func (.yield l) #[] #[], .pointer (some ⟨bx, 0, none⟩)] w [f0, bkF bx ty_ptr_cred_Store [.pointer none]]
      (fun _ Fs => ∃ f Fs', Fs = f :: Fs' ∧ ((∃ xs, J xs f ∧ xs = [] ∧ Fs' = []) ∨ (∃ pre, Jx pre f ∧ False))) := by
  have g := good_cred_Store_Tenants_1 w (Un [f0, bkF bx ty_ptr_cred_Store [.pointer none]]) [bx]
  have hs0 : Sat (cx_cred_Store_Tenants_1 w (Un [f0, bkF bx ty_ptr_cred_Store [.pointer none]]) [bx]) (Va.of fun _ => bx) 1 [] (f0 :: R :: [bkF bx ty_ptr_cred_Store [.pointer none]]) w := by
    refine hm.sat rfl (fun f hf ho k hk => ?_) ⟨Nat.le_refl 1, fun i hi => by obtain rfl : i = 0 := Nat.lt_one_iff.1 hi; rfl⟩
    simp only [List.mem_cons, List.not_mem_nil, or_false] at hf
    rcases hf with rfl | rfl | rfl
    · exact ⟨_, by simp, hk⟩
    · rw [hRo] at ho; cases ho
    · exact ⟨bkF bx ty_ptr_cred_Store [.pointer none], by simp, hk⟩
  have hs1 := hs0.toBk 2 rfl 0 Nat.zero_lt_one rfl
  refine con_of_sx (cx := cx_cred_Store_Tenants_1 w (Un [f0, bkF bx ty_ptr_cred_Store [.pointer none]]) [bx]) g b_cred_Store_Tenants_1 rfl rfl (β := Va.of fun _ => bx) [.c (.v (.func (.yield l) #[] #[])), .c (.p 0 0)] 1 _ _ rfl rfl hs1 ?_
  intro β w' hs
  exact (hs.keepB (List.nil_sublist _)).fin [0] ⟨f0, _, rfl, .inl ⟨[], hJ0, rfl, rfl⟩⟩ rfl rfl rfl ⟨hJo _ _ hJ0, trivial⟩
theorem tenantsB_c (w : World) : Con Tryz.prog n_cred_Store_Tenants #[.pointer none] w [] (fun v Fs => ∃ bx, v = .func (.func n_cred_Store_Tenants_1) #[] #[.pointer (some ⟨bx, 0, none⟩)] ∧ Fs = [bkF bx ty_ptr_cred_Store [.pointer none]]) := by
  refine con_of_sx (cx := cx_cred_Store_Tenants w (Un [])) (good_cred_Store_Tenants w (Un [])) b_cred_Store_Tenants rfl rfl (β := Va.z) [.c (.v (.pointer none))] 0 [] [] rfl rfl (Sat.start rfl) ?_
  intro β w' hs
  exact hs.ofBk.fin [0] ⟨β 0, rfl, rfl⟩
theorem epoB_it {α : Type} (l : Nat) (w : World) (bx : Nat) (f0 R : Fact) (J Jx : List α → Fact → Prop) (hJ0 : J [] f0) (hJo : ∀ pre f, J pre f → f.own = true) (hRo : R.own = false)
    (hm : Mem w (f0 :: R :: [bkF bx ty_ptr_ring_Ring [.pointer none]])) :
    Con Tryz.prog n_ring_Ring_Epochs_1 #[.func (.yield l) #[] #[], .pointer (some ⟨bx, 0, none⟩)] w [f0, bkF bx ty_ptr_ring_Ring [.pointer none]]
      (fun _ Fs => ∃ f Fs', Fs = f :: Fs' ∧ ((∃ xs, J xs f ∧ xs = [] ∧ Fs' = []) ∨ (∃ pre, Jx pre f ∧ False))) := by
  have g := good_ring_Ring_Epochs_1 w (Un [f0, bkF bx ty_ptr_ring_Ring [.pointer none]]) [bx]
  have hs0 : Sat (cx_ring_Ring_Epochs_1 w (Un [f0, bkF bx ty_ptr_ring_Ring [.pointer none]]) [bx]) (Va.of fun _ => bx) 1 [] (f0 :: R :: [bkF bx ty_ptr_ring_Ring [.pointer none]]) w := by
    refine hm.sat rfl (fun f hf ho k hk => ?_) ⟨Nat.le_refl 1, fun i hi => by obtain rfl : i = 0 := Nat.lt_one_iff.1 hi; rfl⟩
    simp only [List.mem_cons, List.not_mem_nil, or_false] at hf
    rcases hf with rfl | rfl | rfl
    · exact ⟨_, by simp, hk⟩
    · rw [hRo] at ho; cases ho
    · exact ⟨bkF bx ty_ptr_ring_Ring [.pointer none], by simp, hk⟩
  have hs1 := hs0.toBk 2 rfl 0 Nat.zero_lt_one rfl
  refine con_of_sx (cx := cx_ring_Ring_Epochs_1 w (Un [f0, bkF bx ty_ptr_ring_Ring [.pointer none]]) [bx]) g b_ring_Ring_Epochs_1 rfl rfl (β := Va.of fun _ => bx) [.c (.v (.func (.yield l) #[] #[])), .c (.p 0 0)] 1 _ _ rfl rfl hs1 ?_
  intro β w' hs
  exact (hs.keepB (List.nil_sublist _)).fin [0] ⟨f0, _, rfl, .inl ⟨[], hJ0, rfl, rfl⟩⟩ rfl rfl rfl ⟨hJo _ _ hJ0, trivial⟩
theorem epochsB_c (w : World) : Con Tryz.prog n_ring_Ring_Epochs #[.pointer none] w [] (fun v Fs => ∃ bx, v = .func (.func n_ring_Ring_Epochs_1) #[] #[.pointer (some ⟨bx, 0, none⟩)] ∧ Fs = [bkF bx ty_ptr_ring_Ring [.pointer none]]) := by
  refine con_of_sx (cx := cx_ring_Ring_Epochs w (Un [])) (good_ring_Ring_Epochs w (Un [])) b_ring_Ring_Epochs rfl rfl (β := Va.z) [.c (.v (.pointer none))] 0 [] [] rfl rfl (Sat.start rfl) ?_
  intro β w' hs
  exact hs.ofBk.fin [0] ⟨β 0, rfl, rfl⟩
theorem itoaS_c (w : World) (k : Nat) (hk : k < 100) : Pu Tryz.prog n_strconv_Itoa #[.int .i64 (k : Int)] w (.string (decimS k)) := by
  refine pu_of (Calls.mono (Tryz.strconv_Itoa_small k hk w) ?_)
  rintro e w' ⟨rfl, rfl⟩
  exact ⟨_, rfl, rfl, Chg.refl _ _⟩
theorem itoa0_c (w : World) : Pu Tryz.prog n_strconv_Itoa #[.int .i64 0] w (.string (mkS [48])) := by
  have h := itoaS_c w 0 (by decide)
  have e : decimS 0 = mkS [48] := by decide +kernel
  rw [e] at h
  exact h
theorem nSweep0_c (w : World) (now : Int) : Pu Tryz.prog n_nonce_Store_Sweep #[.pointer none, .int .u64 now] w (.int .i64 0) := by
  have g := good_nonce_Store_Sweep w (Un [])
  refine con_of_sx (cx := cx_nonce_Store_Sweep w (Un [])) g b_nonce_Store_Sweep rfl rfl (β := Va.z) [.c (.v (.pointer none)), .c (.v (.int .u64 now))] 0 [] [] rfl rfl (Sat.start rfl) ?_
  intro β w' hs
  exact (hs.keepB (List.nil_sublist _)).fin [] ⟨rfl, rfl⟩
theorem gSweep0_c (w : World) (now : Int) : Pu Tryz.prog n_guard_Guard_Sweep #[.pointer none, .int .u64 now] w (.int .i64 0) := by
  have g := good_guard_Guard_Sweep w (Un [])
  refine con_of_sx (cx := cx_guard_Guard_Sweep w (Un [])) g b_guard_Guard_Sweep rfl rfl (β := Va.z) [.c (.v (.pointer none)), .c (.v (.int .u64 now))] 0 [] [] rfl rfl (Sat.start rfl) ?_
  intro β w' hs
  exact (hs.keepB (List.nil_sublist _)).fin [] ⟨rfl, rfl⟩
theorem nLen0_c (w : World)  : Pu Tryz.prog n_nonce_Store_Len #[.pointer none] w (.int .i64 0) := by
  have g := good_nonce_Store_Len w (Un [])
  refine con_of_sx (cx := cx_nonce_Store_Len w (Un [])) g b_nonce_Store_Len rfl rfl (β := Va.z) [.c (.v (.pointer none))] 0 [] [] rfl rfl (Sat.start rfl) ?_
  intro β w' hs
  exact (hs.keepB (List.nil_sublist _)).fin [] ⟨rfl, rfl⟩
theorem gLen0_c (w : World)  : Pu Tryz.prog n_guard_Guard_Len #[.pointer none] w (.int .i64 0) := by
  have g := good_guard_Guard_Len w (Un [])
  refine con_of_sx (cx := cx_guard_Guard_Len w (Un [])) g b_guard_Guard_Len rfl rfl (β := Va.z) [.c (.v (.pointer none))] 0 [] [] rfl rfl (Sat.start rfl) ?_
  intro β w' hs
  exact (hs.keepB (List.nil_sublist _)).fin [] ⟨rfl, rfl⟩
theorem findB_c (w : World) (t u : ByteArray) : Pu Tryz.prog n_cred_Store_Find #[.pointer none, .string t, .string u] w (.tuple #[.agg #[.string ⟨#[]⟩, .string ⟨#[]⟩, .slice none 0 0, .int .i64 0, .slice none 0 0, .slice none 0 0, .slice none 0 0, .int .u64 0, .slice none 0 0, .bool false], .bool false]) := by
  refine con_of_sx (cx := cx_cred_Store_Find w (Un [])) (good_cred_Store_Find w (Un [])) b_cred_Store_Find rfl rfl (β := Va.z) [.c (.v (.pointer none)), .c (.v (.string t)), .c (.v (.string u))] 0 [] [] rfl rfl (Sat.start rfl) ?_
  intro β w' hs
  exact (hs.keepB (List.nil_sublist _)).fin [] ⟨rfl, rfl⟩
theorem showB_c (w : World) (h : Nat) (pv : Value) (t u : ByteArray) (hm : Mem w [roX (hbF h pv)]) :
    Con Tryz.prog n_order_Hands_show #[.pointer (some ⟨h, 0, none⟩), .string t, .string u] w [] errR := by
  have g := good_order_Hands_show w (Un [])
  refine con_go (cx := cx_order_Hands_show w (Un [])) g b_order_Hands_show [.c (.v (.pointer (some ⟨h, 0, none⟩))), .c (.v (.string t)), .c (.v (.string u))] [roX (hbF h pv)] hm ?_
  refine ⟨.pointer none, fun β w' hs => hb_cell (hs.get 0 rfl) (o := 1) rfl, ?_⟩
  refine call_pu (fun β w' hs => findB_c w' t u) ?_
  exact fun β w' hs => (hs.keepB (List.nil_sublist _)).fin [] ⟨⟨_, 6, rfl, by decide, by decide⟩, rfl⟩
theorem dec0_c (w : World) : Pu Tryz.prog n_order_dec #[.int .u64 0] w (.string (mkS [48])) := by
  have g := good_order_dec w (Un [])
  refine con_of_sx (cx := cx_order_dec w (Un [])) g b_order_dec rfl rfl (β := Va.z) [.c (.v (.int .u64 0))] 0 [] [] rfl rfl (Sat.start rfl) ?_
  refine call_pu (v := .string (mkS [48])) (fun β w' hs => by
    have h := fmtU_c w' 0 (by decide)
    have e : decimS 0 = mkS [48] := by decide +kernel
    rw [e] at h
    exact h) ?_
  intro β w' hs
  exact hs.fin [] ⟨rfl, rfl⟩
structure ZwS where
  A : Option Addr
  c : Nat
  k : Nat
theorem sweepB_c (w : World) (h : Nat) (pv : Value) (now : Int) (hm : Mem w [roX (hbF h pv)]) :
    Con Tryz.prog n_order_Hands_sweep #[.pointer (some ⟨h, 0, none⟩), .int .u64 now] w [] fun v Fs => (∃ s : ByteArray, v = .string s) ∧ Fs = [] := by
  have g := good_order_Hands_sweep w (Un [])
  have hml := maxLen_eq
  refine con_go (cx := cx_order_Hands_sweep w (Un [])) g b_order_Hands_sweep [.c (.v (.pointer (some ⟨h, 0, none⟩))), .c (.v (.int .u64 now))] [roX (hbF h pv)] hm ?_
  refine draw_rule g p_order_Hands_sweep_2 (by kernel_rfl) [] [roX (hbF h pv)] Sub.refl ?_
  refine ⟨.pointer none, fun β w' hs => hb_cell (hs.get 0 rfl) (o := 2) rfl, ?_⟩
  refine ⟨.pointer none, fun β w' hs => hb_cell (hs.get 0 rfl) (o := 3) rfl, ?_⟩
  refine ⟨.pointer none, fun β w' hs => hb_cell (hs.get 0 rfl) (o := 5) rfl, ?_⟩
  refine call_pu (fun β w' hs => nSweep0_c w' now) ?_
  refine ⟨Sub.refl, ?_⟩
  refine call_pu (fun β w' hs => gSweep0_c w' now) ?_
  refine ⟨Sub.refl, ?_⟩
  refine call_pu (fun β w' hs => tkSweepB_c w' now) ?_
  refine ⟨Sub.refl, ?_⟩
  intro b1
  refine ⟨subPerm [1], ?_⟩
  refine loop_rule (ι := ZwS) 0 (fun j => [(5, .c (.v (.slice j.A (List.replicate j.k ([48] : List UInt8)).length j.c))), (26, .c (.v (.slice (some ⟨b1, 0, none⟩) 3 3))), (27, .c (.v (.int .i64 3))), (28, .c (.v (.int .i64 (j.k : Int))))]) (fun _ => []) (fun j => [txF j.A (List.replicate j.k [48]) j.c, rowF ty_int 1 (.slice (some ⟨b1, 0, none⟩) 3 3) 3 (List.replicate 3 (.int .i64 0)), roX (hbF h pv)])
    (fun j => j.k ≤ 3 ∧ j.k ≤ j.c) (fun j => 3 - j.k) ⟨none, 0, 0⟩ ⟨Nat.zero_le _, Nat.le_refl _⟩ (Ent.mk' ⟨rfl, rfl, rfl, rfl, trivial⟩ rfl (fun β w' hs => hs.nilRow ty_string 1)) g ?_
  rintro ⟨A, c, k⟩ ⟨hk, hc⟩
  simp only at hk hc
  refine BIf.dec (fun hlt => ?_) (fun hge => ?_)
  · have hlt : k < 3 := by have h0 : (k : Int) < 3 := hlt; omega
    refine ⟨⟨b1, 0, none⟩, k, rfl, rfl, hlt, .int .i64 0, fun β w' hs => Rd.cell1 (row_rd (hs.get 1 rfl)) (by rw [List.getElem?_replicate, if_pos hlt]), ?_⟩
    refine call_pu (fun β w' hs => itoa0_c w') ?_
    intro b2
    have hLs : (List.replicate (k + 1) ([48] : List UInt8)).length = (List.replicate k ([48] : List UInt8)).length + 1 := by rw [List.length_replicate, List.length_replicate]
    have hLk : (List.replicate (k + 1) ([48] : List UInt8)).length = k + 1 := List.length_replicate
    refine ⟨1, (List.replicate k ([48] : List UInt8)).length, (List.replicate (k + 1) ([48] : List UInt8)).length, tx (List.replicate k [48]), [.string (mkS [48])], tx (List.replicate (k + 1) [48]), rfl, fun β w hs => row_rd (hs.get 0 rfl), (fun u hu => by obtain rfl := List.mem_singleton.1 hu; rfl), by rw [hLs], by rw [List.replicate_succ']; simp [tx], by omega, by show (List.replicate (k + 1) ([48] : List UInt8)).length * 16 ≤ _; omega, ?_⟩
    intro A2 c2 p2 _ h2
    refine ⟨(((k + 1) : Nat) : Int), by rw [wrap_i64 (by first | omega | (dsimp only; omega)) (by first | omega | (dsimp only; omega))]; rfl, ?_⟩
    exact ⟨⟨A2, c2, k + 1⟩, ⟨hlt, by show k + 1 ≤ c2; omega⟩, by show 3 - (k + 1) < 3 - k; omega, Ent.mk' ⟨rfl, rfl, rfl, rfl, trivial⟩ rfl (fun β w' hs => (hs.perm [1, 2, 3]).lower)⟩
  · have hk3 : k = 3 := by have h0 : ¬ (k : Int) < 3 := hge; omega
    subst hk3
    refine call_pu (fun β w' hs => joinT_c w' A [48] [[48], [48]] c (hs.get 0 rfl) (hs.getLt 0 rfl) (by decide) hc (by decide)) ?_
    exact fun β w' hs => (hs.keepB (List.nil_sublist _)).fin [] ⟨⟨_, rfl⟩, rfl⟩
theorem keysB_c (w : World) (h : Nat) (pv : Value) (hm : Mem w [roX (hbF h pv)]) :
    Con Tryz.prog n_order_Hands_keys #[.pointer (some ⟨h, 0, none⟩)] w [] fun v Fs => (∃ s : ByteArray, v = .string s) ∧ Fs = [] := by
  have g := good_order_Hands_keys w (Un [])
  refine con_go (cx := cx_order_Hands_keys w (Un [])) g b_order_Hands_keys [.c (.v (.pointer (some ⟨h, 0, none⟩)))] [roX (hbF h pv)] hm ?_
  refine ⟨.pointer none, fun β w' hs => hb_cell (hs.get 0 rfl) (o := 4) rfl, ?_⟩
  refine call_con [] (fun β w' hs => epochsB_c w') ?_
  rintro v Fs ⟨bx, rfl, rfl⟩
  refine range_rule (α := Unit) (ι := Unit) (κ := Unit) g rfl (cv := [.pointer (some ⟨bx, 0, none⟩)]) rfl (by kernel_rfl) 1 (Nat.le_refl 1)
    (fun pre _ => pre = []) (fun _ => [⟨0, ty_sl_string, [.v (.slice none 0 0)]⟩]) (fun _ => []) (fun i => trivial)
    (fun _ _ _ => False) (fun _ => []) (fun _ => []) (fun _ => trivial)
    [bkF bx ty_ptr_ring_Ring [.pointer none]] [] [roX (hbF h pv)] ⟨rfl, trivial⟩ (fun g h => by obtain rfl := List.mem_singleton.1 h; rfl) () rfl
    (fun β w hs => ⟨β, Agr.refl _ _, hs⟩) (fun _ _ _ _ => False)
    (fun xs Fs' => xs = [] ∧ Fs' = []) (fun _ _ => False)
    (fun l w f0 R J Jx hJ0 hJo hRo _ hm => (epoB_it l w bx f0 R J Jx hJ0 hJo hRo hm).mono fun _ Fs h => h) ?_ ?_ ?_
  · rintro ⟨⟩ pre x args X W S' lb bs pn pn' hbs _ ⟨⟩
  rotate_left
  · rintro e pre j Fs ⟨⟩
  rintro xs ⟨⟩ Fs _ ⟨rfl, rfl⟩
  refine call_pu (fun β w' hs => joinE_c w' none 0 ⟨#[32]⟩) ?_
  exact fun β w' hs => (hs.keepB (List.nil_sublist _)).fin [] ⟨⟨_, rfl⟩, rfl⟩
theorem countB_c (w : World) (h : Nat) (pv : Value) (hm : Mem w [roX (hbF h pv)]) :
    Con Tryz.prog n_order_Hands_count #[.pointer (some ⟨h, 0, none⟩)] w [] fun v Fs => v = .string (mkS [48, 32, 48, 32, 48, 32, 48, 32, 48]) ∧ Fs = [] := by
  have g := good_order_Hands_count w (Un [])
  have hml := maxLen_eq
  refine con_go (cx := cx_order_Hands_count w (Un [])) g b_order_Hands_count [.c (.v (.pointer (some ⟨h, 0, none⟩)))] [roX (hbF h pv)] hm ?_
  refine ⟨.pointer none, fun β w' hs => hb_cell (hs.get 0 rfl) (o := 1) rfl, ?_⟩
  refine call_con [] (fun β w' hs => tenantsB_c w') ?_
  rintro v Fs ⟨bx, rfl, rfl⟩
  refine range_rule (α := Unit) (ι := Unit) (κ := Unit) g rfl (cv := [.pointer (some ⟨bx, 0, none⟩)]) rfl (by kernel_rfl) 3 (Nat.le_refl 3)
    (fun pre _ => pre = []) (fun _ => [⟨2, ty_int, [.v (.int .i64 0)]⟩, ⟨1, ty_int, [.v (.int .i64 0)]⟩, ⟨0, ty_ptr_order_Hands, [.v (.pointer (some ⟨h, 0, none⟩))]⟩]) (fun _ => []) (fun i => trivial)
    (fun _ _ _ => False) (fun _ => []) (fun _ => []) (fun _ => trivial)
    [bkF bx ty_ptr_cred_Store [.pointer none]] [] [roX (hbF h pv)] ⟨rfl, trivial⟩ (fun g h => by obtain rfl := List.mem_singleton.1 h; rfl) () rfl
    (fun β w hs => ⟨β, Agr.refl _ _, hs⟩) (fun _ _ _ _ => False)
    (fun xs Fs' => xs = [] ∧ Fs' = []) (fun _ _ => False)
    (fun l w f0 R J Jx hJ0 hJo hRo _ hm => (tenB_it l w bx f0 R J Jx hJ0 hJo hRo hm).mono fun _ Fs h => h) ?_ ?_ ?_
  · rintro ⟨⟩ pre x args X W S' lb bs pn pn' hbs _ ⟨⟩
  rotate_left
  · rintro e pre j Fs ⟨⟩
  rintro xs ⟨⟩ Fs _ ⟨rfl, rfl⟩
  refine draw_rule g p_order_Hands_count_7 (by kernel_rfl) [⟨2, ty_int, [.v (.int .i64 0)]⟩, ⟨1, ty_int, [.v (.int .i64 0)]⟩, ⟨0, ty_ptr_order_Hands, [.v (.pointer (some ⟨h, 0, none⟩))]⟩] [roX (hbF h pv)] Sub.refl ?_
  refine ⟨.pointer none, fun β w' hs => hb_cell (hs.get 0 rfl) (o := 2) rfl, ?_⟩
  refine ⟨.pointer none, fun β w' hs => hb_cell (hs.get 0 rfl) (o := 3) rfl, ?_⟩
  refine call_pu (fun β w' hs => nLen0_c w') ?_
  refine ⟨Sub.refl, ?_⟩
  refine call_pu (fun β w' hs => gLen0_c w') ?_
  refine ⟨Sub.refl, ?_⟩
  intro b1
  refine ⟨subPerm [1], ?_⟩
  refine loop_rule (ι := ZwS) 3 (fun j => [(6, .c (.v (.slice j.A (List.replicate j.k ([48] : List UInt8)).length j.c))), (39, .c (.v (.slice (some ⟨b1, 0, none⟩) 4 4))), (40, .c (.v (.int .i64 4))), (41, .c (.v (.int .i64 (j.k : Int)))), (1, .c (.p 0 0))]) (fun _ => [⟨0, ty_ptr_order_Hands, [.v (.pointer (some ⟨h, 0, none⟩))]⟩]) (fun j => [txF j.A (List.replicate j.k [48]) j.c, rowF ty_int 1 (.slice (some ⟨b1, 0, none⟩) 4 4) 4 (List.replicate 4 (.int .i64 0)), roX (hbF h pv)])
    (fun j => j.k ≤ 4 ∧ j.k ≤ j.c) (fun j => 4 - j.k) ⟨none, 0, 0⟩ ⟨Nat.zero_le _, Nat.le_refl _⟩ (Ent.mk' ⟨rfl, rfl, rfl, rfl, rfl, trivial⟩ rfl (fun β w' hs => (hs.keepB (((List.Sublist.refl _).cons _).cons _)).nilRow ty_string 1)) g ?_
  rintro ⟨A, c, k⟩ ⟨hk, hc⟩
  simp only at hk hc
  refine BIf.dec (fun hlt => ?_) (fun hge => ?_)
  · have hlt : k < 4 := by have h0 : (k : Int) < 4 := hlt; omega
    refine ⟨⟨b1, 0, none⟩, k, rfl, rfl, hlt, .int .i64 0, fun β w' hs => Rd.cell1 (row_rd (hs.get 1 rfl)) (by rw [List.getElem?_replicate, if_pos hlt]), ?_⟩
    refine call_pu (fun β w' hs => itoa0_c w') ?_
    intro b2
    have hLs : (List.replicate (k + 1) ([48] : List UInt8)).length = (List.replicate k ([48] : List UInt8)).length + 1 := by rw [List.length_replicate, List.length_replicate]
    have hLk : (List.replicate (k + 1) ([48] : List UInt8)).length = k + 1 := List.length_replicate
    refine ⟨1, (List.replicate k ([48] : List UInt8)).length, (List.replicate (k + 1) ([48] : List UInt8)).length, tx (List.replicate k [48]), [.string (mkS [48])], tx (List.replicate (k + 1) [48]), rfl, fun β w hs => row_rd (hs.get 0 rfl), (fun u hu => by obtain rfl := List.mem_singleton.1 hu; rfl), by rw [hLs], by rw [List.replicate_succ']; simp [tx], by omega, by show (List.replicate (k + 1) ([48] : List UInt8)).length * 16 ≤ _; omega, ?_⟩
    intro A2 c2 p2 _ h2
    refine ⟨(((k + 1) : Nat) : Int), by rw [wrap_i64 (by first | omega | (dsimp only; omega)) (by first | omega | (dsimp only; omega))]; rfl, ?_⟩
    exact ⟨⟨A2, c2, k + 1⟩, ⟨hlt, by show k + 1 ≤ c2; omega⟩, by show 4 - (k + 1) < 4 - k; omega, Ent.mk' ⟨rfl, rfl, rfl, rfl, rfl, trivial⟩ rfl (fun β w' hs => (hs.perm [1, 2, 3]).lower)⟩
  · have hk3 : k = 4 := by have h0 : ¬ (k : Int) < 4 := hge; omega
    subst hk3
    refine ⟨.pointer none, fun β w' hs => hb_cell (hs.get 2 rfl) (o := 5) rfl, ?_⟩
    refine call_pu (fun β w' hs => tkSerB_c w') ?_
    refine call_pu (fun β w' hs => dec0_c w') ?_
    intro b2
    refine ⟨1, 4, 5, tx (List.replicate 4 [48]), [.string (mkS [48])], tx (List.replicate 5 [48]), rfl, fun β w hs => row_rd (hs.get 0 rfl), (fun u hu => by obtain rfl := List.mem_singleton.1 hu; rfl), rfl, rfl, by omega, by show 5 * 16 ≤ _; omega, ?_⟩
    intro A2 c2 p2 _ h2
    refine call_pu (fun β w' hs => joinT_c w' A2 [48] [[48], [48], [48], [48]] c2 (hs.get 1 rfl) (hs.getLt 1 rfl) (by decide) p2 (by decide)) ?_
    exact fun β w' hs => (hs.keepB (List.nil_sublist _)).fin [] ⟨rfl, rfl⟩
def tlt (x y : ByteArray) : Prop := x.toList < y.toList
instance (x y : ByteArray) : Decidable (tlt x y) := by unfold tlt; exact inferInstance
structure CrdV where
  tenant : ByteArray
  user : ByteArray
  sec : SecV
  gen : Int
  rA : Option Addr
  rn : Nat
  rc : Nat
  revoked : Bool
def CrdV.ss (c : CrdV) : List SL := .v (.string c.tenant) :: .v (.string c.user) :: (c.sec.ss ++ [.v (.int .u64 c.gen), .v (.slice c.rA c.rn c.rc), .v (.bool c.revoked)])
def CrdV.vs (c : CrdV) : List Value := .string c.tenant :: .string c.user :: (c.sec.vs ++ [.int .u64 c.gen, .slice c.rA c.rn c.rc, .bool c.revoked])
theorem users0S_c (w : World) (t : ByteArray) : Pu Tryz.prog n_cred_Store_users #[.pointer none, .string t] w (.map none) := by
  refine con_of_sx (cx := cx_cred_Store_users w (Un [])) (good_cred_Store_users w (Un [])) b_cred_Store_users rfl rfl (β := Va.z) [.c (.v (.pointer none)), .c (.v (.string t))] 0 [] [] rfl rfl (Sat.start rfl) ?_
  intro β w' hs
  exact (hs.keepB (List.nil_sublist _)).fin [] ⟨rfl, rfl⟩
theorem addTenant0_c (w : World) (t : ByteArray) : Pu Tryz.prog n_cred_Store_AddTenant #[.pointer none, .string t] w (.int .i64 6) := by
  refine con_of_sx (cx := cx_cred_Store_AddTenant w (Un [])) (good_cred_Store_AddTenant w (Un [])) b_cred_Store_AddTenant rfl rfl (β := Va.z) [.c (.v (.pointer none)), .c (.v (.string t))] 0 [] [] rfl rfl (Sat.start rfl) ?_
  intro β w' hs
  exact (hs.keepB (List.nil_sublist _)).fin [] ⟨rfl, rfl⟩
theorem dropTenant0_c (w : World) (t : ByteArray) : Pu Tryz.prog n_cred_Store_DropTenant #[.pointer none, .string t] w (.int .i64 6) := by
  refine con_of_sx (cx := cx_cred_Store_DropTenant w (Un [])) (good_cred_Store_DropTenant w (Un [])) b_cred_Store_DropTenant rfl rfl (β := Va.z) [.c (.v (.pointer none)), .c (.v (.string t))] 0 [] [] rfl rfl (Sat.start rfl) ?_
  refine call_pu (fun β w' hs => users0S_c w' t) ?_
  intro β w' hs
  exact (hs.keepB (List.nil_sublist _)).fin [] ⟨rfl, rfl⟩
theorem get0_c (w : World) (t u : ByteArray) (hu : u.size ≤ 100000) (hn : NamT w) : Pu Tryz.prog n_cred_Store_get #[.pointer none, .string t, .string u] w (.pointer none) := by
  refine con_of_sx (cx := cx_cred_Store_get w (Un [])) (good_cred_Store_get w (Un [])) b_cred_Store_get rfl rfl (β := Va.z) [.c (.v (.pointer none)), .c (.v (.string t)), .c (.v (.string u))] 0 [] [oldF w] rfl rfl (old_sat rfl) ?_
  obtain ⟨p, e, hpe⟩ : ∃ p e, nameA u = (p, e) := ⟨_, _, rfl⟩
  refine call_pu (v := .tuple #[.string p, .int .i64 e]) (fun β w' hs => by
    have h := nameA_c w' u hu (hn.old (hs.get 0 rfl))
    rw [hpe] at h
    exact h) ?_
  refine BIf.not (BIf.dec (fun he => ?_) (fun he => ?_))
  · refine call_pu (fun β w' hs => users0S_c w' t) ?_
    refine ⟨.pointer none, fun w => zero_ptrC w, ?_⟩
    intro β w' hs
    exact hs.fin [] ⟨rfl, rfl⟩
  · intro β w' hs
    exact hs.fin [] ⟨rfl, rfl⟩
theorem revoke0_c (w : World) (t u : ByteArray) (on : Bool) (hu : u.size ≤ 100000) (hn : NamT w) : Pu Tryz.prog n_cred_Store_Revoke #[.pointer none, .string t, .string u, .bool on] w (.int .i64 6) := by
  refine con_of_sx (cx := cx_cred_Store_Revoke w (Un [])) (good_cred_Store_Revoke w (Un [])) b_cred_Store_Revoke rfl rfl (β := Va.z) [.c (.v (.pointer none)), .c (.v (.string t)), .c (.v (.string u)), .c (.v (.bool on))] 0 [] [oldF w] rfl rfl (old_sat rfl) ?_
  refine call_pu (fun β w' hs => get0_c w' t u hu (hn.old (hs.get 0 rfl))) ?_
  intro β w' hs
  exact (hs.keepB (List.nil_sublist _)).fin [] ⟨rfl, rfl⟩
theorem grant0_c (w : World) (t u role : ByteArray) (hu : u.size ≤ 100000) (hn : NamT w) : Pu Tryz.prog n_cred_Store_Grant #[.pointer none, .string t, .string u, .string role] w (.int .i64 6) := by
  refine con_of_sx (cx := cx_cred_Store_Grant w (Un [])) (good_cred_Store_Grant w (Un [])) b_cred_Store_Grant rfl rfl (β := Va.z) [.c (.v (.pointer none)), .c (.v (.string t)), .c (.v (.string u)), .c (.v (.string role))] 0 [] [oldF w] rfl rfl (old_sat rfl) ?_
  refine call_pu (fun β w' hs => get0_c w' t u hu (hn.old (hs.get 0 rfl))) ?_
  intro β w' hs
  exact (hs.keepB (List.nil_sublist _)).fin [] ⟨rfl, rfl⟩
theorem ungrant0_c (w : World) (t u role : ByteArray) (hu : u.size ≤ 100000) (hn : NamT w) : Pu Tryz.prog n_cred_Store_Ungrant #[.pointer none, .string t, .string u, .string role] w (.int .i64 6) := by
  refine con_of_sx (cx := cx_cred_Store_Ungrant w (Un [])) (good_cred_Store_Ungrant w (Un [])) b_cred_Store_Ungrant rfl rfl (β := Va.z) [.c (.v (.pointer none)), .c (.v (.string t)), .c (.v (.string u)), .c (.v (.string role))] 0 [] [oldF w] rfl rfl (old_sat rfl) ?_
  refine call_pu (fun β w' hs => get0_c w' t u hu (hn.old (hs.get 0 rfl))) ?_
  intro β w' hs
  exact (hs.keepB (List.nil_sublist _)).fin [] ⟨rfl, rfl⟩
theorem drop0_c (w : World) (t u : ByteArray) (hu : u.size ≤ 100000) (hn : NamT w) : Pu Tryz.prog n_cred_Store_Drop #[.pointer none, .string t, .string u] w (.int .i64 6) := by
  refine con_of_sx (cx := cx_cred_Store_Drop w (Un [])) (good_cred_Store_Drop w (Un [])) b_cred_Store_Drop rfl rfl (β := Va.z) [.c (.v (.pointer none)), .c (.v (.string t)), .c (.v (.string u))] 0 [] [oldF w] rfl rfl (old_sat rfl) ?_
  refine call_pu (fun β w' hs => get0_c w' t u hu (hn.old (hs.get 0 rfl))) ?_
  intro β w' hs
  exact (hs.keepB (List.nil_sublist _)).fin [] ⟨rfl, rfl⟩
def err3 (v : Value) (Fs : List Fact) : Prop := (∃ (s : ByteArray) (e : Int) (b : Bool), v = .tuple #[.string s, .int .i64 e, .bool b] ∧ 0 ≤ e ∧ e ≤ 17) ∧ Fs = []
set_option maxHeartbeats 1000000 in
theorem usersB_c (w : World) (h : Nat) (pv : Value) (v : List UInt8) (A : Option Addr) (a : List (List UInt8)) (hn : a.length ≤ 1000) (hal : ∀ x ∈ a, x.length ≤ 100000) (c : Nat) (hm : Mem w [roX (hbF h pv), argF A a, namF]) :
    Con Tryz.prog n_order_Hands_users #[.pointer (some ⟨h, 0, none⟩), .agg #[.string (mkS v), .slice A a.length c]] w [] err3 := by
  have g := good_order_Hands_users w (Un [])
  have hml := maxLen_eq
  refine con_go (cx := cx_order_Hands_users w (Un [])) g b_order_Hands_users [.c (.v (.pointer (some ⟨h, 0, none⟩))), .agg [.v (.string (mkS v)), .v (.slice A a.length c)]] [roX (hbF h pv), argF A a, namF] hm ?_
  refine call_con [] (fun β w' hs => clT_c w' A a c (hs.get 1 rfl) (by omega)) ?_
  rintro u Fs ⟨A1, c1, rfl, h1, rfl⟩
  intro b1
  refine ⟨1, a.length, a.length + 3, tx a, tx [[], [], []], tx (a ++ [[], [], []]), rfl, fun β w' hs => row_rd (hs.get 0 rfl), fun u hu => four_one u _ hu, rfl, by simp [tx], by omega, by show (a.length + 3) * 16 ≤ _; omega, ?_⟩
  intro A2 c2 p2 _ h2
  obtain ⟨ad2, rfl⟩ : ∃ ad, A2 = some ad := by
    cases A2 with
    | none => exact absurd (h2 rfl).2 (by decide)
    | some ad => exact ⟨ad, rfl⟩
  obtain ⟨x0, x1, x2, r, hL⟩ : ∃ x0 x1 x2 r, a ++ [[], [], []] = x0 :: x1 :: x2 :: r := by
    match a with
    | [] => exact ⟨_, _, _, _, rfl⟩
    | [_] => exact ⟨_, _, _, _, rfl⟩
    | [_, _] => exact ⟨_, _, _, _, rfl⟩
    | _ :: _ :: _ :: _ => exact ⟨_, _, _, _, rfl⟩
  have hz : ∀ x ∈ a ++ [[], [], []], x.length ≤ 100000 := fun x hx => (List.mem_append.1 hx).elim (hal x) (fun q => by simp only [List.mem_cons, List.not_mem_nil, or_false] at q; rcases q with rfl | rfl | rfl <;> decide)
  have hn3 : a.length + 3 = r.length + 3 := by have h := congrArg List.length hL; simpa using h
  rw [hL] at hz ⊢
  have z0 : (mkS x0).size ≤ 100000 := by rw [mkS_sz1]; exact hz x0 (by simp)
  have z1 : (mkS x1).size ≤ 100000 := by rw [mkS_sz1]; exact hz x1 (by simp)
  have fin : ∀ (s : ByteArray) (e : Int) (b : Bool), 0 ≤ e → e ≤ 17 → ∀ {n : Nat} {H : List Bk} {F : List Fact} (β : Va) (w' : World), Sat (cx_order_Hands_users w (Un [])) β n H F w' → Fin w [] err3 (.tuple #[.string s, .int .i64 e, .bool b]) w' := fun s e b h1 h2 _ _ _ β w' hs => (hs.keepB (List.nil_sublist _)).fin [] ⟨⟨s, e, b, rfl, h1, h2⟩, rfl⟩
  refine BIf.dec (fun hq => ?_) (fun _ => ?_)
  · refine draw_rule g p_order_Hands_users_6 (by kernel_rfl) [] [rowF ty_string 1 (.slice (some ad2) (a.length + 3) c2) (a.length + 3) (tx (x0 :: x1 :: x2 :: r)), roX (hbF h pv)] (Sub.of (List.nil_sublist _) ((((List.nil_sublist _).cons_cons _).cons_cons _).cons _)) ?_
    refine ⟨.pointer none, fun β w' hs => hb_cell (hs.get 1 rfl) (o := 1) rfl, ?_⟩
    refine ⟨_, 0, rfl, rfl, by omega, ?_⟩
    refine ⟨.string (mkS x0), fun β w' hs => Rd.cell1 (row_rd (hs.get 0 rfl)) rfl, ?_⟩
    refine call_pu (fun β w' hs => addTenant0_c w' (mkS x0)) ?_
    refine ⟨Sub.of (List.nil_sublist _) ((((List.nil_sublist _).cons_cons _).cons_cons _).cons _), ?_⟩
    refine call_pu (fun β w' hs => said_c w' 6) ?_
    exact fin _ _ _ (by decide) (by decide)
  refine BIf.dec (fun hq => ?_) (fun _ => ?_)
  · refine draw_rule g p_order_Hands_users_8 (by kernel_rfl) [] [rowF ty_string 1 (.slice (some ad2) (a.length + 3) c2) (a.length + 3) (tx (x0 :: x1 :: x2 :: r)), roX (hbF h pv)] (Sub.of (List.nil_sublist _) ((((List.nil_sublist _).cons_cons _).cons_cons _).cons _)) ?_
    refine ⟨.pointer none, fun β w' hs => hb_cell (hs.get 1 rfl) (o := 1) rfl, ?_⟩
    refine ⟨_, 0, rfl, rfl, by omega, ?_⟩
    refine ⟨.string (mkS x0), fun β w' hs => Rd.cell1 (row_rd (hs.get 0 rfl)) rfl, ?_⟩
    refine call_pu (fun β w' hs => dropTenant0_c w' (mkS x0)) ?_
    refine ⟨Sub.of (List.nil_sublist _) ((((List.nil_sublist _).cons_cons _).cons_cons _).cons _), ?_⟩
    refine call_pu (fun β w' hs => said_c w' 6) ?_
    exact fin _ _ _ (by decide) (by decide)
  refine BIf.dec (fun hq => ?_) (fun _ => ?_)
  · refine draw_rule g p_order_Hands_users_10 (by kernel_rfl) [] [rowF ty_string 1 (.slice (some ad2) (a.length + 3) c2) (a.length + 3) (tx (x0 :: x1 :: x2 :: r)), roX (hbF h pv)] (Sub.of (List.nil_sublist _) ((((List.nil_sublist _).cons_cons _).cons_cons _).cons _)) ?_
    refine ⟨.pointer none, fun β w' hs => hb_cell (hs.get 1 rfl) (o := 1) rfl, ?_⟩
    refine ⟨_, 0, rfl, rfl, by omega, ?_⟩
    refine ⟨.string (mkS x0), fun β w' hs => Rd.cell1 (row_rd (hs.get 0 rfl)) rfl, ?_⟩
    refine ⟨_, 1, rfl, rfl, by omega, ?_⟩
    refine ⟨.string (mkS x1), fun β w' hs => Rd.cell1 (row_rd (hs.get 0 rfl)) rfl, ?_⟩
    refine call_pu (fun β w' hs => drop0_c w' (mkS x0) (mkS x1) z1 (namF_T (hs.get 4 rfl))) ?_
    refine ⟨Sub.of (List.nil_sublist _) ((((List.nil_sublist _).cons_cons _).cons_cons _).cons _), ?_⟩
    refine call_pu (fun β w' hs => said_c w' 6) ?_
    exact fin _ _ _ (by decide) (by decide)
  refine BIf.dec (fun hq => ?_) (fun _ => ?_)
  · refine BIf.dec (fun _ => ?_) (fun q => absurd hq q)
    refine draw_rule g p_order_Hands_users_13 (by kernel_rfl) [⟨0, ty_order_Command, [.v (.string (mkS v)), .v (.slice A a.length c)]⟩] [rowF ty_string 1 (.slice (some ad2) (a.length + 3) c2) (a.length + 3) (tx (x0 :: x1 :: x2 :: r)), roX (hbF h pv)] (Sub.of (List.Sublist.refl _) ((((List.nil_sublist _).cons_cons _).cons_cons _).cons _)) ?_
    refine ⟨.pointer none, fun β w' hs => hb_cell (hs.get 1 rfl) (o := 1) rfl, ?_⟩
    refine ⟨_, 0, rfl, rfl, by omega, ?_⟩
    refine ⟨.string (mkS x0), fun β w' hs => Rd.cell1 (row_rd (hs.get 0 rfl)) rfl, ?_⟩
    refine ⟨_, 1, rfl, rfl, by omega, ?_⟩
    refine ⟨.string (mkS x1), fun β w' hs => Rd.cell1 (row_rd (hs.get 0 rfl)) rfl, ?_⟩
    refine call_pu (fun β w' hs => revoke0_c w' (mkS x0) (mkS x1) _ z1 (namF_T (hs.get 4 rfl))) ?_
    refine ⟨Sub.of (List.Sublist.refl _) ((((List.nil_sublist _).cons_cons _).cons_cons _).cons _), ?_⟩
    refine call_pu (fun β w' hs => said_c w' 6) ?_
    exact fin _ _ _ (by decide) (by decide)
  refine BIf.dec (fun hq => ?_) (fun _ => ?_)
  · refine draw_rule g p_order_Hands_users_13 (by kernel_rfl) [⟨0, ty_order_Command, [.v (.string (mkS v)), .v (.slice A a.length c)]⟩] [rowF ty_string 1 (.slice (some ad2) (a.length + 3) c2) (a.length + 3) (tx (x0 :: x1 :: x2 :: r)), roX (hbF h pv)] (Sub.of (List.Sublist.refl _) ((((List.nil_sublist _).cons_cons _).cons_cons _).cons _)) ?_
    refine ⟨.pointer none, fun β w' hs => hb_cell (hs.get 1 rfl) (o := 1) rfl, ?_⟩
    refine ⟨_, 0, rfl, rfl, by omega, ?_⟩
    refine ⟨.string (mkS x0), fun β w' hs => Rd.cell1 (row_rd (hs.get 0 rfl)) rfl, ?_⟩
    refine ⟨_, 1, rfl, rfl, by omega, ?_⟩
    refine ⟨.string (mkS x1), fun β w' hs => Rd.cell1 (row_rd (hs.get 0 rfl)) rfl, ?_⟩
    refine call_pu (fun β w' hs => revoke0_c w' (mkS x0) (mkS x1) _ z1 (namF_T (hs.get 4 rfl))) ?_
    refine ⟨Sub.of (List.Sublist.refl _) ((((List.nil_sublist _).cons_cons _).cons_cons _).cons _), ?_⟩
    refine call_pu (fun β w' hs => said_c w' 6) ?_
    exact fin _ _ _ (by decide) (by decide)
  refine BIf.dec (fun hq => ?_) (fun _ => ?_)
  · refine draw_rule g p_order_Hands_users_15 (by kernel_rfl) [] [rowF ty_string 1 (.slice (some ad2) (a.length + 3) c2) (a.length + 3) (tx (x0 :: x1 :: x2 :: r)), roX (hbF h pv)] (Sub.of (List.nil_sublist _) ((((List.nil_sublist _).cons_cons _).cons_cons _).cons _)) ?_
    refine ⟨.pointer none, fun β w' hs => hb_cell (hs.get 1 rfl) (o := 1) rfl, ?_⟩
    refine ⟨_, 0, rfl, rfl, by omega, ?_⟩
    refine ⟨.string (mkS x0), fun β w' hs => Rd.cell1 (row_rd (hs.get 0 rfl)) rfl, ?_⟩
    refine ⟨_, 1, rfl, rfl, by omega, ?_⟩
    refine ⟨.string (mkS x1), fun β w' hs => Rd.cell1 (row_rd (hs.get 0 rfl)) rfl, ?_⟩
    refine ⟨_, 2, rfl, rfl, by omega, ?_⟩
    refine ⟨.string (mkS x2), fun β w' hs => Rd.cell1 (row_rd (hs.get 0 rfl)) rfl, ?_⟩
    refine call_pu (fun β w' hs => grant0_c w' (mkS x0) (mkS x1) (mkS x2) z1 (namF_T (hs.get 4 rfl))) ?_
    refine ⟨Sub.of (List.nil_sublist _) ((((List.nil_sublist _).cons_cons _).cons_cons _).cons _), ?_⟩
    refine call_pu (fun β w' hs => said_c w' 6) ?_
    exact fin _ _ _ (by decide) (by decide)
  refine BIf.dec (fun hq => ?_) (fun _ => ?_)
  · refine draw_rule g p_order_Hands_users_17 (by kernel_rfl) [] [rowF ty_string 1 (.slice (some ad2) (a.length + 3) c2) (a.length + 3) (tx (x0 :: x1 :: x2 :: r)), roX (hbF h pv)] (Sub.of (List.nil_sublist _) ((((List.nil_sublist _).cons_cons _).cons_cons _).cons _)) ?_
    refine ⟨.pointer none, fun β w' hs => hb_cell (hs.get 1 rfl) (o := 1) rfl, ?_⟩
    refine ⟨_, 0, rfl, rfl, by omega, ?_⟩
    refine ⟨.string (mkS x0), fun β w' hs => Rd.cell1 (row_rd (hs.get 0 rfl)) rfl, ?_⟩
    refine ⟨_, 1, rfl, rfl, by omega, ?_⟩
    refine ⟨.string (mkS x1), fun β w' hs => Rd.cell1 (row_rd (hs.get 0 rfl)) rfl, ?_⟩
    refine ⟨_, 2, rfl, rfl, by omega, ?_⟩
    refine ⟨.string (mkS x2), fun β w' hs => Rd.cell1 (row_rd (hs.get 0 rfl)) rfl, ?_⟩
    refine call_pu (fun β w' hs => ungrant0_c w' (mkS x0) (mkS x1) (mkS x2) z1 (namF_T (hs.get 4 rfl))) ?_
    refine ⟨Sub.of (List.nil_sublist _) ((((List.nil_sublist _).cons_cons _).cons_cons _).cons _), ?_⟩
    refine call_pu (fun β w' hs => said_c w' 6) ?_
    exact fin _ _ _ (by decide) (by decide)
  exact fin _ _ _ (by decide) (by decide)
theorem usersC_c (w : World) (hp : Value) : Con Tryz.prog n_order_Hands_users #[hp, .agg #[.string (mkS [99, 111, 117, 110, 116]), .slice none 0 0]] w [] fun u Fs => u = .tuple #[.string (mkS []), .int .i64 0, .bool false] ∧ Fs = [] := by
  have g := good_order_Hands_users w (Un [])
  have hml := maxLen_eq
  refine con_go (cx := cx_order_Hands_users w (Un [])) g b_order_Hands_users [.c (.v hp), .agg [.v (.string (mkS [99, 111, 117, 110, 116])), .v (.slice none 0 0)]] [] ⟨fun _ q => (by cases q), fun _ q => (by cases q), List.Pairwise.nil⟩ ?_
  refine call_con [] (fun β w' hs => clT_c w' none [] 0 ⟨rfl, fun h => absurd h (Nat.lt_irrefl 0)⟩ (by decide)) ?_
  rintro u Fs ⟨A1, c1, rfl, h1, rfl⟩
  intro b1
  refine ⟨1, 0, 3, tx [], tx [[], [], []], tx [[], [], []], rfl, fun β w' hs => row_rd (hs.get 0 rfl), fun u hu => four_one u _ hu, rfl, rfl, by omega, by show 3 * 16 ≤ _; omega, ?_⟩
  intro A2 c2 p2 _ h2
  intro β w' hs
  exact (hs.keepB (List.nil_sublist _)).fin [] ⟨rfl, rfl⟩
def polV : Option (Nat × RlS) → Value
  | none => .pointer none
  | some (b, _) => .pointer (some ⟨b, 0, none⟩)
def polX : Option (Nat × RlS) → List Fact
  | none => [noO, noO]
  | some (b, i) => polF b i
def polOk : Option (Nat × RlS) → Prop
  | none => True
  | some (_, i) => RlS.Ok i 32
def hbG (h : Nat) (P : Option (Nat × RlS)) : List Fact := hbF h (polV P) :: polX P
theorem gKnown0_c (w : World) (s : ByteArray) : Pu Tryz.prog n_guard_Guard_known #[.pointer none, .string s] w (.tuple #[.agg #[.string ⟨#[]⟩, .int .i64 0, .int .u64 0, .int .u64 0], .int .i64 6]) := by
  have g := good_guard_Guard_known w (Un [])
  refine con_of_sx (cx := cx_guard_Guard_known w (Un [])) g b_guard_Guard_known rfl rfl (β := Va.z) [.c (.v (.pointer none)), .c (.v (.string s))] 0 [] [] rfl rfl (Sat.start rfl) ?_
  intro β w' hs
  exact (hs.keepB (List.nil_sublist _)).fin [] ⟨rfl, rfl⟩
theorem gClear0_c (w : World) (s : ByteArray) : Pu Tryz.prog n_guard_Guard_Clear #[.pointer none, .string s] w (.int .i64 6) := by
  have g := good_guard_Guard_Clear w (Un [])
  refine con_of_sx (cx := cx_guard_Guard_Clear w (Un [])) g b_guard_Guard_Clear rfl rfl (β := Va.z) [.c (.v (.pointer none)), .c (.v (.string s))] 0 [] [] rfl rfl (Sat.start rfl) ?_
  refine call_pu (fun β w' hs => gKnown0_c w' s) ?_
  intro β w' hs
  exact (hs.keepB (List.nil_sublist _)).fin [] ⟨rfl, rfl⟩
theorem polRules0_c (w : World) : Con Tryz.prog n_rule_Policy_Rules #[.pointer none] w [] (fun v Fs => ∃ bx, v = .func (.func n_rule_Policy_Rules_1) #[] #[.pointer (some ⟨bx, 0, none⟩)] ∧ Fs = [bkF bx ty_ptr_rule_Policy [.pointer none]]) := by
  refine con_of_sx (cx := cx_rule_Policy_Rules w (Un [])) (good_rule_Policy_Rules w (Un [])) b_rule_Policy_Rules rfl rfl (β := Va.z) [.c (.v (.pointer none))] 0 [] [] rfl rfl (Sat.start rfl) ?_
  intro β w' hs
  exact hs.ofBk.fin [0] ⟨β 0, rfl, rfl⟩
theorem rulB_it {α : Type} (l : Nat) (w : World) (bx : Nat) (f0 R : Fact) (J Jx : List α → Fact → Prop) (hJ0 : J [] f0) (hJo : ∀ pre f, J pre f → f.own = true) (hRo : R.own = false)
    (hm : Mem w (f0 :: R :: [bkF bx ty_ptr_rule_Policy [.pointer none]])) :
    Con Tryz.prog n_rule_Policy_Rules_1 #[.func (.yield l) #[] #[], .pointer (some ⟨bx, 0, none⟩)] w [f0, bkF bx ty_ptr_rule_Policy [.pointer none]]
      (fun _ Fs => ∃ f Fs', Fs = f :: Fs' ∧ ((∃ xs, J xs f ∧ xs = [] ∧ Fs' = []) ∨ (∃ pre, Jx pre f ∧ False))) := by
  have g := good_rule_Policy_Rules_1 w (Un [f0, bkF bx ty_ptr_rule_Policy [.pointer none]]) [bx]
  have hs0 : Sat (cx_rule_Policy_Rules_1 w (Un [f0, bkF bx ty_ptr_rule_Policy [.pointer none]]) [bx]) (Va.of fun _ => bx) 1 [] (f0 :: R :: [bkF bx ty_ptr_rule_Policy [.pointer none]]) w := by
    refine hm.sat rfl (fun f hf ho k hk => ?_) ⟨Nat.le_refl 1, fun i hi => by obtain rfl : i = 0 := Nat.lt_one_iff.1 hi; rfl⟩
    simp only [List.mem_cons, List.not_mem_nil, or_false] at hf
    rcases hf with rfl | rfl | rfl
    · exact ⟨_, by simp, hk⟩
    · rw [hRo] at ho; cases ho
    · exact ⟨bkF bx ty_ptr_rule_Policy [.pointer none], by simp, hk⟩
  have hs1 := hs0.toBk 2 rfl 0 Nat.zero_lt_one rfl
  refine con_of_sx (cx := cx_rule_Policy_Rules_1 w (Un [f0, bkF bx ty_ptr_rule_Policy [.pointer none]]) [bx]) g b_rule_Policy_Rules_1 rfl rfl (β := Va.of fun _ => bx) [.c (.v (.func (.yield l) #[] #[])), .c (.p 0 0)] 1 _ _ rfl rfl hs1 ?_
  intro β w' hs
  exact (hs.keepB (List.nil_sublist _)).fin [0] ⟨f0, _, rfl, .inl ⟨[], hJ0, rfl, rfl⟩⟩ rfl rfl rfl ⟨hJo _ _ hJ0, trivial⟩
theorem polText0_c (w : World) : Con Tryz.prog n_rule_Policy_Text #[.pointer none] w [] fun v Fs => (∃ s : ByteArray, v = .string s) ∧ Fs = [] := by
  have g := good_rule_Policy_Text w (Un [])
  refine con_go (cx := cx_rule_Policy_Text w (Un [])) g b_rule_Policy_Text [.c (.v (.pointer none))] [] ⟨fun _ q => (by cases q), fun _ q => (by cases q), List.Pairwise.nil⟩ ?_
  refine call_con [] (fun β w' hs => polRules0_c w') ?_
  rintro v Fs ⟨bx, rfl, rfl⟩
  refine reify_rule g 0 (fun _ => [.pointer none, .slice none 0 0]) rfl rfl (fun _ => rfl) (fun bb => ?_)
  refine range_rule (α := Unit) (ι := Unit) (κ := Unit) g rfl (cv := [.pointer (some ⟨bx, 0, none⟩)]) rfl (by kernel_rfl) 1 (Nat.le_refl 1)
    (fun pre _ => pre = []) (fun _ => []) (fun _ => [bkF bb ty_strings_Builder [.pointer none, .slice none 0 0]]) (fun i => ⟨rfl, trivial⟩)
    (fun _ _ _ => False) (fun _ => []) (fun _ => []) (fun _ => trivial)
    [bkF bx ty_ptr_rule_Policy [.pointer none]] [] [] ⟨rfl, trivial⟩ (fun g h => by cases h) () rfl
    (fun β w hs => ⟨β, Agr.refl _ _, hs.perm [1, 0]⟩) (fun _ _ _ _ => False)
    (fun xs Fs' => xs = [] ∧ Fs' = []) (fun _ _ => False)
    (fun l w f0 R J Jx hJ0 hJo hRo _ hm => (rulB_it l w bx f0 R J Jx hJ0 hJo hRo hm).mono fun _ Fs h => h) ?_ ?_ ?_
  · rintro ⟨⟩ pre x args X W S' lb bs pn pn' hbs _ ⟨⟩
  · rintro xs ⟨⟩ Fs _ ⟨rfl, rfl⟩
    refine call_con [0] (fun β w' hs => text0_c w' bb (.pointer none) 0 (hs.mem.take (js := [0]) rfl)) ?_
    rintro v Fs ⟨rfl, rfl⟩
    intro β w' hs
    exact (hs.keepB (List.nil_sublist _)).fin [] ⟨⟨_, rfl⟩, rfl⟩ rfl rfl rfl ⟨⟩
  · rintro e pre j Fs ⟨⟩
theorem polB_c (w : World) (h : Nat) (P : Option (Nat × RlS)) (hP : polOk P) (s : List UInt8) (hs : s.length ≤ 100000) (hm : Mem w (hbG h P ++ [mlF, namF, errF 6, errF 7, powF])) :
    Con Tryz.prog n_order_Hands_policy #[.pointer (some ⟨h, 0, none⟩), .string (mkS s)] w (hbG h P) fun v Fs => ∃ (e : Int) (P' : Option (Nat × RlS)), v = .int .i64 e ∧ 0 ≤ e ∧ e ≤ 17 ∧ polOk P' ∧ Fs = hbG h P' := by
  have g := good_order_Hands_policy w (Un (hbG h P))
  have key : ∀ (f1 f2 : Fact), hbG h P = [hbF h (polV P), f1, f2] → f1.own = true → f2.own = true → Con Tryz.prog n_order_Hands_policy #[.pointer (some ⟨h, 0, none⟩), .string (mkS s)] w (hbG h P) fun v Fs => ∃ (e : Int) (P' : Option (Nat × RlS)), v = .int .i64 e ∧ 0 ≤ e ∧ e ≤ 17 ∧ polOk P' ∧ Fs = hbG h P' := by
    intro f1 f2 he o1 o2
    rw [he] at hm g ⊢
    refine con_go (cx := cx_order_Hands_policy w (Un [hbF h (polV P), f1, f2])) g b_order_Hands_policy [.c (.v (.pointer (some ⟨h, 0, none⟩))), .c (.v (.string (mkS s)))] [mlF, namF, errF 6, errF 7, powF] hm ?_
    refine call_con [] (fun β w' hs' => polParse_c w' s hs (hs'.mem.take (js := [3, 4, 5, 6, 7]) rfl)) ?_
    rintro v Fs (⟨b, i, hi, rfl, rfl⟩ | ⟨n, e, h1, h2, rfl, rfl⟩)
    · refine ⟨_, fun β w' hs => hs.bkSet 2 (o := 6) (us := [.pointer (some ⟨b, 0, none⟩)]) rfl (Nat.le_refl 7) (fun u hu => by obtain rfl := List.mem_singleton.1 hu; rfl), ?_⟩
      intro β w' hs
      exact (hs.keepB (List.nil_sublist _)).fin [2, 0, 1] ⟨0, some (b, i), rfl, by decide, by decide, hi, rfl⟩ rfl rfl rfl ⟨rfl, rfl, rfl, trivial⟩
    · refine BIf.dec (fun h => absurd h (show ¬ (e = 0) by omega)) (fun _ => ?_)
      intro β w' hs
      exact (hs.keepB (List.nil_sublist _)).fin [0, 1, 2] ⟨e, P, rfl, by omega, h2, hP, he.symm⟩ rfl rfl rfl ⟨rfl, o1, o2, trivial⟩
  cases P with
  | none => exact key noO noO rfl rfl rfl
  | some p => exact key _ _ rfl rfl rfl
theorem cnt_num {v : List UInt8} {n k : Nat} (hk : (vbs.find? (fun q => q.1 == v)).map (·.2) = some k) (h : cntE v n = 0) : n = k := by
  unfold cntE at h
  cases hf : vbs.find? (fun q => q.1 == v) with
  | none => rw [hf] at hk; cases hk
  | some q =>
    rw [hf] at hk h
    injection hk with hk
    simp only at h
    split at h
    · rename_i h2
      rw [← h2]
      exact hk
    · cases h
def runR (h : Nat) (u : Value) (Fs : List Fact) : Prop := ∃ (s : ByteArray) (e : Int) (P' : Option (Nat × RlS)), u = .tuple #[.string s, .int .i64 e] ∧ 0 ≤ e ∧ e ≤ 17 ∧ polOk P' ∧ Fs = hbG h P'
set_option maxHeartbeats 2000000 in
theorem runB_c (w : World) (h : Nat) (P : Option (Nat × RlS)) (hP : polOk P) (v : List UInt8) (A : Option Addr) (a : List (List UInt8)) (hn : a.length ≤ 7) (hal : ∀ x ∈ a, x.length ≤ 1500) (c : Nat) (hm : Mem w (hbG h P ++ [argF A a, mlF, namF, errF 6, errF 7, powF, verbF 0])) :
    Con Tryz.prog n_order_Hands_Run #[.pointer (some ⟨h, 0, none⟩), .agg #[.string (mkS v), .slice A a.length c], .int .u64 5] w (hbG h P) (runR h) := by
  have key : ∀ (f1 f2 : Fact), hbG h P = [hbF h (polV P), f1, f2] → f1.own = true → f2.own = true → (∀ w', Mem w' [roX f1, roX f2, namF, powF] → Con Tryz.prog n_rule_Policy_Text #[polV P] w' [] fun v Fs => (∃ s : ByteArray, v = .string s) ∧ Fs = []) → Con Tryz.prog n_order_Hands_Run #[.pointer (some ⟨h, 0, none⟩), .agg #[.string (mkS v), .slice A a.length c], .int .u64 5] w (hbG h P) (runR h) := by
    intro f1 f2 he o1 o2 htext
    have hpol := fun (w' : World) (s : List UInt8) (hs : s.length ≤ 100000) hm => polB_c w' h P hP s hs hm
    rw [he] at hm ⊢
    simp only [he] at hpol
    have g := good_order_Hands_Run w (Un [hbF h (polV P), f1, f2])
    refine con_go (cx := cx_order_Hands_Run w (Un [hbF h (polV P), f1, f2])) g b_order_Hands_Run [.c (.v (.pointer (some ⟨h, 0, none⟩))), .agg [.v (.string (mkS v)), .v (.slice A a.length c)], .c (.v (.int .u64 5))] [argF A a, mlF, namF, errF 6, errF 7, powF, verbF 0] hm ?_ ⟨rfl, rfl, rfl, rfl, rfl, rfl, rfl, trivial⟩
    have fin : ∀ (s : ByteArray) (e : Int), 0 ≤ e → e ≤ 17 → ∀ {n : Nat} {H : List Bk} {F : List Fact} (β : Va) (w' : World), Sat (cx_order_Hands_Run w (Un [hbF h (polV P), f1, f2])) β n H (hbF h (polV P) :: f1 :: f2 :: F) w' → Fin w [hbF h (polV P), f1, f2] (runR h) (.tuple #[.string s, .int .i64 e]) w' := fun s e h1 h2 _ _ _ β w' hs => (hs.keepB (List.nil_sublist _)).fin [0, 1, 2] ⟨s, e, P, rfl, h1, h2, hP, he.symm⟩ rfl rfl rfl ⟨rfl, o1, o2, trivial⟩
    have hA : 0 < a.length → ∃ ad, A = some ad := fun q => by
      obtain ⟨ad, q1, _⟩ := (hm.fact (argF A a) (by simp) : Rd 1 A a.length (tx a) w).2 q
      exact ⟨ad, q1⟩
    refine call_pu (fun β w' hs => counted_c w' v A a.length c (hs.mem.take (js := [9]) rfl)) ?_
    obtain ⟨e, hce⟩ : ∃ e, cntE v a.length = e := ⟨_, rfl⟩
    have hcl := cntE_le v a.length
    rw [hce] at hcl ⊢
    refine BIf.not (BIf.dec (fun h0 => ?_) (fun _ => ?_))
    rotate_left
    · exact fin _ _ hcl.1 (by omega)
    have h0 : e = 0 := h0
    subst h0
    refine call_con [] (fun β w' hs => usersB_c w' h (polV P) v A a (by omega) (fun x hx => Nat.le_trans (hal x hx) (by decide)) c ((hs.asRo 0 rfl).mem.take (js := [0, 3, 5]) rfl)) ?_
    rintro u Fs ⟨⟨s, e, b, rfl, he1, he2⟩, rfl⟩
    cases b with
    | true => exact fin _ _ he1 he2
    | false =>
      refine BIf.dec (fun hq => ?_) (fun _ => ?_)
      · refine BIf.dec (fun _ => ?_) (fun q => absurd hq q)
        have hv : v = [117, 115, 101, 114, 45, 97, 100, 100] := eq_lit hq
        subst hv
        have hk := cnt_num (k := 5) (by decide +kernel) hce
        obtain ⟨a0, a1, a2, a3, a4, rfl⟩ : ∃ a0 a1 a2 a3 a4, a = [a0, a1, a2, a3, a4] := by
          match a, hk with
          | [a0, a1, a2, a3, a4], _ => exact ⟨_, _, _, _, _, rfl⟩
        obtain ⟨ad, rfl⟩ := hA (by simp)
        have z0 := hal a0 (by simp)
        have z1 := hal a1 (by simp)
        have z2 := hal a2 (by simp)
        have z3 := hal a3 (by simp)
        have z4 := hal a4 (by simp)
        refine call_con [] (fun β w' hs => userB_c w' h (polV P) _ (some ad) c a0 a1 a2 a3 a4 (by omega) (by omega) ((hs.asRo 0 rfl).mem.take (js := [0, 3, 6, 7, 8]) rfl)) ?_
        rintro u Fs ⟨⟨s, e, rfl, he1, he2⟩, rfl⟩
        exact fin _ _ he1 he2
      refine BIf.dec (fun hq => ?_) (fun _ => ?_)
      · have hv : v = [117, 115, 101, 114, 45, 112, 97, 115, 115] := eq_lit hq
        subst hv
        have hk := cnt_num (k := 5) (by decide +kernel) hce
        obtain ⟨a0, a1, a2, a3, a4, rfl⟩ : ∃ a0 a1 a2 a3 a4, a = [a0, a1, a2, a3, a4] := by
          match a, hk with
          | [a0, a1, a2, a3, a4], _ => exact ⟨_, _, _, _, _, rfl⟩
        obtain ⟨ad, rfl⟩ := hA (by simp)
        have z0 := hal a0 (by simp)
        have z1 := hal a1 (by simp)
        have z2 := hal a2 (by simp)
        have z3 := hal a3 (by simp)
        have z4 := hal a4 (by simp)
        refine call_con [] (fun β w' hs => userB_c w' h (polV P) _ (some ad) c a0 a1 a2 a3 a4 (by omega) (by omega) ((hs.asRo 0 rfl).mem.take (js := [0, 3, 6, 7, 8]) rfl)) ?_
        rintro u Fs ⟨⟨s, e, rfl, he1, he2⟩, rfl⟩
        exact fin _ _ he1 he2
      refine BIf.dec (fun hq => ?_) (fun _ => ?_)
      · have hv : v = [112, 111, 108, 105, 99, 121] := eq_lit hq
        subst hv
        have hk := cnt_num (k := 1) (by decide +kernel) hce
        obtain ⟨a0, rfl⟩ : ∃ a0, a = [a0] := by
          match a, hk with
          | [a0], _ => exact ⟨_, rfl⟩
        obtain ⟨ad, rfl⟩ := hA (by simp)
        have z0 := hal a0 (by simp)
        refine ⟨ad, 0, rfl, rfl, by simp, ?_⟩
        refine ⟨.string (mkS a0), fun β w' hs => Rd.cell1 (hs.get 3 rfl) rfl, ?_⟩
        refine call_con [0, 1, 2] (hown := ⟨rfl, o1, o2, trivial⟩) (fun β w' hs => hpol w' a0 (by omega) (hs.mem.take (js := [0, 1, 2, 4, 5, 6, 7, 8]) rfl)) ?_
        rintro u Fs ⟨e, P', rfl, he1, he2, hok, rfl⟩
        refine call_pu (fun β w' hs => said_c w' e) ?_
        cases P' with
        | none => exact fun β w' hs => (hs.keepB (List.nil_sublist _)).fin [0, 1, 2] ⟨_, e, none, rfl, he1, he2, hok, rfl⟩ rfl rfl rfl ⟨rfl, rfl, rfl, trivial⟩
        | some p => exact fun β w' hs => (hs.keepB (List.nil_sublist _)).fin [0, 1, 2] ⟨_, e, some p, rfl, he1, he2, hok, rfl⟩ rfl rfl rfl ⟨rfl, rfl, rfl, trivial⟩
      refine BIf.dec (fun hq => ?_) (fun _ => ?_)
      · refine ⟨_, fun β w' hs => hb_cell (show (roX (hbF h (polV P))).p w' from (hs.get 0 rfl : (hbF h (polV P)).p w')) (o := 4) rfl, ?_⟩
        refine call_pu (fun β w' hs => rot0_c w') ?_
        exact fin _ _ (by decide) (by decide)
      refine BIf.dec (fun hq => ?_) (fun _ => ?_)
      · have hv : v = [107, 101, 121, 45, 114, 101, 116, 105, 114, 101] := eq_lit hq
        subst hv
        have hk := cnt_num (k := 1) (by decide +kernel) hce
        obtain ⟨a0, rfl⟩ : ∃ a0, a = [a0] := by
          match a, hk with
          | [a0], _ => exact ⟨_, rfl⟩
        obtain ⟨ad, rfl⟩ := hA (by simp)
        have z0 := hal a0 (by simp)
        refine draw_rule g p_order_Hands_Run_21 (by kernel_rfl) [⟨0, ty_order_Command, [.v (.string (mkS [107, 101, 121, 45, 114, 101, 116, 105, 114, 101])), .v (.slice (some ad) 1 c)]⟩] [hbF h (polV P), argF (some ad) [a0]] (Sub.of (List.Sublist.refl _) ((((((List.nil_sublist _).cons_cons _).cons _).cons _).cons_cons _))) ?_
        refine ⟨ad, 0, rfl, rfl, by simp, ?_⟩
        refine ⟨.string (mkS a0), fun β w' hs => Rd.cell1 (hs.get 1 rfl) rfl, ?_⟩
        refine ⟨_, fun β w' hs => hb_cell (show (roX (hbF h (polV P))).p w' from (hs.get 0 rfl : (hbF h (polV P)).p w')) (o := 4) rfl, ?_⟩
        refine call_con [] (fun β w' hs => numberedR_c w' (mkS a0) (by rw [mkS_sz1]; omega) (hs.mem.take (js := [6, 7, 8]) rfl)) ?_
        rintro u Fs ⟨⟨e, rfl, he1, he2⟩, rfl⟩
        refine ⟨Sub.of (List.Sublist.refl _) ((((((List.nil_sublist _).cons_cons _).cons _).cons _).cons_cons _)), ?_⟩
        exact fin _ _ (by omega) he2
      refine BIf.dec (fun hq => ?_) (fun _ => ?_)
      · have hv : v = [116, 105, 99, 107, 101, 116, 45, 114, 101, 118, 111, 107, 101] := eq_lit hq
        subst hv
        have hk := cnt_num (k := 1) (by decide +kernel) hce
        obtain ⟨a0, rfl⟩ : ∃ a0, a = [a0] := by
          match a, hk with
          | [a0], _ => exact ⟨_, rfl⟩
        obtain ⟨ad, rfl⟩ := hA (by simp)
        have z0 := hal a0 (by simp)
        refine draw_rule g p_order_Hands_Run_23 (by kernel_rfl) [⟨0, ty_order_Command, [.v (.string (mkS [116, 105, 99, 107, 101, 116, 45, 114, 101, 118, 111, 107, 101])), .v (.slice (some ad) 1 c)]⟩] [hbF h (polV P), argF (some ad) [a0]] (Sub.of (List.Sublist.refl _) ((((((List.nil_sublist _).cons_cons _).cons _).cons _).cons_cons _))) ?_
        refine ⟨ad, 0, rfl, rfl, by simp, ?_⟩
        refine ⟨.string (mkS a0), fun β w' hs => Rd.cell1 (hs.get 1 rfl) rfl, ?_⟩
        refine ⟨_, fun β w' hs => hb_cell (show (roX (hbF h (polV P))).p w' from (hs.get 0 rfl : (hbF h (polV P)).p w')) (o := 5) rfl, ?_⟩
        refine call_con [] (fun β w' hs => numberedT_c w' (mkS a0) (by rw [mkS_sz1]; omega) (hs.mem.take (js := [6, 7, 8]) rfl)) ?_
        rintro u Fs ⟨⟨e, rfl, he1, he2⟩, rfl⟩
        refine ⟨Sub.of (List.Sublist.refl _) ((((((List.nil_sublist _).cons_cons _).cons _).cons _).cons_cons _)), ?_⟩
        exact fin _ _ (by omega) he2
      refine BIf.dec (fun hq => ?_) (fun _ => ?_)
      · have hv : v = [115, 111, 117, 114, 99, 101, 45, 99, 108, 101, 97, 114] := eq_lit hq
        subst hv
        have hk := cnt_num (k := 1) (by decide +kernel) hce
        obtain ⟨a0, rfl⟩ : ∃ a0, a = [a0] := by
          match a, hk with
          | [a0], _ => exact ⟨_, rfl⟩
        obtain ⟨ad, rfl⟩ := hA (by simp)
        have z0 := hal a0 (by simp)
        refine draw_rule g p_order_Hands_Run_25 (by kernel_rfl) [⟨0, ty_order_Command, [.v (.string (mkS [115, 111, 117, 114, 99, 101, 45, 99, 108, 101, 97, 114])), .v (.slice (some ad) 1 c)]⟩] [hbF h (polV P), argF (some ad) [a0]] (Sub.of (List.Sublist.refl _) ((((((List.nil_sublist _).cons_cons _).cons _).cons _).cons_cons _))) ?_
        refine ⟨_, fun β w' hs => hb_cell (show (roX (hbF h (polV P))).p w' from (hs.get 0 rfl : (hbF h (polV P)).p w')) (o := 3) rfl, ?_⟩
        refine ⟨ad, 0, rfl, rfl, by simp, ?_⟩
        refine ⟨.string (mkS a0), fun β w' hs => Rd.cell1 (hs.get 1 rfl) rfl, ?_⟩
        refine call_pu (fun β w' hs => gClear0_c w' (mkS a0)) ?_
        refine ⟨Sub.of (List.Sublist.refl _) ((((((List.nil_sublist _).cons_cons _).cons _).cons _).cons_cons _)), ?_⟩
        refine call_pu (fun β w' hs => said_c w' 6) ?_
        refine ⟨Sub.of (List.Sublist.refl _) ((((((List.nil_sublist _).cons_cons _).cons _).cons _).cons_cons _)), ?_⟩
        exact fin _ _ (by decide) (by decide)
      refine BIf.dec (fun hq => ?_) (fun _ => ?_)
      · refine call_con [] (fun β w' hs => sweepB_c w' h (polV P) 5 ((hs.asRo 0 rfl).mem.take (js := [0]) rfl)) ?_
        rintro u Fs ⟨⟨s, rfl⟩, rfl⟩
        exact fin _ _ (by decide) (by decide)
      refine BIf.dec (fun hq => ?_) (fun _ => ?_)
      · have hv : v = [115, 104, 111, 119, 45, 117, 115, 101, 114] := eq_lit hq
        subst hv
        have hk := cnt_num (k := 2) (by decide +kernel) hce
        obtain ⟨a0, a1, rfl⟩ : ∃ a0 a1, a = [a0, a1] := by
          match a, hk with
          | [a0, a1], _ => exact ⟨_, _, rfl⟩
        obtain ⟨ad, rfl⟩ := hA (by simp)
        have z0 := hal a0 (by simp)
        have z1 := hal a1 (by simp)
        refine draw_rule g p_order_Hands_Run_29 (by kernel_rfl) [⟨0, ty_order_Command, [.v (.string (mkS [115, 104, 111, 119, 45, 117, 115, 101, 114])), .v (.slice (some ad) 2 c)]⟩] [hbF h (polV P), argF (some ad) [a0, a1]] (Sub.of (List.Sublist.refl _) ((((((List.nil_sublist _).cons_cons _).cons _).cons _).cons_cons _))) ?_
        refine ⟨ad, 0, rfl, rfl, by simp, ?_⟩
        refine ⟨.string (mkS a0), fun β w' hs => Rd.cell1 (hs.get 1 rfl) rfl, ?_⟩
        refine ⟨ad, 1, rfl, rfl, by simp, ?_⟩
        refine ⟨.string (mkS a1), fun β w' hs => Rd.cell1 (hs.get 1 rfl) rfl, ?_⟩
        refine call_con [] (fun β w' hs => showB_c w' h (polV P) (mkS a0) (mkS a1) ((hs.asRo 0 rfl).mem.take (js := [0]) rfl)) ?_
        rintro u Fs ⟨⟨s, e, rfl, he1, he2⟩, rfl⟩
        refine ⟨Sub.of (List.Sublist.refl _) ((((((List.nil_sublist _).cons_cons _).cons _).cons _).cons_cons _)), ?_⟩
        exact fin _ _ he1 he2
      refine BIf.dec (fun hq => ?_) (fun _ => ?_)
      · refine ⟨_, fun β w' hs => hb_cell (show (roX (hbF h (polV P))).p w' from (hs.get 0 rfl : (hbF h (polV P)).p w')) (o := 6) rfl, ?_⟩
        refine call_con [] (fun β w' hs => htext w' (((hs.asRo 1 rfl o1).asRo 2 rfl o2).mem.take (js := [1, 2, 5, 8]) rfl)) ?_
        rintro u Fs ⟨⟨s, rfl⟩, rfl⟩
        exact fin _ _ (by decide) (by decide)
      refine BIf.dec (fun hq => ?_) (fun _ => ?_)
      · refine call_con [] (fun β w' hs => keysB_c w' h (polV P) ((hs.asRo 0 rfl).mem.take (js := [0]) rfl)) ?_
        rintro u Fs ⟨⟨s, rfl⟩, rfl⟩
        exact fin _ _ (by decide) (by decide)
      refine call_con [] (fun β w' hs => countB_c w' h (polV P) ((hs.asRo 0 rfl).mem.take (js := [0]) rfl)) ?_
      rintro u Fs ⟨rfl, rfl⟩
      exact fin _ _ (by decide) (by decide)
  cases P with
  | none => exact key noO noO rfl rfl rfl (fun w' _ => polText0_c w')
  | some p => exact key _ _ rfl rfl rfl (fun w' hm => polText_c w' p.1 p.2 hP hm)
def fewL (l : List (List UInt8)) : List (List UInt8) := (l.take 7).map (·.take 1500)
theorem fewL_len (l : List (List UInt8)) : (fewL l).length ≤ 7 := by
  unfold fewL
  rw [List.length_map, List.length_take]
  omega
theorem fewL_sz (l : List (List UInt8)) : ∀ x ∈ fewL l, x.length ≤ 1500 := by
  intro x hx
  obtain ⟨y, _, rfl⟩ := List.mem_map.1 hx
  rw [List.length_take]
  omega
theorem fewL_lt {l : List (List UInt8)} {k : Nat} {x : List UInt8} (hx : l[k]? = some x) (h : k < 7) : fewL (l.take (k + 1)) = fewL (l.take k) ++ [x.take 1500] := by
  unfold fewL
  rw [List.take_take, List.take_take, show min 7 (k + 1) = k + 1 by omega, show min 7 k = k by omega, List.take_add_one, hx, List.map_append]
  rfl
theorem fewL_ge {l : List (List UInt8)} {k : Nat} (h : ¬ k < 7) : fewL (l.take (k + 1)) = fewL (l.take k) := by
  unfold fewL
  rw [List.take_take, List.take_take, show min 7 (k + 1) = 7 by omega, show min 7 k = 7 by omega]
structure FwS where
  A : Option Addr
  c : Nat
  k : Nat
theorem refFew_c (w : World) (v : List UInt8) (A : Option Addr) (l : List (List UInt8)) (c : Nat) (hn : l.length ≤ 9223372036854775807) (hm : Mem w [argF A l]) :
    Con Tryz.prog n_ostiaryref24_Few #[.agg #[.string (mkS v), .slice A l.length c]] w [] fun u Fs => ∃ A' c', u = .agg #[.string (mkS (v.take 20)), .slice A' (fewL l).length c'] ∧ Fs = [txF A' (fewL l) c'] := by
  have g := good_ostiaryref24_Few w (Un [])
  have hml := maxLen_eq
  refine con_go (cx := cx_ostiaryref24_Few w (Un [])) g b_ostiaryref24_Few [.agg [.v (.string (mkS v)), .v (.slice A l.length c)]] [argF A l] hm ?_
  refine loop_rule 2 (fun j : FwS => [(3, .c (.v (.slice j.A (fewL (l.take j.k)).length j.c))), (7, .c (.v (.slice A l.length c))), (8, .c (.v (.int .i64 (l.length : Int)))), (9, .c (.v (.int .i64 (j.k : Int)))), (1, .c (.p 0 0)), (2, .c (.p 1 0))]) (fun _ => [⟨1, ty_ostiaryref24_Command, [.v (.string (mkS [])), .v (.slice none 0 0)]⟩, ⟨0, ty_ostiaryref24_Command, [.v (.string (mkS v)), .v (.slice A l.length c)]⟩]) (fun j => [txF j.A (fewL (l.take j.k)) j.c, argF A l])
    (fun j => j.k ≤ l.length ∧ (fewL (l.take j.k)).length ≤ j.c) (fun j => l.length - j.k) ⟨none, 0, 0⟩ ⟨Nat.zero_le _, Nat.le_refl _⟩ (Ent.mk' ⟨rfl, rfl, rfl, rfl, rfl, rfl, trivial⟩ rfl (fun β w' hs => hs.nilRow ty_string 1)) g ?_
  rintro ⟨A2, c2, k⟩ ⟨hk, hc2⟩
  simp only at hk hc2
  refine BIf.dec (fun hlt => ?_) (fun hge => ?_)
  · have hlt : k < l.length := by have h0 : (k : Int) < (l.length : Int) := hlt; omega
    obtain ⟨x, hx, hxm⟩ := at_lt (l := l) (k := k) hlt
    obtain ⟨ad, rfl⟩ : ∃ ad, A = some ad := by
      obtain ⟨ad, h, _⟩ := (hm.fact _ List.mem_cons_self : Rd 1 A l.length (tx l) w).2 (by omega)
      exact ⟨ad, h⟩
    refine ⟨ad, k, rfl, rfl, hlt, .string (mkS x), fun β w' hs => Rd.cell1 (hs.get 1 rfl) (by simp [tx, hx]), ?_⟩
    refine BIf.dec (fun h7 => ?_) (fun h7 => ?_)
    · have h7 : k < 7 := by have h0 : (k : Int) < 7 := h7; omega
      have hnx := fewL_lt hx h7
      have hl1 : (fewL (l.take (k + 1))).length = (fewL (l.take k)).length + 1 := by rw [hnx, List.length_append]; rfl
      have hol := fewL_len (l.take (k + 1))
      refine call_pu (fun β w' hs => cutTextO_c w' (mkS x) 1500 (by decide)) ?_
      rw [mkSo]
      intro b2
      refine ⟨1, (fewL (l.take k)).length, (fewL (l.take (k + 1))).length, tx (fewL (l.take k)), [.string (mkS (x.take 1500))], tx (fewL (l.take (k + 1))), rfl, fun β w hs => row_rd (hs.get 0 rfl), (fun u hu => by obtain rfl := List.mem_singleton.1 hu; rfl), by rw [hl1], by rw [hnx]; simp [tx], by omega, by show (fewL (l.take (k + 1))).length * 16 ≤ _; omega, ?_⟩
      intro A' c' q1 q2 q3
      refine ⟨((k + 1 : Nat) : Int), by rw [wrap_i64 (by first | omega | (dsimp only; omega)) (by first | omega | (dsimp only; omega))]; rfl, ?_⟩
      exact ⟨⟨A', c', k + 1⟩, ⟨hlt, q1⟩, by show l.length - (k + 1) < l.length - k; omega, Ent.mk' ⟨rfl, rfl, rfl, rfl, rfl, rfl, trivial⟩ rfl (fun β w' hs => (hs.perm [1, 2]).lower)⟩
    · have h7 : ¬ k < 7 := fun h => h7 (by show (k : Int) < 7; omega)
      have hnx := fewL_ge (l := l) h7
      refine ⟨((k + 1 : Nat) : Int), by rw [wrap_i64 (by first | omega | (dsimp only; omega)) (by first | omega | (dsimp only; omega))]; rfl, ?_⟩
      refine ⟨⟨A2, c2, k + 1⟩, ⟨hlt, by show (fewL (l.take (k + 1))).length ≤ c2; rw [hnx]; exact hc2⟩, by show l.length - (k + 1) < l.length - k; omega, ?_⟩
      simp only [hnx]
      exact Ent.same ⟨rfl, rfl, rfl, rfl, rfl, rfl, trivial⟩ rfl
  · have hge0 : k = l.length := by have h0 : ¬ (k : Int) < (l.length : Int) := hge; omega
    have hfin : fewL (l.take k) = fewL l := by rw [hge0, List.take_length]
    rw [hfin] at hc2 ⊢
    refine call_pu (fun β w' hs => cutTextO_c w' (mkS v) 20 (by decide)) ?_
    rw [mkSo]
    intro β w' hs
    exact (hs.keepB (List.nil_sublist _)).fin [0] ⟨A2, c2, rfl, rfl⟩ rfl rfl rfl ⟨rfl, trivial⟩
theorem cmd_of {w : World} {m : Nat} {cs : List Value} (h : Opens Tryz.prog w m ty_ostiaryref24_Command cs) : ∃ (v : List UInt8) (A : Option Addr) (l : List (List UInt8)) (c : Nat), cs = [.string (mkS v), .slice A l.length c] ∧ Rd 1 A l.length (tx l) w ∧ l.length ≤ maxLen := by
  have cT : Tryz.prog.cellsOf ty_string = 1 := by kernel_rfl
  have cL : Tryz.prog.cellsOf ty_sl_string = 1 := by kernel_rfl
  have cC : Tryz.prog.cellsOf ty_ostiaryref24_Command = 2 := by kernel_rfl
  obtain ⟨m3, hl, hf⟩ := h.structT (ok48) rfl
  have f0 := hf 0 0 1 ty_string rfl rfl
  have f1 := hf 1 1 1 ty_sl_string rfl rfl
  rw [cC] at hl
  rw [cT] at f0
  rw [cL] at f1
  obtain ⟨x0, r0, rfl, k0⟩ := len_cons hl
  obtain ⟨x1, r1, rfl, k1⟩ := len_cons k0
  obtain rfl := List.eq_nil_of_length_eq_zero k1
  obtain ⟨t, h0, s0⟩ := f0.str ((ok9).real (d := .string) rfl rfl)
  obtain ⟨A, k, c, xs, m4, h4, _, q2, q3, _, _, q6, q7⟩ := f1.slice ((ok34).real (d := .slice ty_string) rfl rfl)
  obtain ⟨ss, hsl, hfl, hok⟩ := list_choose (f := fun s : ByteArray => [Value.string s]) (p := fun s => s.size ≤ maxLen) (xs := xs) (fun y hy => (q7 y hy).str ((ok9).real (d := .string) rfl rfl))
  have hfm : ss.flatMap (fun s => [Value.string s]) = strs ss := flat_one Value.string ss
  rw [cT, hfl, hfm] at q6
  have hk : k = ss.length := by omega
  subst hk
  simp at h0 h4
  subst h0 h4
  have e : tx (ss.map (·.data.toList)) = strs ss := by
    unfold tx strs
    rw [List.map_map]
    refine List.map_congr_left (fun s _ => ?_)
    simp [mkS]
  refine ⟨t.data.toList, A, ss.map (·.data.toList), c, ?_, ?_, ?_⟩
  · rw [List.length_map]
    simp [mkS]
  · rw [List.length_map, e]
    exact q6
  · rw [List.length_map]
    omega
def polX1 : Option (Nat × RlS) → Fact
  | none => noO
  | some (b, i) => bkF b ty_rule_Policy [.slice i.A i.rs.length i.c]
def polX2 : Option (Nat × RlS) → Fact
  | none => noO
  | some (_, i) => rulF i.A i.rs i.c
theorem hbG_eq (h : Nat) (P : Option (Nat × RlS)) : hbG h P = [hbF h (polV P), polX1 P, polX2 P] := by
  cases P <;> rfl
theorem polX1_own (P : Option (Nat × RlS)) : (polX1 P).own = true := by cases P <;> rfl
theorem polX2_own (P : Option (Nat × RlS)) : (polX2 P).own = true := by cases P <;> rfl
def runR2 (h : Nat) (u : Value) (Fs : List Fact) : Prop := ∃ (s : ByteArray) (e : Int) (P' : Option (Nat × RlS)), u = .tuple #[.string s, .int .i64 e] ∧ 0 ≤ e ∧ e ≤ 17 ∧ polOk P' ∧ Fs = [hbF h (polV P'), polX1 P', polX2 P']
theorem runB2_c (w : World) (h : Nat) (P : Option (Nat × RlS)) (hP : polOk P) (v : List UInt8) (A : Option Addr) (a : List (List UInt8)) (hn : a.length ≤ 7) (hal : ∀ x ∈ a, x.length ≤ 1500) (c : Nat) (hm : Mem w ([hbF h (polV P), polX1 P, polX2 P] ++ [argF A a, mlF, namF, errF 6, errF 7, powF, verbF 0])) :
    Con Tryz.prog n_order_Hands_Run #[.pointer (some ⟨h, 0, none⟩), .agg #[.string (mkS v), .slice A a.length c], .int .u64 5] w [hbF h (polV P), polX1 P, polX2 P] (runR2 h) := by
  have key := runB_c w h P hP v A a hn hal c (by rw [hbG_eq]; exact hm)
  rw [hbG_eq] at key
  exact key.mono fun u Fs ⟨s, e, P', h1, h2, h3, h4, h5⟩ => ⟨s, e, P', h1, h2, h3, h4, h5.trans (hbG_eq h P')⟩
set_option maxRecDepth 20000 in
theorem runCnt_c (w : World) (h : Nat) (P : Option (Nat × RlS)) (hm : Mem w ([hbF h (polV P), polX1 P, polX2 P] ++ [verbF 0])) :
    Con Tryz.prog n_order_Hands_Run #[.pointer (some ⟨h, 0, none⟩), .agg #[.string (mkS [99, 111, 117, 110, 116]), .slice none 0 0], .int .u64 5] w [hbF h (polV P), polX1 P, polX2 P] fun v Fs => v = .tuple #[.string (mkS [48, 32, 48, 32, 48, 32, 48, 32, 48]), .int .i64 0] ∧ Fs = [] := by
  have g := good_order_Hands_Run w (Un [hbF h (polV P), polX1 P, polX2 P])
  refine con_go (cx := cx_order_Hands_Run w (Un [hbF h (polV P), polX1 P, polX2 P])) g b_order_Hands_Run [.c (.v (.pointer (some ⟨h, 0, none⟩))), .agg [.v (.string (mkS [99, 111, 117, 110, 116])), .v (.slice none 0 0)], .c (.v (.int .u64 5))] [verbF 0] hm ?_
  have hc : cntE [99, 111, 117, 110, 116] 0 = 0 := by decide +kernel
  refine call_pu (v := .int .i64 0) (fun β w' hs => by
    have h := counted_c w' [99, 111, 117, 110, 116] none 0 0 (hs.mem.take (js := [3]) rfl)
    rw [hc] at h
    exact h) ?_
  refine call_con [] (fun β w' hs => usersC_c w' _) ?_
  rintro u Fs ⟨rfl, rfl⟩
  refine call_con [] (fun β w' hs => countB_c w' h (polV P) ((hs.asRo 0 rfl).mem.take (js := [0]) rfl)) ?_
  rintro u Fs ⟨rfl, rfl⟩
  exact fun β w' hs => (hs.keepB (List.nil_sublist _)).fin [] ⟨rfl, rfl⟩ rfl rfl rfl ⟨⟩
structure CmdP where
  v : List UInt8
  A : Option Addr
  l : List (List UInt8)
  c : Nat
def CmdP.cells (x : CmdP) : List Value := [.string (mkS x.v), .slice x.A x.l.length x.c]
structure CmdP.In (x : CmdP) (w : World) : Prop where
  r : Rd 1 x.A x.l.length (tx x.l) w
  n : x.l.length ≤ maxLen
theorem cmdP_at {w : World} {A : Option Addr} {ad : Addr} {cs : List CmdP} (h : Rd 2 A cs.length (cs.flatMap CmdP.cells) w) (hA : A = some ad) {k : Nat} {x : CmdP} (ho : cs[k]? = some x) : ∀ j u, x.cells[j]? = some u → w.cell? ((ad.add (k * 2)).add j) = some u := by
  obtain ⟨hil, hie⟩ := List.getElem?_eq_some_iff.1 ho
  have h2 := Rd.elem (f := CmdP.cells) (fun _ => rfl) h hA hil
  rw [hie] at h2
  exact h2
theorem argF_lt {w : World} {A : Option Addr} {l : List (List UInt8)} (h : Rd 1 A l.length (tx l) w) : ∀ k, (argF A l).D k → k < w.heap.size := by
  rintro k ⟨h0, ad, rfl, rfl⟩
  obtain ⟨ad', q, hc⟩ := h.2 (by omega)
  cases q
  have h1 := hc 0 ((tx l)[0]'(by rw [h.1]; omega)) (by simp)
  exact Lib.lt_of_cell h1
theorem Sat.fromOldB {cx : Cx} {β : Va} {n : Nat} {H : List Bk} {F : List Fact} {W w : World} (h : Sat cx β n H F w) (j : Nat) (hj : nth F j = some (oldF W)) (f : Fact) (hfo : f.own = false) (hp : f.p W) (hlt : ∀ k, f.D k → k < W.heap.size) : Sat cx β n H (f :: F) w :=
  h.sub j hj rfl f hfo (f.st W w (fun k hk => (h.get j hj : (oldF W).p w) k (hlt k hk)) hp) hlt
structure BrS where
  k : Nat
  P : Option (Nat × RlS)
set_option maxHeartbeats 1000000 in
theorem orderBare_c (w : World) (A : Option Addr) (cs : List CmdP) (c : Nat) (hA : Rd 2 A cs.length (cs.flatMap CmdP.cells) w) (hin : ∀ x ∈ cs, x.In w) (hn : cs.length ≤ 9223372036854775807)
    (hm : Mem w [oldF w, oddF 5, firstF 2, namF, verbF 0, mlF, errF 6, errF 7, powF]) :
    Con Tryz.prog n_ostiarylaw24_OrderBare #[.slice A cs.length c] w [] fun v Fs => v = .bool true ∧ Fs = [] := by
  have g := good_ostiarylaw24_OrderBare w (Un [])
  have hml := maxLen_eq
  refine con_goT (cx := cx_ostiarylaw24_OrderBare w (Un [])) g b_ostiarylaw24_OrderBare [.c (.v (.slice A cs.length c))] [oldF w, oddF 5, firstF 2, namF, verbF 0, mlF, errF 6, errF 7, powF] hm ?_ ⟨rfl, rfl, rfl, rfl, rfl, rfl, rfl, rfl, rfl, trivial⟩
  refine tri_seq g ?_
  refine tri_seq g ?_
  refine call_con [] (fun β w' hs => awake24_c w' (hs.mem.take (js := [1, 2, 3, 4]) rfl)) ?_
  rintro v Fs ⟨rfl, rfl⟩
  refine tri_seq g ?_
  refine reify_tri 0 (fun _ => [.pointer none, .pointer none, .pointer none, .pointer none, .pointer none, .pointer none, .pointer none]) rfl rfl (fun _ => rfl) (fun h => ?_)
  refine tri_sat (F' := [hbF h (polV none), noO, noO, oldF w, oddF 5, firstF 2, namF, verbF 0, mlF, errF 6, errF 7, powF]) (fun β w hs => ((hs.noMem noO trivial (fun _ h => h)).noMem noO trivial (fun _ h => h)).perm [2, 0, 1, 3, 4, 5, 6, 7, 8, 9, 10, 11]) ?_
  refine tri_seqJ (ι := Option (Nat × RlS)) g polOk 1 (fun _ => [(3, .c (.v (.pointer (some ⟨h, 0, none⟩))))]) (fun _ => []) (fun P => [hbF h (polV P), polX1 P, polX2 P, oldF w, oddF 5, firstF 2, namF, verbF 0, mlF, errF 6, errF 7, powF]) ?_ ?_
  rotate_left
  · refine loop_rule (ι := BrS) 1 (fun j => [(3, .c (.v (.pointer (some ⟨h, 0, none⟩)))), (14, .c (.v (.slice A cs.length c))), (15, .c (.v (.int .i64 (cs.length : Int)))), (16, .c (.v (.int .i64 (j.k : Int))))]) (fun _ => []) (fun j => [hbF h (polV j.P), polX1 j.P, polX2 j.P, oldF w, oddF 5, firstF 2, namF, verbF 0, mlF, errF 6, errF 7, powF])
      (fun j => j.k ≤ cs.length ∧ polOk j.P) (fun j => cs.length - j.k) ⟨0, none⟩ ⟨Nat.zero_le _, trivial⟩ (Ent.mk' ⟨rfl, rfl, rfl, rfl, trivial⟩ rfl (fun β w' hs => hs.keepB (List.nil_sublist _))) g ?_
    rintro ⟨k, P⟩ ⟨hk, hP⟩
    simp only at hk hP
    refine BIf.dec (fun hlt => ?_) (fun hge => ?_)
    · have hlt : k < cs.length := by have h0 : (k : Int) < (cs.length : Int) := hlt; omega
      obtain ⟨x, hx, hxm⟩ := at_lt (l := cs) (k := k) hlt
      have hxi := hin x hxm
      obtain ⟨ad, hAd, _⟩ := hA.2 (by omega)
      refine ⟨ad, k, hAd, rfl, hlt, ?_⟩
      refine ⟨x.cells, rfl, fun β w' hs => cmdP_at (Rd.old hA (hs.get 3 rfl)) hAd hx, ?_⟩
      refine BIf.dec (fun _ => EntX.of P hP (Ent.mk' ⟨rfl, trivial⟩ rfl (fun β w' hs => (hs.keepB (List.nil_sublist _)).lower))) (fun _ => ?_)
      refine call_conS [] (fun β w' hs => refFew_c w' x.v x.A x.l x.c (by have h := hxi.n; rw [maxLen_eq] at h; exact h) ((hs.fromOldB 3 rfl (argF x.A x.l) rfl hxi.r (argF_lt hxi.r)).mem.take (js := [0]) rfl)) ?_
      rintro v Fs ⟨A', c', rfl, rfl⟩
      refine ⟨_, _, fun β w' hs => hs.rowRd 0 rfl, ?_⟩
      have hal := fewL_sz x.l
      have hll := fewL_len x.l
      generalize x.v.take 20 = vb
      generalize fewL x.l = a at hal hll ⊢
      refine call_con [1, 2, 3] (hown := ⟨rfl, polX1_own P, polX2_own P, trivial⟩) (fun β w' hs => runB2_c w' h P hP vb A' a hll hal c' (hs.mem.take (js := [1, 2, 3, 0, 9, 7, 10, 11, 12, 8]) rfl)) ?_
      rintro u Fs ⟨s, e, P', rfl, h1, h2, hok, rfl⟩
      refine BIf.dec (fun q => absurd (show e < 0 from q) (by omega)) (fun _ => ?_)
      refine BIf.dec (fun q => absurd (show e > 17 from q) (by omega)) (fun _ => ?_)
      refine ⟨(((k + 1) : Nat) : Int), by rw [wrap_i64 (by first | omega | (dsimp only; omega)) (by first | omega | (dsimp only; omega))]; rfl, ?_⟩
      exact ⟨⟨k + 1, P'⟩, ⟨hlt, hok⟩, by show cs.length - (k + 1) < cs.length - k; omega, Ent.mk' ⟨rfl, rfl, rfl, rfl, trivial⟩ rfl (fun β w' hs => ((hs.keepB (List.nil_sublist _)).perm [0, 1, 2, 4, 5, 6, 7, 8, 9, 10, 11, 12]).lower)⟩
    · exact EntX.of P hP (Ent.mk' ⟨rfl, trivial⟩ rfl (fun β w' hs => hs))
  intro P hP
  refine tri_seq g ?_
  refine call_con [0, 1, 2] (hown := ⟨rfl, polX1_own P, polX2_own P, trivial⟩) (fun β w' hs => runCnt_c w' h P (hs.mem.take (js := [0, 1, 2, 7]) rfl)) ?_
  rintro u Fs ⟨rfl, rfl⟩
  refine tri_of g ?_
  exact fun β w' hs => (hs.keepB (List.nil_sublist _)).fin [] ⟨rfl, rfl⟩ rfl rfl rfl ⟨⟩
theorem mem_oldL {w : World} {Rs : List Fact} (hf : ∀ f ∈ Rs, f.own = false) (hm : Mem w Rs) : Mem w (oldF w :: Rs) := by
  refine ⟨fun g hg => ?_, fun g hg k hk => ?_, List.pairwise_cons.2 ⟨fun g hg ho => ?_, hm.sepf⟩⟩
  · rcases List.mem_cons.1 hg with rfl | hg
    · exact fun k _ => rfl
    · exact hm.fact g hg
  · rcases List.mem_cons.1 hg with rfl | hg
    · exact hk
    · exact hm.flt g hg k hk
  · rcases ho with ho | ho
    · cases ho
    · rw [hf g hg] at ho; cases ho
theorem cmds_of {w : World} {m : Nat} {A : Option Addr} {n c : Nat} (ho : Opens Tryz.prog w m ty_sl_ostiaryref24_Command [.slice A n c]) : ∃ cs : List CmdP, cs.length = n ∧ Rd 2 A cs.length (cs.flatMap CmdP.cells) w ∧ (∀ x ∈ cs, x.In w) ∧ n ≤ maxLen := by
  obtain ⟨A', n', c', xs, m2, hcs, h1, h2, hxl, hnil, hlen, hr, hx⟩ := ho.slice ((ok38).real (d := .slice ty_ostiaryref24_Command) rfl rfl)
  simp only [List.cons.injEq, and_true] at hcs
  injection hcs with e1 e2 e3
  subst e1 e2 e3
  have cC : Tryz.prog.cellsOf ty_ostiaryref24_Command = 2 := by kernel_rfl
  obtain ⟨cs, hol, hfl, hok⟩ := list_choose (f := CmdP.cells) (p := fun x => x.In w) (xs := xs) (fun y hy => by
    obtain ⟨v, A, l, c, he, hr, hn⟩ := cmd_of (hx y hy)
    exact ⟨⟨v, A, l, c⟩, he, ⟨hr, hn⟩⟩)
  rw [cC, hfl] at hr
  have hk : cs.length = n := by omega
  subst hk
  exact ⟨cs, rfl, hr, hok, by omega⟩
theorem orderBareL_c (w : World) (A : Option Addr) (cs : List CmdP) (c : Nat) (hA : Rd 2 A cs.length (cs.flatMap CmdP.cells) w) (hin : ∀ x ∈ cs, x.In w) (hn : cs.length ≤ 9223372036854775807)
    (hm : Mem w [oddF 5, firstF 2, namF, verbF 0, mlF, errF 6, errF 7, powF]) :
    Con Tryz.prog n_ostiarylaw24_OrderBare #[.slice A cs.length c] w [] fun v Fs => v = .bool true ∧ Fs = [] :=
  orderBare_c w A cs c hA hin hn (mem_oldL (fun f hf => by
    simp only [List.mem_cons, List.not_mem_nil, or_false] at hf
    rcases hf with rfl | rfl | rfl | rfl | rfl | rfl | rfl | rfl <;> rfl) hm)
end Go.Proofs.YteenjgfbbkdlhaaGreatDoor.Sx

namespace Go.Proofs.YteenjgfbbkdlhaaGreatDoor.Sx
open Go
def RoOk (w : World) (f : Fact) : Prop := f.own = false ∧ f.p w ∧ ∀ k, f.D k → k < w.heap.size
theorem mem_ro {w : World} {Fs : List Fact} (h : ∀ f ∈ Fs, RoOk w f) : Mem w Fs := by
  refine ⟨fun f hf => (h f hf).2.1, fun f hf k hk => (h f hf).2.2 k hk, ?_⟩
  induction Fs with
  | nil => exact List.Pairwise.nil
  | cons f r ih =>
    refine List.pairwise_cons.2 ⟨fun g hg q => ?_, ih (fun g hg => h g (List.mem_cons_of_mem _ hg))⟩
    rcases q with q | q
    · rw [(h f List.mem_cons_self).1] at q; cases q
    · rw [(h g (List.mem_cons_of_mem _ hg)).1] at q; cases q
theorem rd_ok {w : World} {size : Nat} {A : Option Addr} {k : Nat} {xs : List Value} (h : Rd size A k xs w) : RoOk w (rdF size A k xs) := ⟨rfl, h, rd_lt h⟩
theorem ro_nil {w : World} : ∀ f ∈ ([] : List Fact), RoOk w f := fun f h => by cases h
theorem ro_cons {w : World} {f : Fact} {r : List Fact} (h1 : RoOk w f) (h2 : ∀ g ∈ r, RoOk w g) : ∀ g ∈ f :: r, RoOk w g := fun g hg => by
  rcases List.mem_cons.1 hg with rfl | hg
  · exact h1
  · exact h2 g hg
theorem nam_ok {w : World} (f : Forms 10 w) (s5 : (spansF 8 blanksL).p w) (s6 : (spansF 9 nothingL).p w) (s4 : (spansF 4 barredL).p w) : RoOk w namF := by
  refine ⟨rfl, fun g hg => ?_, fun k hk => ?_⟩
  · simp only [List.mem_cons, List.not_mem_nil, or_false] at hg
    rcases hg with rfl | rfl | rfl | rfl
    · exact f
    · exact s5
    · exact s6
    · exact s4
  · obtain ⟨g, hg, hk⟩ := hk
    simp only [List.mem_cons, List.not_mem_nil, or_false] at hg
    rcases hg with rfl | rfl | rfl | rfl
    · exact rd_lt f k hk
    · exact rd_lt s5 k hk
    · exact rd_lt s6 k hk
    · exact rd_lt s4 k hk
end Go.Proofs.YteenjgfbbkdlhaaGreatDoor.Sx

namespace Go.Proofs.YteenjgfbbkdlhaaGreatDoor.Sx
open Go
section
variable {H : Type} {enc : TypeId × Value → H} {w : World} {base : Nat} {sp : Nat → Bool} {held : Bool}
theorem pow_of {m n : Nat} {t e : TypeId} {cs : Array Value} {d : DataW H} {q : List MemPlace} (ht : Tryz.prog.underlying t = some (.array n e)) (he : Tryz.prog.underlying e = some (.int .u64)) (hce : Tryz.prog.cellsOf e = 1) (hct : Tryz.prog.cellsOf t = n) (hdd : d = Lib.tabData .u64 Lib.pow10Tab)
    (hd : DataW.trod enc Tryz.prog w base sp held m t cs.toList = some (d, q)) (hv : w.var? Tryz.prog "internal/strconv.uint64pow10" = some cs) : powF.p w := by
  subst hdd
  show Lib.TabIs _ _ _ _ _
  unfold Lib.TabIs
  rw [hv, ← Lib.cells_of_tab ht he hce hct hd]
theorem err_of {P : Program} {m g : Nat} {t : TypeId} {cs : Array Value} {s : String} {d : DataW H} {q : List MemPlace} (hi : isIf (P.underlying t) = true)
    (hd : DataW.trod enc P w base sp held m t cs.toList = some (.iface s d, q)) (hcell : ∀ j, w.cell? ⟨g, j, none⟩ = cs[j]?) : (errF g).p w := by
  obtain ⟨ms, hms⟩ : ∃ ms, P.underlying t = some (.interface ms) := by
    unfold isIf at hi
    split at hi
    · rename_i ms h; exact ⟨ms, h⟩
    · cases hi
  cases m with
  | zero => simp [DataW.trod] at hd
  | succ m =>
    have h0 : w.cell? ⟨g, 0, none⟩ = cs.toList[0]? := by rw [hcell 0, Array.getElem?_toList]
    generalize cs.toList = l at hd h0
    match l, hd, h0 with
    | [], hd, _ => simp [DataW.trod, hms] at hd
    | [v], hd, h0 =>
      have h1 : w.cell? ⟨g, 0, none⟩ = some v := h0
      cases v with
      | nilIface => exact ⟨_, h1, .inl rfl⟩
      | iface u x => exact ⟨_, h1, .inr ⟨u, x, rfl⟩⟩
      | _ => simp [DataW.trod, hms] at hd
    | a :: b :: r, hd, _ => simp [DataW.trod, hms] at hd
end
theorem pow_ok {w : World} (h : powF.p w) : RoOk w powF := ⟨rfl, h, fun k hk => (powF_mem h).flt powF (by simp) k hk⟩
theorem err_ok {w : World} {g : Nat} (h : (errF g).p w) : RoOk w (errF g) := by
  refine ⟨rfl, h, fun k hk => ?_⟩
  obtain ⟨ev, hm, _⟩ := h
  obtain rfl : k = g := hk
  unfold World.cell? at hm
  rcases Nat.lt_or_ge k w.heap.size with q | q
  · exact q
  · rw [Array.getElem?_eq_none q] at hm
    cases hm
end Go.Proofs.YteenjgfbbkdlhaaGreatDoor.Sx

namespace Go.Proofs.YteenjgfbbkdlhaaGreatDoor.Sx
open Go
theorem handed_shaped {H : Type} {enc : TypeId × Value → H} {a : Assume} {C : Checked} {os : Os} {f : FuncId} {fn : Func} {s : ChangeSpec} {conds : List PathCond} {apart fresh handsOn again : Bool} {X : World → Array Value → Prop}
    (hX : ∀ (w w' : World) (args : Array Value), w.heap = w'.heap → X w args → X w' args)
    (own : ownKnob C.prog.godebug = none) (started : os.Started) (noInit : C.prog.inits.idxOf? f = none) (hfn : C.prog.funcs[f]? = some fn)
    (witness : ∃ (w : World) (tape : Tape) (i : Input), w.os = os ∧ (w.forCall tape i).Shaped C.prog ∧ i.vars = [] ∧ Input.okWide C.prog (w.forCall tape i) .any w.heap.size f i ∧
      ((s.pre enc C.prog fn conds apart (w.forCall tape i).memory i.args ∧ X (w.forCall tape i).memory i.args) ∧ sizedMet enc C.prog fn (OpenSpec.ofChange s) apart (w.forCall tape i).memory i.args) ∧ a.holds C.prog (lone (Frame.enter C.prog f i.args .normal) [] (w.forCall tape i)))
    (key : ∀ (W : World) (base : Nat) (args : Array Value) (ds gs : List (DataW H)) (before : List MemPlace),
      (∀ (j : Nat) t v, fn.params[j]? = some t → args[j]? = some v → Value.okWide C.prog W .any base t v) →
      DataW.Whole enc C.prog fn.params.toList s.vars apart W args.toList ds gs before → X W args → W.ShapedOpen C.prog →
      Calls C.prog f args W fun e W' => ∃ v, e = .returned v ∧ s.post enc C.prog fn apart fresh handsOn again W args v W') :
    ReturnsInHanded a C os f .any (fun w args => (s.pre enc C.prog fn conds apart w args ∧ X w args) ∧ sizedMet enc C.prog fn (OpenSpec.ofChange s) apart w args) (s.post enc C.prog fn apart fresh handsOn again) := by
  refine returnsInHanded_of_calls own started noInit witness (fun w tape i _ hshape _ hin hp _ => ?_)
  obtain ⟨_, _, _, fn2, hfn2, _, _, _, _, hvals⟩ := hin
  obtain rfl : fn2 = fn := Option.some.inj (hfn2.symm.trans hfn)
  obtain ⟨⟨⟨ds, gs, before, hwh, _⟩, hx⟩, _⟩ := hp
  refine (key (w.forCall tape i) w.heap.size i.args ds gs before hvals (DataW.Whole.of_heap (w' := w.forCall tape i) (by rfl) hwh) (hX _ _ _ (by rfl) hx) hshape).mono fun e W' ⟨v, he, hq⟩ => ?_
  subst he
  exact ChangeSpec.post_blind hq
theorem ml_of {w : World} (h : w.ShapedOpen Tryz.prog) : mlF.p w :=
  cell_of_shapedOpen_int (P := Tryz.prog) (g := 1) (t := ty_int) (zero := #[.int .i64 0]) h (of_decide_eq_true (by kernel_rfl)) (by kernel_rfl) rfl (by kernel_rfl) (by kernel_rfl) (ok3.real (d := .int .i64) rfl rfl)
theorem ml_ok {w : World} (h : mlF.p w) : RoOk w mlF := by
  refine ⟨rfl, h, fun k hk => ?_⟩
  obtain ⟨m, hm⟩ := h
  obtain rfl : k = 1 := hk
  unfold World.cell? at hm
  rcases Nat.lt_or_ge 1 w.heap.size with q | q
  · exact q
  · simp [Array.getElem?_eq_none q] at hm
end Go.Proofs.YteenjgfbbkdlhaaGreatDoor.Sx

namespace Go.Proofs.YteenjgfbbkdlhaaGreatDoor.Sx
open Go Go.RowKit
theorem below_of {w w' : World} (h : Chg None_ w w') : Below w.heap.size w w' :=
  ⟨h.os, h.tape, h.output, h.size, fun k hk => h.same k hk (fun q => q)⟩
end Go.Proofs.YteenjgfbbkdlhaaGreatDoor.Sx

namespace Go.Proofs.YteenjgfbbkdlhaaGreatDoor.Sx
open Go
theorem rd_of_ints {H : Type} {enc : TypeId × Value → H} {P : Program} {W : World} {base : Nat} {sp : Nat → Bool} {held : Bool} {fuel g n : Nat} {t e : TypeId} {k : IntKind} {cs : Array Value} {zs : List Int} {q : List MemPlace}
    (ht : P.underlying t = some (.array n e)) (he : P.underlying e = some (.int k)) (hc : P.cellsOf e = 1) (hd : DataW.trod enc P W base sp held fuel t cs.toList = some (.agg (zs.map fun z => .lit (.int k z)), q)) (hcell : ∀ j, W.cell? ⟨g, j, none⟩ = cs[j]?) :
    Rd 1 (some ⟨g, 0, none⟩) zs.length (zs.map (Value.int k)) W := by
  obtain ⟨xs, m, _, hx, hlen, hn, hel⟩ := DataW.trod_array ht hd
  simp only [Prod.mk.injEq, DataW.agg.injEq] at hx
  have hzn : zs.length = n := by
    have h9 := congrArg List.length hx.1
    simp only [List.length_map] at h9
    omega
  refine ⟨by simp, fun hp => ⟨_, rfl, fun j u hu => ?_⟩⟩
  rw [List.getElem?_map] at hu
  obtain ⟨z, hz, rfl⟩ := Option.map_eq_some_iff.1 hu
  have hj : j < zs.length := (List.getElem?_eq_some_iff.1 hz).1
  have h1 := hel j (by omega)
  have h2 : (xs.map (·.1))[j]? = some (.lit (.int k z)) := by rw [← hx.1, List.getElem?_map, hz]; rfl
  rw [List.getElem?_map] at h2
  obtain ⟨x, hxj, hx1⟩ := Option.map_eq_some_iff.1 h2
  rw [hxj, hc, Nat.mul_one] at h1
  obtain ⟨y, e1, e2, _⟩ := DataW.trod_int he h1
  have hy : y = z := by
    rw [e2] at hx1
    simpa using hx1
  subst hy
  rw [add_none, Nat.zero_add, hcell j, ← Array.getElem?_toList]
  have h3 := congrArg (fun l => l[0]?) e1
  simpa [List.getElem?_drop] using h3
abbrev u32s (l : List UInt32) : List Int := l.map fun x => (x.toNat : Int)
theorem rd_u32 {g : Nat} {W : World} {l : List UInt32} (h : Rd 1 (some ⟨g, 0, none⟩) (u32s l).length ((u32s l).map (Value.int .u32)) W) : Rd 1 (some ⟨g, 0, none⟩) l.length (l.map u32) W := by
  have e : (u32s l).map (Value.int .u32) = l.map u32 := by rw [List.map_map]; rfl
  rw [e, List.length_map] at h
  exact h
end Go.Proofs.YteenjgfbbkdlhaaGreatDoor.Sx

namespace Go.Proofs.YteenjgfbbkdlhaaGreatDoor.Sx
open Go
mutual
def lits {H : Type} : DataW H → Option (List Value)
  | .lit (.int k n) => some [.int k n]
  | .lit (.bool b) => some [.bool b]
  | .lit (.string l) => some [.string ⟨l.toArray⟩]
  | .agg ps => litsL ps
  | _ => none
def litsL {H : Type} : List (DataW H) → Option (List Value)
  | [] => some []
  | d :: r => match lits d, litsL r with
    | some a, some b => some (a ++ b)
    | _, _ => none
end
def contig (P : Program) : List Field → Nat → Option Nat
  | [], o => some o
  | f :: r, o => if f.offset = o then contig P r (o + P.cellsOf f.type) else none
def flatB (P : Program) : Nat → TypeId → Bool
  | 0, _ => false
  | n + 1, t => match P.underlying t with
    | some (.int _) | some .bool | some .string => true
    | some (.struct fs) => (match contig P fs.toList 0 with | some e => Nat.beq e (P.cellsOf t) | none => false) && fs.toList.all fun f => flatB P n f.type
    | some (.array m e) => Nat.beq (m * P.cellsOf e) (P.cellsOf t) && flatB P n e
    | _ => false
section
variable {H : Type} {enc : TypeId × Value → H} {P : Program} {w : World} {base : Nat} {sp : Nat → Bool} {held : Bool}
theorem fields_cat (m : Nat) (cs : List Value) : ∀ (fs : List Field) (xs : List (DataW H × List MemPlace)) (o e : Nat), contig P fs o = some e → xs.length = fs.length →
    (∀ (i : Nat) (f : Field), fs[i]? = some f → DataW.trod enc P w base sp held m f.type ((cs.drop f.offset).take (P.cellsOf f.type)) = xs[i]?) →
    (∀ f ∈ fs, ∀ cs' x, DataW.trod enc P w base sp held m f.type cs' = some x → lits x.1 = some cs') → o ≤ e ∧ litsL (xs.map (·.1)) = some ((cs.drop o).take (e - o))
  | [], xs, o, e, hc, hl, _, _ => by
    obtain rfl := Option.some.inj hc
    obtain rfl := List.eq_nil_of_length_eq_zero hl
    exact ⟨Nat.le_refl _, by simp [litsL]⟩
  | f :: r, [], o, e, hc, hl, _, _ => by cases hl
  | f :: r, x :: xs, o, e, hc, hl, h, ih => by
    simp only [contig] at hc
    split at hc
    · rename_i ho
      have h0 := h 0 f rfl
      rw [ho] at h0
      have h1 := ih f List.mem_cons_self _ x h0
      obtain ⟨h2, h3⟩ := fields_cat m cs r xs _ e hc (by simpa using hl) (fun i g hg => by
        have := h (i + 1) g (by simpa using hg)
        simpa using this) (fun g hg => ih g (List.mem_cons_of_mem _ hg))
      refine ⟨by omega, ?_⟩
      simp only [List.map_cons, litsL, h1, h3]
      congr 1
      have e1 : e - o = P.cellsOf f.type + (e - (o + P.cellsOf f.type)) := by omega
      rw [e1, List.take_add, List.drop_drop]
    · cases hc
theorem elems_cat (m k : Nat) (ty : TypeId) (cs : List Value) (hk : P.cellsOf ty = k) : ∀ (n : Nat) (xs : List (DataW H × List MemPlace)) (o : Nat), xs.length = n →
    (∀ i, i < n → DataW.trod enc P w base sp held m ty ((cs.drop (o + i * k)).take k) = xs[i]?) →
    (∀ cs' x, DataW.trod enc P w base sp held m ty cs' = some x → lits x.1 = some cs') → litsL (xs.map (·.1)) = some ((cs.drop o).take (n * k))
  | 0, xs, o, hl, _, _ => by
    obtain rfl := List.eq_nil_of_length_eq_zero hl
    simp [litsL]
  | n + 1, [], o, hl, _, _ => by cases hl
  | n + 1, x :: xs, o, hl, h, ih => by
    have h0 := h 0 (Nat.succ_pos _)
    rw [Nat.zero_mul, Nat.add_zero] at h0
    have h1 := ih _ x h0
    have h3 := elems_cat m k ty cs hk n xs (o + k) (by simpa using hl) (fun i hi => by
      have := h (i + 1) (by omega)
      rw [Nat.succ_mul, Nat.add_comm (i * k) k, ← Nat.add_assoc] at this
      simpa using this) ih
    simp only [List.map_cons, litsL, h1, h3]
    congr 1
    rw [Nat.succ_mul, Nat.add_comm (n * k) k, List.take_add, List.drop_drop]
theorem cells_of : ∀ (k m : Nat) (t : TypeId) (cs : List Value) (x : DataW H × List MemPlace), flatB P k t = true → DataW.trod enc P w base sp held m t cs = some x → lits x.1 = some cs
  | 0, _, _, _, _, h, _ => by cases h
  | k + 1, m, t, cs, x, h, hd => by
    unfold flatB at h
    split at h
    · rename_i ht
      obtain ⟨n, rfl, rfl, _⟩ := DataW.trod_int ht hd
      rfl
    · rename_i ht
      obtain ⟨n, rfl, rfl⟩ := DataW.trod_bool ht hd
      rfl
    · rename_i ht
      obtain ⟨s, rfl, rfl, _⟩ := DataW.trod_string ht hd
      cases s with | mk a => simp [lits, ByteArray.toList_eq]
    · rename_i fs ht
      obtain ⟨xs, n, rfl, rfl, hl, hxl, hel⟩ := DataW.trod_struct ht hd
      simp only [Bool.and_eq_true] at h
      obtain ⟨hcon, hall⟩ := h
      cases hc : contig P fs.toList 0 with
      | none => rw [hc] at hcon; cases hcon
      | some e =>
        rw [hc] at hcon
        have he := Nat.eq_of_beq_eq_true hcon
        subst he
        have := (fields_cat n cs fs.toList xs 0 _ hc (by simpa using hxl) (fun i f hf => hel i f (by simpa using hf)) (fun f hf cs' x' hx => cells_of k n f.type cs' x' (List.all_eq_true.1 hall f hf) hx)).2
        simp only [lits, this, List.drop_zero, Nat.sub_zero]
        rw [← hl, List.take_length]
    · rename_i n e ht
      obtain ⟨xs, m', rfl, rfl, hl, hxl, hel⟩ := DataW.trod_array ht hd
      simp only [Bool.and_eq_true] at h
      have he := Nat.eq_of_beq_eq_true h.1
      have := elems_cat m' (P.cellsOf e) e cs rfl n xs 0 hxl (fun i hi => by rw [Nat.zero_add]; exact hel i hi) (fun cs' x' hx => cells_of k m' e cs' x' h.2 hx)
      simp only [lits, this, List.drop_zero, he]
      rw [← hl, List.take_length]
    · cases h
theorem rd_of_laid {g n size m : Nat} {t : TypeId} {cs : Array Value} {d : DataW H} {q : List MemPlace} {vs : List Value} (hf : flatB P 5 t = true) (hv : lits d = some vs) (hn : vs.length = n * size)
    (hd : DataW.trod enc P w base sp held m t cs.toList = some (d, q)) (hcell : ∀ j, w.cell? ⟨g, j, none⟩ = cs[j]?) : Rd size (some ⟨g, 0, none⟩) n vs w := by
  have h := cells_of 5 m t _ _ hf hd
  rw [hv] at h
  have h' := Option.some.inj h
  refine ⟨hn, fun _ => ⟨_, rfl, fun j u hu => ?_⟩⟩
  rw [add_none, Nat.zero_add, hcell j, ← Array.getElem?_toList, ← h']
  exact hu
end
end Go.Proofs.YteenjgfbbkdlhaaGreatDoor.Sx
