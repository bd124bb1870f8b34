/- Texts joined: BoxL, Bk1, Hex, Sha1, Sha2, Sha3, Sha4, Sha5, Sha6, Sha7, Sha8, Sha9, Pd0, Pd4, Pd5, Nam1, Nam2, Nam3, Nam4, Nam5, Nam6, Nam7, Nam8, Nam9, NamP, NmT, TabR, Tabs, Mk1, Tk1, SxTri, SxTriL, SxGo, B6L, RnP, Rn1, Rn2, Rn3, Rn4, B6V, B6G, B6D, B6W, Tk4, Tk5, StepG. -/
import Derived.Test.YtlhcgofdfhfegaaGreatDoorMTicketForged2
set_option linter.unusedVariables false
set_option linter.unusedSimpArgs false
namespace Go.Proofs.YtlhcgofdfhfegaaGreatDoor.Bx
structure Term where
  kind : Nat
  key : List UInt8
  text : List UInt8
  rounds : Nat
  list : List Nat
  mask : List UInt8
def vint (n : Nat) : List UInt8 := if h : n < 128 then [UInt8.ofNat n] else UInt8.ofNat (n % 128 + 128) :: vint (n / 128)
termination_by n
decreasing_by omega
theorem vint_lt {n : Nat} (h : n < 128) : vint n = [UInt8.ofNat n] := by rw [vint, dif_pos h]
theorem vint_ge {n : Nat} (h : ¬ n < 128) : vint n = UInt8.ofNat (n % 128 + 128) :: vint (n / 128) := by rw [vint, dif_neg h]
theorem u8_inj {a b : Nat} (ha : a < 256) (hb : b < 256) (h : UInt8.ofNat a = UInt8.ofNat b) : a = b := by
  have := congrArg UInt8.toNat h
  simp only [UInt8.toNat_ofNat'] at this
  omega
theorem vint_inj : ∀ (a b : Nat) (x y : List UInt8), vint a ++ x = vint b ++ y → a = b ∧ x = y := by
  intro a
  induction a using Nat.strongRecOn with
  | _ a ih =>
    intro b x y h
    by_cases ha : a < 128
    · by_cases hb : b < 128
      · rw [vint_lt ha, vint_lt hb] at h
        simp only [List.cons_append, List.nil_append, List.cons.injEq] at h
        exact ⟨u8_inj (by omega) (by omega) h.1, h.2⟩
      · rw [vint_lt ha, vint_ge hb] at h
        simp only [List.cons_append, List.nil_append, List.cons.injEq] at h
        have := u8_inj (by omega) (by omega) h.1
        omega
    · by_cases hb : b < 128
      · rw [vint_ge ha, vint_lt hb] at h
        simp only [List.cons_append, List.nil_append, List.cons.injEq] at h
        have := u8_inj (by omega) (by omega) h.1
        omega
      · rw [vint_ge ha, vint_ge hb] at h
        simp only [List.cons_append, List.cons.injEq] at h
        have h1 := u8_inj (by omega) (by omega) h.1
        obtain ⟨h2, h3⟩ := ih (a / 128) (by omega) (b / 128) x y h.2
        exact ⟨by omega, h3⟩
theorem vints_inj : ∀ (l m : List Nat) (x y : List UInt8), l.length = m.length → l.flatMap vint ++ x = m.flatMap vint ++ y → l = m ∧ x = y
  | [], [], x, y, _, h => ⟨rfl, h⟩
  | [], _ :: _, _, _, hl, _ => by cases hl
  | _ :: _, [], _, _, hl, _ => by cases hl
  | a :: l, b :: m, x, y, hl, h => by
    simp only [List.flatMap_cons, List.append_assoc] at h
    obtain ⟨rfl, h2⟩ := vint_inj a b _ _ h
    obtain ⟨rfl, h3⟩ := vints_inj l m x y (by simpa using hl) h2
    exact ⟨rfl, h3⟩
def print (t : Term) : List UInt8 := [t.kind, t.rounds, t.key.length, t.text.length, t.list.length].flatMap vint ++ t.list.flatMap vint ++ (t.key ++ t.text ++ t.mask)
theorem print_inj {s t : Term} (h : print s = print t) : s = t := by
  obtain ⟨k, a, b, r, l, m⟩ := s
  obtain ⟨k', a', b', r', l', m'⟩ := t
  simp only [print, List.append_assoc] at h
  obtain ⟨h1, h2⟩ := vints_inj [k, r, a.length, b.length, l.length] [k', r', a'.length, b'.length, l'.length] _ _ rfl h
  simp only [List.cons.injEq, and_true] at h1
  obtain ⟨rfl, rfl, h3, h4, h5⟩ := h1
  obtain ⟨rfl, h6⟩ := vints_inj l l' _ _ h5 h2
  obtain ⟨rfl, h7⟩ := List.append_inj h6 h3
  obtain ⟨rfl, rfl⟩ := List.append_inj h7 h4
  rfl
def front : List UInt8 := [0xf1, 84, 82, 77] ++ List.replicate 24 0
theorem front_len : front.length = 28 := rfl
def be4 (n : Nat) : List UInt8 := [UInt8.ofNat (n / 16777216), UInt8.ofNat (n / 65536), UInt8.ofNat (n / 256), UInt8.ofNat n]
def handle (n : Nat) : List UInt8 := front ++ be4 n
theorem handle_len (n : Nat) : (handle n).length = 32 := rfl
def num : List UInt8 → Nat := List.foldl (fun n b => n * 256 + b.toNat) 0
def looks (p : List UInt8) : Option Nat := if p.length = 32 ∧ p.take 28 = front then some (num (p.drop 28)) else none
theorem num_be4 {n : Nat} (h : n < 4294967296) : num (be4 n) = n := by
  simp only [num, be4, List.foldl, UInt8.toNat_ofNat']
  omega
theorem looks_handle {n : Nat} (h : n < 4294967296) : looks (handle n) = some n := by
  have h1 : (handle n).take 28 = front := List.take_left' front_len
  have h2 : (handle n).drop 28 = be4 n := List.drop_left' front_len
  rw [looks, if_pos ⟨handle_len n, h1⟩, h2, num_be4 h]
theorem handle_inj {m n : Nat} (hm : m < 4294967296) (hn : n < 4294967296) (h : handle m = handle n) : m = n := by
  have := looks_handle hm
  rw [h, looks_handle hn] at this
  exact (Option.some.inj this).symm
open Classical in
noncomputable def place (t : Term) : List Term → Option Nat
  | [] => none
  | x :: r => if x = t then some 0 else (place t r).map (· + 1)
theorem place_some {t : Term} : ∀ {L : List Term} {i : Nat}, place t L = some i → L[i]? = some t
  | x :: r, i, h => by
    simp only [place] at h
    split at h
    · rename_i q; obtain rfl := Option.some.inj h; simp [q]
    · obtain ⟨j, hj, rfl⟩ := Option.map_eq_some_iff.1 h
      simpa using place_some hj
theorem place_none {t : Term} : ∀ {L : List Term}, place t L = none → t ∉ L
  | [], _ => List.not_mem_nil
  | x :: r, h => by
    simp only [place] at h
    split at h
    · cases h
    · rename_i q
      have h' : place t r = none := by simpa using h
      intro hm
      rcases List.mem_cons.1 hm with rfl | hm
      · exact q rfl
      · exact place_none h' hm
structure Box where
  sym : Bool
  full : Bool
  L : List Term
def noughts : List UInt8 := List.replicate 32 0
open Classical in
noncomputable def Box.tag (b : Box) (t : Term) : List UInt8 × Box := match place t b.L with
  | some i => (handle (i + 1), b)
  | none => if 4096 ≤ b.L.length then (noughts, { b with full := true }) else (handle (b.L.length + 1), { b with L := b.L ++ [t] })
def xorB (a b : List UInt8) : List UInt8 := List.zipWith (· ^^^ ·) a b
def Box.opens (b : Box) (tag : List UInt8) : Option (List Nat × List UInt8) :=
  if tag.length = 32 then
    if b.sym = true ∧ tag.take 28 = front then
      if num (tag.drop 28) < 1 ∨ b.L.length < num (tag.drop 28) then none
      else match b.L[num (tag.drop 28) - 1]? with
        | some t => if t.kind = 4 then some (t.list, t.mask) else some ([num (tag.drop 28)], noughts)
        | none => none
    else some ([], tag)
  else none
theorem opens_raw {b : Box} {tag : List UInt8} (h : tag.length = 32) (hn : ¬ (b.sym = true ∧ tag.take 28 = front)) : b.opens tag = some ([], tag) := by unfold Box.opens; rw [if_pos h, if_neg hn]
theorem opens_in {b : Box} {tag : List UInt8} {n : Nat} {t : Term} (h : tag.length = 32) (hs : b.sym = true) (hf : tag.take 28 = front) (hn : num (tag.drop 28) = n) (ho : ¬ (n < 1 ∨ b.L.length < n)) (ht : b.L[n - 1]? = some t) :
    b.opens tag = if t.kind = 4 then some (t.list, t.mask) else some ([n], noughts) := by
  subst hn; unfold Box.opens; rw [if_pos h, if_pos ⟨hs, hf⟩, if_neg ho, ht]
end Go.Proofs.YtlhcgofdfhfegaaGreatDoor.Bx

namespace Go.Proofs.YtlhcgofdfhfegaaGreatDoor.Sx
open Go
attribute [local irreducible] Calls
theorem mark_c (w : World) : Con Tryz.prog n_box_mark #[] w [] fun v Fs => ∃ b, v = .slice (some ⟨b, 0, none⟩) 28 28 ∧ Fs = [browF ty_uint8 (some ⟨b, 0, none⟩) Bx.front 28] := by
  have g := good_box_mark w (Un [])
  refine con_of_sx (cx := cx_box_mark w (Un [])) g b_box_mark rfl rfl (β := Va.z) [] 0 [] [] rfl rfl (Sat.start rfl) ?_
  refine ⟨28, 28, rfl, rfl, Nat.le_refl _, by decide, by decide, ?_⟩
  intro b
  intro b2
  refine ⟨_, _, .c (.v (.int .i64 4)), fun β w' ty hs => hs.copyRow g 1 rfl (row_rd (hs.get 0 rfl)) (bytes_one [241, 84, 82, 77]) ty _ rfl, trivial, ?_⟩
  intro β w' hs
  exact hs.fin [1] ⟨b, rfl, rfl⟩
theorem wrap_u8b (x : Nat) : IntKind.u8.wrap (x : Int) = ((UInt8.ofNat x).toNat : Int) := by
  rw [wrap_u8, UInt8.toNat_ofNat']
  omega
theorem shr_nat (n k : Nat) : (n : Int).fdiv (2 ^ k) = ((n / 2 ^ k : Nat) : Int) := by
  have : (2 ^ k : Int) = ((2 ^ k : Nat) : Int) := by push_cast; rfl
  rw [this, Int.fdiv_eq_ediv_of_nonneg _ (Int.natCast_nonneg _)]
  exact (Int.natCast_ediv _ _).symm
theorem handle_c (w : World) (n : Nat) : Con Tryz.prog n_box_Handle #[.int .i64 n] w [] fun v Fs => ∃ A c, v = .slice A 32 c ∧ 32 ≤ c ∧ c ≤ maxLen ∧ Fs = [browF ty_uint8 A (Bx.handle n) c] := by
  have g := good_box_Handle w (Un [])
  refine con_of_sx (cx := cx_box_Handle w (Un [])) g b_box_Handle rfl rfl (β := Va.z) [.c (.v (.int .i64 n))] 0 [] [] rfl rfl (Sat.start rfl) ?_
  refine call_con [] (fun β w' hs => mark_c w') ?_
  rintro v Fs ⟨b, rfl, rfl⟩
  refine ⟨by decide, _, shr_nat n 24, _, wrap_u8b _, by decide, _, shr_nat n 16, _, wrap_u8b _, by decide, _, shr_nat n 8, _, wrap_u8b _, _, wrap_u8b _, ?_⟩
  intro b2
  refine ⟨1, 28, 32, _, (Bx.be4 n).map byte, (Bx.handle n).map byte, rfl, fun β w' hs => row_rd (hs.get 0 rfl), bytes_one (Bx.be4 n), rfl, by rw [Bx.handle, List.map_append], by decide, by decide, ?_⟩
  intro A c h1 h2 h3
  intro β w' hs
  exact hs.fin [1] ⟨A, c, rfl, h1, h2, rfl⟩
end Go.Proofs.YtlhcgofdfhfegaaGreatDoor.Sx

namespace Go.Proofs.YtlhcgofdfhfegaaGreatDoor.Sx
open Go Sha
attribute [local irreducible] Calls
theorem rotl_c (w : World) (x : UInt32) (n : Nat) (h1 : 1 ≤ n) (h2 : n < 32) : Pu Tryz.prog n_math_bits_RotateLeft32 #[u32 x, .int .i64 (-(n : Int))] w (u32 (rotr x n)) := by
  refine pu_of (calls_of_sx (cx := cx_math_bits_RotateLeft32 w None_) (good_math_bits_RotateLeft32 w None_) b_math_bits_RotateLeft32 rfl rfl (β := Va.z) [.c (.v (u32 x)), .c (.v (.int .i64 (-(n : Int))))] 0 [] [] rfl rfl (Sat.start rfl) ?_)
  refine ⟨_, rfl, ?_⟩
  refine ⟨((32 - n : Nat) : Int), ?_, ?_⟩
  · have : ∀ n : _root_.Fin 32, 1 ≤ n.val → bits .and .u64 (IntKind.u64.wrap (-(n.val : Int))) 31 = ((32 - n.val : Nat) : Int) := by decide
    exact this ⟨n, h2⟩ h1
  refine ⟨by omega, _, shl32 x (32 - n) (by omega), ?_⟩
  refine ⟨(n : Int), by show IntKind.u64.wrap _ = _; simp only [IntKind.wrap, IntKind.bits, IntKind.signed]; simp; omega, ?_⟩
  refine ⟨by omega, _, shr32 x n h2, ?_⟩
  refine ⟨_, or32 _ _, ?_⟩
  intro β w' hs
  refine ⟨?_, hs.chg⟩
  rw [← rotl_eq]
  rfl
theorem or_add {x y k : Nat} (h : y < 2 ^ k) : 2 ^ k * x ||| y = 2 ^ k * x + y := (Nat.two_pow_add_eq_or_of_lt h x).symm
theorem word_or (a b c d : UInt8) : ((UInt32.ofNat a.toNat <<< UInt32.ofNat 24 ||| UInt32.ofNat b.toNat <<< UInt32.ofNat 16) ||| UInt32.ofNat c.toNat <<< UInt32.ofNat 8) ||| UInt32.ofNat d.toNat = word a b c d := by
  apply UInt32.toNat_inj.1
  have h1 := a.toNat_lt
  have h2 := b.toNat_lt
  have h3 := c.toNat_lt
  have h4 := d.toNat_lt
  have sh : ∀ (x : UInt8) (n : Nat), n ≤ 24 → (UInt32.ofNat x.toNat <<< UInt32.ofNat n).toNat = 2 ^ n * x.toNat := by
    intro x n hn
    have hx := x.toNat_lt
    rw [UInt32.toNat_shiftLeft, UInt32.toNat_ofNat', UInt32.toNat_ofNat', Nat.mod_eq_of_lt (show n < 2 ^ 32 by omega), Nat.mod_eq_of_lt (show n < 32 by omega), Nat.shiftLeft_eq, Nat.mod_eq_of_lt (show x.toNat < 2 ^ 32 by omega), Nat.mul_comm]
    refine Nat.mod_eq_of_lt ?_
    have : 2 ^ n ≤ 2 ^ 24 := Nat.pow_le_pow_right (by omega) hn
    calc 2 ^ n * x.toNat ≤ 2 ^ 24 * x.toNat := Nat.mul_le_mul_right _ this
      _ < 2 ^ 32 := by omega
  unfold word
  simp only [UInt32.toNat_or, sh a 24 (by omega), sh b 16 (by omega), sh c 8 (by omega), UInt32.toNat_ofNat']
  rw [Nat.mod_eq_of_lt (show d.toNat < 2 ^ 32 by omega)]
  rw [or_add (show 2 ^ 16 * b.toNat < 2 ^ 24 by omega)]
  rw [show 2 ^ 24 * a.toNat + 2 ^ 16 * b.toNat = 2 ^ 16 * (256 * a.toNat + b.toNat) by omega, or_add (show 2 ^ 8 * c.toNat < 2 ^ 16 by omega)]
  rw [show 2 ^ 16 * (256 * a.toNat + b.toNat) + 2 ^ 8 * c.toNat = 2 ^ 8 * (256 * (256 * a.toNat + b.toNat) + c.toNat) by omega, or_add (show d.toNat < 2 ^ 8 by omega)]
  omega
theorem word_c (w : World) (A : Option Addr) (l : List UInt8) (c : Nat) (hr : Bs w A l) (x y z u : UInt8) (h0 : l[0]? = some x) (h1 : l[1]? = some y) (h2 : l[2]? = some z) (h3 : l[3]? = some u) :
    Pu Tryz.prog n_sha_word #[.slice A l.length c] w (u32 (word x y z u)) := by
  obtain ⟨k0, e0⟩ := List.getElem?_eq_some_iff.1 h0
  obtain ⟨k1, e1⟩ := List.getElem?_eq_some_iff.1 h1
  obtain ⟨k2, e2⟩ := List.getElem?_eq_some_iff.1 h2
  obtain ⟨k3, e3⟩ := List.getElem?_eq_some_iff.1 h3
  have g := good_sha_word w None_
  obtain ⟨ad, hA⟩ := Bs.addr hr (by omega)
  have cv : ∀ b : UInt8, IntKind.u32.wrap (b.toNat : Int) = ((UInt32.ofNat b.toNat).toNat : Int) := fun b => wrap32_nat _
  refine pu_of (calls_of_sx (cx := cx_sha_word w None_) g b_sha_word rfl rfl (β := Va.z) [.c (.v (.slice A l.length c))] 0 [] [bsF A l] rfl rfl ((Sat.start rfl).rd (fun _ h => by cases h) hr) ?_)
  refine draw_rule g p_sha_word_1 (by kernel_rfl) _ _ Sub.refl ?_
  refine ⟨ad, 0, hA, rfl, k0, byte x, fun β w hs => by rw [← e0]; exact Bs.cell (hs.get 0 rfl : Bs w A _) hA (j := 0) k0, ?_⟩
  refine ⟨_, cv x, by omega, _, shl32 (UInt32.ofNat x.toNat) 24 (by omega), ?_⟩
  refine ⟨ad, 1, hA, rfl, k1, byte y, fun β w hs => by rw [← e1]; exact Bs.cell (hs.get 0 rfl : Bs w A _) hA (j := 1) k1, ?_⟩
  refine ⟨_, cv y, by omega, _, shl32 (UInt32.ofNat y.toNat) 16 (by omega), ?_⟩
  refine ⟨_, or32 _ _, ?_⟩
  refine ⟨ad, 2, hA, rfl, k2, byte z, fun β w hs => by rw [← e2]; exact Bs.cell (hs.get 0 rfl : Bs w A _) hA (j := 2) k2, ?_⟩
  refine ⟨_, cv z, by omega, _, shl32 (UInt32.ofNat z.toNat) 8 (by omega), ?_⟩
  refine ⟨_, or32 _ _, ?_⟩
  refine ⟨ad, 3, hA, rfl, k3, byte u, fun β w hs => by rw [← e3]; exact Bs.cell (hs.get 0 rfl : Bs w A _) hA (j := 3) k3, ?_⟩
  refine ⟨_, cv u, _, or32 _ _, ?_⟩
  intro β w' hs
  refine ⟨?_, hs.chg⟩
  rw [← word_or]
  rfl
def sl32 (x : UInt32) : SL := .v (u32 x)
def arr (n : Nat) (ws : List UInt32) : List SL := (ws ++ List.replicate (n - ws.length) 0).map sl32
theorem arr_len {n : Nat} {ws : List UInt32} (h : ws.length ≤ n) : (arr n ws).length = n := by simp [arr]; omega
theorem arr_get {n : Nat} {ws : List UInt32} {i : Nat} (h : i < ws.length) : (arr n ws)[i]? = some (sl32 (ws.getD i 0)) := by
  simp only [arr, List.getElem?_map]
  rw [List.getElem?_append_left h, List.getElem?_eq_getElem h]
  simp [List.getD, List.getElem?_eq_getElem h]
theorem arr_set {n : Nat} {ws : List UInt32} (h : ws.length < n) (x : UInt32) : (arr n ws).set ws.length (sl32 x) = arr n (ws ++ [x]) := by
  obtain ⟨k, rfl⟩ : ∃ k, n = ws.length + (k + 1) := ⟨n - ws.length - 1, by omega⟩
  simp only [arr, List.length_append, List.length_cons, List.length_nil]
  rw [show ws.length + (k + 1) - ws.length = k + 1 by omega, show ws.length + (k + 1) - (ws.length + (0 + 1)) = k by omega, List.replicate_succ]
  simp
theorem arr_full {n : Nat} {ws : List UInt32} (h : ws.length = n) : arr n ws = ws.map sl32 := by simp [arr, h]
theorem arr_one (ws : List UInt32) : allOne (ws.map sl32) = true := allOne_of fun x hx => by obtain ⟨y, _, rfl⟩ := List.mem_map.1 hx; rfl
theorem arr_val (β : Va) (ws : List UInt32) : (ws.map sl32).map (SL.val β) = ws.map u32 := by rw [List.map_map]; rfl
theorem getD_drop (l : List UInt8) (i j : Nat) (h : i + j < l.length) : (l.drop i)[j]? = some (l.getD (i + j) 0) := by
  rw [List.getElem?_drop, List.getElem?_eq_getElem h]
  simp [List.getD, List.getElem?_eq_getElem h]
theorem spread_c (w : World) (A : Option Addr) (l : List UInt8) (c : Nat) (hr : Bs w A l) (hc : l.length ≤ c) (hl : 64 ≤ l.length) (hm : c ≤ maxLen) :
    Pu Tryz.prog n_sha_spread #[.slice A l.length c] w (.agg ((W l).map u32).toArray) := by
  obtain ⟨ws, hws⟩ : ∃ ws, W l = ws := ⟨_, rfl⟩
  have hwl : ws.length = 64 := by rw [← hws]; exact W_len l
  rw [hws]
  have g := good_sha_spread w None_
  refine pu_of (calls_of_sx (cx := cx_sha_spread w None_) g b_sha_spread rfl rfl (β := Va.z) [.c (.v (.slice A l.length c))] 0 [] [bsF A l] rfl rfl ((Sat.start rfl).rd (fun _ h => by cases h) hr) ?_)
  have e0 : arr 64 [] = ti259.zero.map SL.v := by simp only [arr, List.nil_append, List.length_nil, List.map_replicate]; rfl
  refine loop_rule (ι := Nat) 2 (fun i => [(0, .c (.v (.slice A l.length c))), (2, .c (.p 0 0)), (3, .c (.p 1 0)), (10, .c (.v (.int .i64 i)))]) (fun i => [⟨1, 259, arr 64 (sched l i)⟩, ⟨0, 259, arr 64 []⟩]) (fun _ => [bsF A l])
    (fun i => i ≤ 16) (fun i => 16 - i) 0 (Nat.zero_le _) (Ent.mk' ⟨rfl, rfl, rfl, rfl, trivial⟩ rfl (fun β w' hs => by rw [show sched l 0 = [] from rfl, e0]; exact hs)) g ?_
  intro i hi
  refine BIf.dec (fun hlt => ?_) (fun hge => ?_)
  · have hlt : i < 16 := by omega
    rw [maxLen_eq] at hm
    refine ⟨((4 * i : Nat) : Int), by rw [wrap_i64 (by omega) (by omega)]; omega, ?_⟩
    refine ⟨c, l.length, 4 * i, (l.drop (4 * i)).length, c - 4 * i, _, rfl, rfl, rfl, Nat.le_refl _, hc, by omega, by rw [List.length_drop], rfl, rfl, ?_⟩
    refine call_pu (fun β w' hs => word_c w' _ (l.drop (4 * i)) _ (Bs.cutB (hs.get 0 rfl : Bs w' A l) (j := l.length) hc (by omega) (Nat.le_refl _) (by rw [List.take_of_length_le (by simp)])) _ _ _ _
      (getD_drop l (4 * i) 0 (by omega)) (getD_drop l (4 * i) 1 (by omega)) (getD_drop l (4 * i) 2 (by omega)) (getD_drop l (4 * i) 3 (by omega))) ?_
    refine ⟨i, rfl, by omega, ?_⟩
    have hsl : (sched l i).length = i := sched_len l i
    refine m_true (b := Nat.ble (0 + i * 1 + 1) (arr 64 (sched l i)).length) (by rw [arr_len (by omega), Nat.ble_eq]; omega) ?_
    refine ⟨((i + 1 : Nat) : Int), by rw [wrap_i64 (by omega) (by omega)]; rfl, ?_⟩
    refine ⟨i + 1, by omega, by omega, Ent.mk' ⟨rfl, rfl, rfl, rfl, trivial⟩ rfl (fun β w' hs => ?_)⟩
    have e1 : putAll (arr 64 (sched l i)) (0 + i * 1) [sl32 (wordAt l i)] = arr 64 (sched l (i + 1)) := by
      rw [putAll, putAll, putAt_eq, Nat.zero_add, Nat.mul_one]
      have := arr_set (n := 64) (ws := sched l i) (by omega) (wordAt l i)
      rw [hsl] at this
      rw [this, sched, if_pos hlt]
    rw [← e1]
    exact hs
  · obtain rfl : i = 16 := by omega
    rw [maxLen_eq] at hm
    refine loop_rule (ι := Nat) 2 (fun i => [(0, .c (.v (.slice A l.length c))), (2, .c (.p 0 0)), (3, .c (.p 1 0)), (5, .c (.v (.int .i64 i)))]) (fun i => [⟨1, 259, arr 64 (sched l i)⟩, ⟨0, 259, arr 64 []⟩]) (fun _ => [bsF A l])
      (fun i => 16 ≤ i ∧ i ≤ 64) (fun i => 64 - i) 16 ⟨by omega, by omega⟩ (Ent.same ⟨rfl, rfl, rfl, rfl, trivial⟩ rfl) g ?_
    rintro i ⟨hi1, hi2⟩
    refine BIf.dec (fun hlt => ?_) (fun hge => ?_)
    · have hlt : i < 64 := by omega
      have hsl : (sched l i).length = i := sched_len l i
      have ld : ∀ {k : Nat}, k < i → nth (arr 64 (sched l i)) (0 + k * 1) = some (sl32 ((sched l i).getD k 0)) := fun {k} hk => by
        rw [nth_eq, Nat.zero_add, Nat.mul_one]; exact arr_get (by omega)
      refine draw_rule g p_sha_spread_10 (by kernel_rfl) _ _ Sub.refl ?_
      refine ⟨((i - 15 : Nat) : Int), by rw [wrap_i64 (by omega) (by omega)]; omega, i - 15, rfl, by omega, ?_⟩
      conv => whnf
      generalize hn : nth _ _ = o
      obtain rfl : o = some (sl32 ((sched l i).getD (i - 15) 0)) := hn.symm.trans (ld (by omega))
      clear hn
      refine ⟨((i - 2 : Nat) : Int), by rw [wrap_i64 (by omega) (by omega)]; omega, i - 2, rfl, by omega, ?_⟩
      conv => whnf
      generalize hn : nth _ _ = o
      obtain rfl : o = some (sl32 ((sched l i).getD (i - 2) 0)) := hn.symm.trans (ld (by omega))
      clear hn
      obtain ⟨xa, hxa⟩ : ∃ xa, (sched l i).getD (i - 15) 0 = xa := ⟨_, rfl⟩
      obtain ⟨xb, hxb⟩ : ∃ xb, (sched l i).getD (i - 2) 0 = xb := ⟨_, rfl⟩
      rw [hxa, hxb]
      refine call_pu (fun β w' hs => rotl_c w' xa 7 (by omega) (by omega)) ?_
      refine call_pu (fun β w' hs => rotl_c w' xa 18 (by omega) (by omega)) ?_
      refine ⟨_, xor32 _ _, by omega, _, shr32 xa 3 (by omega), _, xor32 _ _, ?_⟩
      refine call_pu (fun β w' hs => rotl_c w' xb 17 (by omega) (by omega)) ?_
      refine call_pu (fun β w' hs => rotl_c w' xb 19 (by omega) (by omega)) ?_
      refine ⟨_, xor32 _ _, by omega, _, shr32 xb 10 (by omega), _, xor32 _ _, ?_⟩
      refine draw_rule g p_sha_spread_13 (by kernel_rfl) _ _ Sub.refl ?_
      refine ⟨((i - 16 : Nat) : Int), by rw [wrap_i64 (by omega) (by omega)]; omega, i - 16, rfl, by omega, ?_⟩
      conv => whnf
      generalize hn : nth _ _ = o
      obtain rfl : o = some (sl32 ((sched l i).getD (i - 16) 0)) := hn.symm.trans (ld (by omega))
      clear hn
      refine ⟨_, add32 _ _, ?_⟩
      refine ⟨((i - 7 : Nat) : Int), by rw [wrap_i64 (by omega) (by omega)]; omega, i - 7, rfl, by omega, ?_⟩
      conv => whnf
      generalize hn : nth _ _ = o
      obtain rfl : o = some (sl32 ((sched l i).getD (i - 7) 0)) := hn.symm.trans (ld (by omega))
      clear hn
      refine ⟨_, add32 _ _, _, add32 _ _, i, rfl, by omega, ?_⟩
      refine m_true (b := Nat.ble (0 + i * 1 + 1) (arr 64 (sched l i)).length) (by rw [arr_len (by omega), Nat.ble_eq]; omega) ?_
      refine ⟨((i + 1 : Nat) : Int), by rw [wrap_i64 (by omega) (by omega)]; rfl, ?_⟩
      refine ⟨i + 1, ⟨by omega, by omega⟩, by omega, Ent.mk' ⟨rfl, rfl, rfl, rfl, trivial⟩ rfl (fun β w' hs => ?_)⟩
      have e1 : putAll (arr 64 (sched l i)) (0 + i * 1) [sl32 ((sched l i).getD (i - 16) 0 + s0 xa + (sched l i).getD (i - 7) 0 + s1 xb)] = arr 64 (sched l (i + 1)) := by
        rw [putAll, putAll, putAt_eq, Nat.zero_add, Nat.mul_one]
        have := arr_set (n := 64) (ws := sched l i) (by omega) ((sched l i).getD (i - 16) 0 + s0 xa + (sched l i).getD (i - 7) 0 + s1 xb)
        rw [hsl] at this
        rw [this, sched, if_neg (by omega), nxt, hxa, hxb]
      rw [← e1]
      exact hs
    · have hi64 : i = 64 := by omega
      have e2 : arr 64 (sched l i) = ws.map sl32 := by
        rw [← hws, hi64]
        exact arr_full (sched_len l 64)
      clear hi64 hi1 hi2 hge
      rw [e2]
      conv => whnf
      generalize hn : takeAt _ _ _ = o
      obtain rfl : o = some (ws.map sl32) := hn.symm.trans (takeAt_all (by rw [List.length_map, hwl]; rfl))
      clear hn
      conv => whnf
      generalize h1 : Nat.beq _ _ = b1
      generalize h2 : allOne _ = b2
      obtain rfl : b1 = true := h1.symm.trans (by rw [List.length_map, hwl]; rfl)
      obtain rfl : b2 = true := h2.symm.trans (arr_one ws)
      clear h1 h2
      conv => whnf
      generalize h1 : Nat.ble _ _ = b1
      obtain rfl : b1 = true := h1.symm.trans (by rw [List.length_map, hwl]; rfl)
      clear h1
      conv => whnf
      generalize hn : resOf _ _ _ _ = o
      obtain rfl : o = some [.agg (ws.map sl32)] := hn.symm.trans (by
        have hp : putAll (arr 64 []) 0 (ws.map sl32) = ws.map sl32 := putAll_full (by rw [List.length_map, hwl]; rfl)
        show (match takeAt (putAll (arr 64 []) 0 (ws.map sl32)) 0 64 with | some xs => some [SV.agg xs] | none => none) = _
        rw [hp, takeAt_all (by rw [List.length_map, hwl])])
      clear hn
      intro β w' hs
      refine ⟨?_, hs.chg⟩
      show Value.agg ((ws.map sl32).map (SL.val β)).toArray = _
      rw [arr_val]
def oddF (g : Nat) : Fact := rdF 1 (some ⟨g, 0, none⟩) 64 (K.map u32)
def stF (b ty : Nat) (s : S8) : Fact := bkF b ty (s.l.map u32)
theorem rounds_succ (s : S8) (w : List UInt32) (n : Nat) : rounds s w (n + 1) = (rounds s w n).round (K.getD n 0) (w.getD n 0) := rfl
theorem K_len : K.length = 64 := rfl
theorem odd_cell {g : Nat} {w : World} (h : (oddF g).p w) {i : Nat} (hi : i < 64) : w.cell? ((⟨g, 0, none⟩ : Addr).add (i * 1)) = some (u32 (K.getD i 0)) := by
  obtain ⟨_, h2⟩ := h
  obtain ⟨ad, q, hc⟩ := h2 (by omega)
  obtain rfl := Option.some.inj q
  rw [Nat.mul_one]
  refine hc i _ ?_
  rw [List.getElem?_map, List.getElem?_eq_getElem (by rw [K_len]; exact hi)]
  simp [List.getD, List.getElem?_eq_getElem (show i < K.length by rw [K_len]; exact hi)]
def mix (s t : S8) (i : Nat) : List SL := ((s.add t).l.take i ++ s.l.drop i).map sl32
theorem mix_len (s t : S8) : ∀ i, i < 9 → (mix s t i).length = 8
  | 0, _ => rfl | 1, _ => rfl | 2, _ => rfl | 3, _ => rfl | 4, _ => rfl | 5, _ => rfl | 6, _ => rfl | 7, _ => rfl | 8, _ => rfl
  | n + 9, h => by omega
theorem mix_get (s t : S8) : ∀ i, i < 8 → nth (mix s t i) i = some (sl32 (s.l.getD i 0))
  | 0, _ => rfl | 1, _ => rfl | 2, _ => rfl | 3, _ => rfl | 4, _ => rfl | 5, _ => rfl | 6, _ => rfl | 7, _ => rfl
  | n + 8, h => by omega
theorem mix_set (s t : S8) : ∀ i, i < 8 → putAll (mix s t i) i [sl32 (s.l.getD i 0 + t.l.getD i 0)] = mix s t (i + 1)
  | 0, _ => rfl | 1, _ => rfl | 2, _ => rfl | 3, _ => rfl | 4, _ => rfl | 5, _ => rfl | 6, _ => rfl | 7, _ => rfl
  | n + 8, h => by omega
theorem l_get (t : S8) : ∀ i, i < 8 → (t.l.map sl32)[i]? = some (sl32 (t.l.getD i 0))
  | 0, _ => rfl | 1, _ => rfl | 2, _ => rfl | 3, _ => rfl | 4, _ => rfl | 5, _ => rfl | 6, _ => rfl | 7, _ => rfl
  | n + 8, h => by omega
theorem step_c (w : World) (b ty : Nat) (s : S8) (A : Option Addr) (l : List UInt8) (c : Nat) (hm : Mem w [stF b ty s, bsF A l, oddF 4]) (hc : l.length ≤ c) (hl : 64 ≤ l.length) (hcm : c ≤ maxLen) :
    Con Tryz.prog n_sha_state_step #[.pointer (some ⟨b, 0, none⟩), .slice A l.length c] w [stF b ty s] fun v Fs => v = .tuple #[] ∧ Fs = [stF b ty (Sha.step s l)] := by
  obtain ⟨ws, hws⟩ : ∃ ws, W l = ws := ⟨_, rfl⟩
  have hwl : ws.length = 64 := by rw [← hws]; exact W_len l
  have g := good_sha_state_step w (Un [stF b ty s]) (bs := [b])
  have hs0 : Sat (cx_sha_state_step w (Un [stF b ty s]) [b]) (Va.of fun _ => b) 1 [] [stF b ty s, bsF A l, oddF 4] w :=
    hm.sat rfl (ownIn (Gs := [stF b ty s]) (Rs := [bsF A l, oddF 4]) (fun g hg => by
      rcases List.mem_cons.1 hg with rfl | hg
      · rfl
      · obtain rfl := List.mem_singleton.1 hg; rfl)) ⟨Nat.le_refl _, fun i hi => by
        have hi1 : i < 1 := hi
        have hi0 : i = 0 := by omega
        rw [hi0]; rfl⟩
  have hs1 := hs0.toBk 0 rfl 0 Nat.zero_lt_one rfl
  refine con_of_sx (cx := cx_sha_state_step w (Un [stF b ty s]) [b]) g b_sha_state_step rfl rfl (β := Va.of fun _ => b) [.c (.p 0 0), .c (.v (.slice A l.length c))] 1 [⟨0, ty, s.l.map sl32⟩] [bsF A l, oddF 4] rfl rfl (by rw [List.map_map] at hs1; exact hs1) ?_
  refine call_pu (fun β w' hs => spread_c w' A l c (hs.get 0 rfl) hc hl hcm) ?_
  rw [hws]
  have ea : ofValue (.agg (ws.map u32).toArray) = .agg (ws.map sl32) := by simp only [ofValue, List.map_map]; rfl
  rw [ea]
  conv => whnf
  generalize h1 : Nat.beq _ _ = b1
  generalize h2 : allOne _ = b2
  obtain rfl : b1 = true := h1.symm.trans (by rw [List.length_map, hwl]; rfl)
  obtain rfl : b2 = true := h2.symm.trans (arr_one ws)
  clear h1 h2
  conv => whnf
  generalize h1 : Nat.ble _ _ = b1
  obtain rfl : b1 = true := h1.symm.trans (by rw [List.length_map, hwl]; rfl)
  clear h1
  refine draw_rule g p_sha_state_step_1 (by kernel_rfl) _ _ Sub.refl ?_
  refine ⟨0, rfl, by decide, ?_⟩
  refine ⟨1, rfl, by decide, ?_⟩
  refine ⟨2, rfl, by decide, ?_⟩
  refine ⟨3, rfl, by decide, ?_⟩
  refine ⟨4, rfl, by decide, ?_⟩
  refine ⟨5, rfl, by decide, ?_⟩
  refine ⟨6, rfl, by decide, ?_⟩
  refine ⟨7, rfl, by decide, ?_⟩
  have hp : putAll (ti259.zero.map SL.v) 0 (ws.map sl32) = ws.map sl32 := putAll_full (by rw [List.length_map, hwl]; rfl)
  refine loop_rule (ι := Nat) 2 (fun i => [(0, .c (.p 0 0)), (4, .c (.p 1 0)), (5, .c (sl32 (rounds s ws i).a)), (6, .c (sl32 (rounds s ws i).b)), (7, .c (sl32 (rounds s ws i).c)), (8, .c (sl32 (rounds s ws i).d)), (9, .c (sl32 (rounds s ws i).e)), (10, .c (sl32 (rounds s ws i).f)), (11, .c (sl32 (rounds s ws i).g)), (12, .c (sl32 (rounds s ws i).h)), (55, .c (.v (.int .i64 i)))])
    (fun _ => [⟨1, 259, ws.map sl32⟩, ⟨0, ty, s.l.map sl32⟩]) (fun _ => [bsF A l, oddF 4])
    (fun i => i ≤ 64) (fun i => 64 - i) 0 (Nat.zero_le _) (Ent.mk' ⟨rfl, rfl, rfl, rfl, rfl, rfl, rfl, rfl, rfl, rfl, rfl, trivial⟩ rfl (fun β w' hs => by rw [← hp]; exact hs)) g ?_
  intro i hi
  obtain ⟨r, hr⟩ : ∃ r, rounds s ws i = r := ⟨_, rfl⟩
  rw [hr]
  obtain ⟨xa, xb, xc, xd, xe, xf, xg, xh⟩ := r
  refine BIf.dec (fun hlt => ?_) (fun hge => ?_)
  · have hlt : i < 64 := by omega
    refine call_pu (fun β w' hs => rotl_c w' xe 6 (by omega) (by omega)) ?_
    refine call_pu (fun β w' hs => rotl_c w' xe 11 (by omega) (by omega)) ?_
    refine ⟨_, xor32 _ _, ?_⟩
    refine call_pu (fun β w' hs => rotl_c w' xe 25 (by omega) (by omega)) ?_
    refine ⟨_, xor32 _ _, ?_⟩
    refine ⟨_, and32 _ _, _, not32 _, _, and32 _ _, _, xor32 _ _, ?_⟩
    refine draw_rule g p_sha_state_step_7 (by kernel_rfl) _ _ Sub.refl ?_
    refine ⟨_, add32 _ _, _, add32 _ _, i, rfl, hlt, u32 (K.getD i 0), fun β w' hs => odd_cell (hs.get 1 rfl) hlt, _, add32 _ _, i, rfl, hlt, ?_⟩
    conv => whnf
    generalize hn : nth _ _ = o
    obtain rfl : o = some (sl32 (ws.getD i 0)) := hn.symm.trans (by
      show nth (ws.map sl32) (0 + i * 1) = _
      rw [nth_eq, Nat.zero_add, Nat.mul_one, List.getElem?_map, List.getElem?_eq_getElem (by omega)]
      simp [List.getD, List.getElem?_eq_getElem (show i < ws.length by omega)])
    clear hn
    refine ⟨_, add32 _ _, ?_⟩
    refine call_pu (fun β w' hs => rotl_c w' xa 2 (by omega) (by omega)) ?_
    refine call_pu (fun β w' hs => rotl_c w' xa 13 (by omega) (by omega)) ?_
    refine ⟨_, xor32 _ _, ?_⟩
    refine call_pu (fun β w' hs => rotl_c w' xa 22 (by omega) (by omega)) ?_
    refine ⟨_, xor32 _ _, ?_⟩
    refine ⟨_, and32 _ _, _, and32 _ _, _, xor32 _ _, _, and32 _ _, _, xor32 _ _, ?_⟩
    refine ⟨_, add32 _ _, _, add32 _ _, _, add32 _ _, ?_⟩
    refine ⟨((i + 1 : Nat) : Int), by rw [wrap_i64 (by omega) (by omega)]; rfl, ?_⟩
    refine ⟨i + 1, by omega, by omega, Ent.same ?_ rfl⟩
    rw [rounds_succ, hr]
    exact ⟨rfl, rfl, rfl, rfl, rfl, rfl, rfl, rfl, rfl, rfl, rfl, trivial⟩
  · obtain ⟨t, ht⟩ : ∃ t, (⟨xa, xb, xc, xd, xe, xf, xg, xh⟩ : S8) = t := ⟨_, rfl⟩
    have hst : Sha.step s l = s.add t := by
      have : i = 64 := by omega
      rw [Sha.step, hws, ← ht, ← hr, this]
    rw [hst]
    refine loop_rule (ι := Nat) 2 (fun i => [(0, .c (.p 0 0)), (129, .agg [sl32 xa, sl32 xb, sl32 xc, sl32 xd, sl32 xe, sl32 xf, sl32 xg, sl32 xh]), (130, .c (.v (.int .i64 i)))])
      (fun i => [⟨1, 259, ws.map sl32⟩, ⟨0, ty, mix s t i⟩]) (fun _ => [bsF A l, oddF 4])
      (fun i => i ≤ 8) (fun i => 8 - i) 0 (Nat.zero_le _) (Ent.same ⟨rfl, rfl, rfl, trivial⟩ rfl) g ?_
    intro j hj
    refine BIf.dec (fun hlt => ?_) (fun hge => ?_)
    · have hlt : j < 8 := by omega
      refine ⟨j, sl32 (t.l.getD j 0), rfl, hlt, by rw [← ht]; show ((⟨xa, xb, xc, xd, xe, xf, xg, xh⟩ : S8).l.map sl32)[j * 1]? = _; rw [Nat.mul_one]; exact l_get _ j hlt, ?_⟩
      refine draw_rule g p_sha_state_step_15 (by kernel_rfl) [] [bsF A l, oddF 4] (Sub.of (List.nil_sublist _) (List.Sublist.refl _)) ?_
      refine ⟨j, rfl, hlt, ?_⟩
      conv => whnf
      generalize hn : nth _ _ = o
      obtain rfl : o = some (sl32 (s.l.getD j 0)) := hn.symm.trans (by
        show nth (mix s t j) (0 + j * 1) = _
        rw [Nat.zero_add, Nat.mul_one]
        exact mix_get s t j hlt)
      clear hn
      refine ⟨Sub.of (List.nil_sublist _) (List.Sublist.refl _), _, add32 _ _, j, rfl, hlt, ?_⟩
      conv => whnf
      generalize h1 : Nat.ble _ _ = b1
      obtain rfl : b1 = true := h1.symm.trans (by
        show Nat.ble (0 + j * 1 + 1) (mix s t j).length = true
        rw [mix_len s t j (by omega), Nat.ble_eq]; omega)
      clear h1
      refine ⟨Sub.of (List.nil_sublist _) (List.Sublist.refl _), ?_⟩
      refine ⟨((j + 1 : Nat) : Int), by rw [wrap_i64 (by omega) (by omega)]; rfl, ?_⟩
      refine ⟨j + 1, by omega, by omega, Ent.mk' ⟨rfl, rfl, rfl, trivial⟩ rfl (fun β w' hs => ?_)⟩
      have e1 := mix_set s t j hlt
      rw [← e1]
      have e3 : 0 + j * 1 = j := by omega
      have hs2 : Sat (cx_sha_state_step w (Un [stF b ty s]) [b]) β 2 [⟨1, 259, ws.map sl32⟩, ⟨0, ty, putAll (mix s t j) (0 + j * 1) [sl32 (s.l.getD j 0 + t.l.getD j 0)]⟩] [bsF A l, oddF 4] w' := hs
      rw [e3] at hs2
      exact hs2
    · obtain rfl : j = 8 := by omega
      intro β w' hs
      have h1 := hs.weaken (List.sublist_cons_self _ _) (List.Sublist.refl _)
      have h2 := h1.ofBk
      have hb : β 0 = b := h2.fix.2 0 (Nat.zero_lt_one)
      refine h2.fin [0] ⟨rfl, ?_⟩
      show [bkF (β 0) ty ((mix s t 8).map (SL.val β))] = [stF b ty (s.add t)]
      rw [hb]
      rfl
theorem u8_of32 (x : UInt32) : IntKind.u8.wrap (x.toNat : Int) = (x.toUInt8.toNat : Int) := by
  rw [show IntKind.u8.wrap (x.toNat : Int) = (x.toNat : Int) % 256 by simp [IntKind.wrap, IntKind.bits, IntKind.signed], UInt32.toNat_toUInt8]
  omega
def outN (s : S8) (i : Nat) : List UInt8 := (s.l.take i).flatMap b4
theorem outN_succ (s : S8) : ∀ i, i < 8 → outN s i ++ b4 (s.l.getD i 0) = outN s (i + 1)
  | 0, _ => rfl | 1, _ => rfl | 2, _ => rfl | 3, _ => rfl | 4, _ => rfl | 5, _ => rfl | 6, _ => rfl | 7, _ => rfl
  | n + 8, h => by omega
theorem stbytes_c (w : World) (b ty : Nat) (s : S8) (hm : Mem w [stF b ty s]) :
    Con Tryz.prog n_sha_state_bytes #[.pointer (some ⟨b, 0, none⟩)] w [stF b ty s] fun v Fs => ∃ A c, v = .slice A 32 c ∧ 32 ≤ c ∧ c ≤ maxLen ∧ Fs = [stF b ty s, browF ty_uint8 A (out s) c] := by
  have g := good_sha_state_bytes w (Un [stF b ty s]) (bs := [b])
  have hs0 : Sat (cx_sha_state_bytes w (Un [stF b ty s]) [b]) (Va.of fun _ => b) 1 [] [stF b ty s] w :=
    hm.sat rfl (ownIn (Gs := [stF b ty s]) (Rs := []) (fun g hg => by cases hg)) ⟨Nat.le_refl _, fun i hi => by
        have hi1 : i < 1 := hi
        have hi0 : i = 0 := by omega
        rw [hi0]; rfl⟩
  have hs1 := hs0.toBk 0 rfl 0 Nat.zero_lt_one rfl
  rw [List.map_map] at hs1
  refine con_of_sx (cx := cx_sha_state_bytes w (Un [stF b ty s]) [b]) g b_sha_state_bytes rfl rfl (β := Va.of fun _ => b) [.c (.p 0 0)] 1 [⟨0, ty, s.l.map sl32⟩] [browF ty_uint8 none [] 0] rfl rfl (hs1.nilRow _ _) ?_
  refine loop_rule (ι := Nat × Option Addr × Nat) 1 (fun i => [(6, .c (.p 0 0)), (7, .c (.v (.int .i64 i.1))), (3, .c (.v (.slice i.2.1 (4 * i.1) i.2.2)))]) (fun _ => [⟨0, ty, s.l.map sl32⟩])
    (fun i => [rowF ty_uint8 1 (.slice i.2.1 (4 * i.1) i.2.2) (4 * i.1) ((outN s i.1).map byte)])
    (fun i => i.1 ≤ 8 ∧ 4 * i.1 ≤ i.2.2 ∧ i.2.2 ≤ maxLen) (fun i => 8 - i.1) (0, none, 0) ⟨Nat.zero_le _, Nat.zero_le _, Nat.zero_le _⟩ (Ent.same ⟨rfl, rfl, rfl, trivial⟩ rfl) g ?_
  rintro ⟨i, A, c⟩ ⟨hi, hc, hcm⟩
  simp only at hi hc hcm
  refine BIf.dec (fun hlt => ?_) (fun hge => ?_)
  · have hlt : i < 8 := by omega
    obtain ⟨x, hx⟩ : ∃ x, s.l.getD i 0 = x := ⟨_, rfl⟩
    refine ⟨i, rfl, hlt, ?_⟩
    conv => whnf
    generalize hn : nth _ _ = o
    obtain rfl : o = some (sl32 x) := hn.symm.trans (by
      show nth (s.l.map sl32) (0 + i * 1) = _
      rw [Nat.zero_add, Nat.mul_one, ← hx, nth_eq]
      exact l_get s i hlt)
    clear hn
    refine ⟨by omega, _, shr32 x 24 (by omega), _, u8_of32 _, by omega, _, shr32 x 16 (by omega), _, u8_of32 _, by omega, _, shr32 x 8 (by omega), _, u8_of32 _, _, u8_of32 _, ?_⟩
    intro b2
    refine ⟨1, 4 * i, 4 * (i + 1), (outN s i).map byte, (b4 x).map byte, _, rfl, fun β w hs => row_rd (hs.get 0 rfl), bytes_one _, by omega, rfl, by rw [maxLen_eq]; omega, by show 4 * (i + 1) * 1 ≤ _; omega, ?_⟩
    intro A' c' h1 h2 _
    refine ⟨((i + 1 : Nat) : Int), by rw [wrap_i64 (by omega) (by omega)]; rfl, ?_⟩
    refine ⟨(i + 1, A', c'), ⟨by show i + 1 ≤ 8; omega, h1, h2⟩, by show 8 - (i + 1) < 8 - i; omega, Ent.mk' ⟨rfl, rfl, rfl, trivial⟩ rfl (fun β w' hs => ?_)⟩
    have e1 := outN_succ s i hlt
    rw [hx] at e1
    have h3 := hs.weaken (List.Sublist.refl _) (List.sublist_cons_self _ _)
    show Sat _ _ _ _ [rowF ty_uint8 1 (.slice A' (4 * (i + 1)) c') (4 * (i + 1)) ((outN s (i + 1)).map byte)] _
    rw [← e1, List.map_append]
    exact h3
  · obtain rfl : i = 8 := by omega
    intro β w' hs
    have h2 := hs.ofBk
    have hb : β 0 = b := h2.fix.2 0 (Nat.zero_lt_one)
    refine h2.fin [0, 1] ⟨A, c, rfl, hc, hcm, ?_⟩
    show [bkF (β 0) ty ((s.l.map sl32).map (SL.val β)), _] = [stF b ty s, _]
    rw [hb]
    rfl
theorem wrap_u8n (x : Nat) : IntKind.u8.wrap (x : Int) = ((UInt8.ofNat x).toNat : Int) := by
  rw [show IntKind.u8.wrap (x : Int) = (x : Int) % 256 by simp [IntKind.wrap, IntKind.bits, IntKind.signed], UInt8.toNat_ofNat']
  omega
theorem wrap_u64' (x : Int) : IntKind.u64.wrap x = x % 18446744073709551616 := by simp [IntKind.wrap, IntKind.bits, IntKind.signed]
theorem longN_succ (n : Nat) : ∀ i, i < 8 → (Sha.long n).take i ++ [UInt8.ofNat (n / 2 ^ (8 * (7 - i)))] = (Sha.long n).take (i + 1)
  | 0, _ => rfl | 1, _ => rfl | 2, _ => rfl | 3, _ => rfl | 4, _ => rfl | 5, _ => rfl | 6, _ => rfl | 7, _ => rfl
  | n + 8, h => by omega
theorem long_c (w : World) (n : Nat) :
    Con Tryz.prog n_sha_long #[.int .u64 n] w [] fun v Fs => ∃ A c, v = .slice A 8 c ∧ 8 ≤ c ∧ c ≤ maxLen ∧ Fs = [browF ty_uint8 A (Sha.long n) c] := by
  have g := good_sha_long w (Un [])
  refine con_of_sx (cx := cx_sha_long w (Un [])) g b_sha_long rfl rfl (β := Va.z) [.c (.v (.int .u64 n))] 0 [] [browF ty_uint8 none [] 0] rfl rfl ((Sat.start rfl).nilRow _ _) ?_
  refine loop_rule (ι := Nat × Option Addr × Nat) 0 (fun i => [(0, .c (.v (.int .u64 n))), (5, .c (.v (.int .i64 i.1))), (3, .c (.v (.slice i.2.1 i.1 i.2.2)))]) (fun _ => [])
    (fun i => [rowF ty_uint8 1 (.slice i.2.1 i.1 i.2.2) i.1 (((Sha.long n).take i.1).map byte)])
    (fun i => i.1 ≤ 8 ∧ i.1 ≤ i.2.2 ∧ i.2.2 ≤ maxLen) (fun i => 8 - i.1) (0, none, 0) ⟨Nat.zero_le _, Nat.zero_le _, Nat.zero_le _⟩ (Ent.same ⟨rfl, rfl, rfl, trivial⟩ rfl) g ?_
  rintro ⟨i, A, c⟩ ⟨hi, hc, hcm⟩
  simp only at hi hc hcm
  refine BIf.dec (fun hlt => ?_) (fun hge => ?_)
  · have hlt : i < 8 := by omega
    refine ⟨((7 - i : Nat) : Int), by rw [wrap_i64 (by omega) (by omega)]; omega, ((8 * (7 - i) : Nat) : Int), by rw [wrap_i64 (by omega) (by omega)]; omega, ?_⟩
    refine ⟨by omega, ((n / 2 ^ (8 * (7 - i)) : Nat) : Int), ?_, _, wrap_u8n _, ?_⟩
    · have h1 : min ((8 * (7 - i) : Nat) : Int).toNat IntKind.u64.bits = 8 * (7 - i) := by show min (8 * (7 - i)) 64 = _; omega
      rw [h1]
      have : (2 ^ (8 * (7 - i)) : Int) = ((2 ^ (8 * (7 - i)) : Nat) : Int) := by push_cast; rfl
      rw [this, Int.fdiv_eq_ediv_of_nonneg _ (Int.natCast_nonneg _)]
      exact (Int.natCast_ediv _ _).symm
    intro b2
    refine ⟨1, i, i + 1, ((Sha.long n).take i).map byte, [UInt8.ofNat (n / 2 ^ (8 * (7 - i)))].map byte, _, rfl, fun β w hs => row_rd (hs.get 0 rfl), bytes_one _, rfl, rfl, by rw [maxLen_eq]; omega, by show (i + 1) * 1 ≤ _; omega, ?_⟩
    intro A' c' h1 h2 _
    refine ⟨((i + 1 : Nat) : Int), by rw [wrap_i64 (by omega) (by omega)]; rfl, ?_⟩
    refine ⟨(i + 1, A', c'), ⟨by show i + 1 ≤ 8; omega, h1, h2⟩, by show 8 - (i + 1) < 8 - i; omega, Ent.mk' ⟨rfl, rfl, rfl, trivial⟩ rfl (fun β w' hs => ?_)⟩
    have h3 := hs.weaken (List.Sublist.refl _) (List.sublist_cons_self _ _)
    show Sat _ _ _ _ [rowF ty_uint8 1 (.slice A' (i + 1) c') (i + 1) (((Sha.long n).take (i + 1)).map byte)] _
    rw [← longN_succ n i hlt, List.map_append]
    exact h3
  · obtain rfl : i = 8 := by omega
    intro β w' hs
    exact hs.fin [0] ⟨A, c, rfl, hc, hcm, rfl⟩
theorem ends_c (w : World) (n : Nat) (hn : n ≤ 140737488355328) :
    Con Tryz.prog n_sha_ends #[.int .u64 n] w [] fun v Fs => ∃ A c, v = .slice A (Sha.ends n).length c ∧ (Sha.ends n).length ≤ c ∧ c ≤ maxLen ∧ Fs = [browF ty_uint8 A (Sha.ends n) c] := by
  have g := good_sha_ends w (Un [])
  have hz : zeros n < 64 := by unfold zeros; omega
  refine con_of_sx (cx := cx_sha_ends w (Un [])) g b_sha_ends rfl rfl (β := Va.z) [.c (.v (.int .u64 n))] 0 [] [] rfl rfl (Sat.start rfl) ?_
  intro b0
  refine loop_rule (ι := Nat × Option Addr × Nat) 0 (fun i => [(0, .c (.v (.int .u64 n))), (3, .c (.v (.slice i.2.1 (i.1 + 1) i.2.2)))]) (fun _ => [])
    (fun i => [rowF ty_uint8 1 (.slice i.2.1 (i.1 + 1) i.2.2) (i.1 + 1) (((0x80 : UInt8) :: List.replicate i.1 0).map byte)])
    (fun i => i.1 ≤ zeros n ∧ i.1 + 1 ≤ i.2.2 ∧ i.2.2 ≤ maxLen) (fun i => zeros n - i.1) (0, some ⟨b0, 0, none⟩, 1) ⟨Nat.zero_le _, Nat.le_refl _, by show 1 ≤ maxLen; decide⟩ (Ent.same ⟨rfl, rfl, trivial⟩ rfl) g ?_
  rintro ⟨i, A, c⟩ ⟨hi, hc, hcm⟩
  simp only at hi hc hcm
  obtain ⟨r, hr⟩ : ∃ r : Nat, (n + (i + 1) + 8) % 64 = r := ⟨_, rfl⟩
  refine ⟨((i + 1 : Nat) : Int), by rw [wrap_u64']; omega, ((n + (i + 1) : Nat) : Int), by rw [wrap_u64']; omega, ((n + (i + 1) + 8 : Nat) : Int), by rw [wrap_u64']; omega, by omega, (r : Int), by rw [Int.tmod_eq_emod_of_nonneg (by omega)]; omega, ?_⟩
  refine BIf.not (BIf.dec (fun h0 => ?_) (fun h0 => ?_))
  · have hiz : i = zeros n := by unfold zeros at *; omega
    refine ⟨((8 * n : Nat) : Int), by rw [wrap_u64']; omega, ?_⟩
    refine call_con [] (fun β w' hs => long_c w' (8 * n)) ?_
    rintro v Fs ⟨A2, c2, rfl, h1, h2, rfl⟩
    have hl : (Sha.ends n).length = i + 1 + 8 := by rw [Sha.ends_len, hiz]; omega
    refine ⟨1, i + 1, (Sha.ends n).length, _, (Sha.long (8 * n)).map byte, (Sha.ends n).map byte, rfl, fun β w hs => row_rd (hs.get 0 rfl), bytes_one _, hl.symm, by rw [← List.map_append, hiz]; rfl, by rw [maxLen_eq, hl]; omega, by show (Sha.ends n).length * 1 ≤ _; omega, ?_⟩
    intro A' c' h3 h4 _
    intro β w' hs
    exact hs.fin [1] ⟨A', c', rfl, h3, h4, rfl⟩
  · have hiz : i < zeros n := by
      rcases Nat.lt_or_ge i (zeros n) with h | h
      · exact h
      · exfalso
        apply h0
        have : i = zeros n := by omega
        subst this
        unfold zeros at hr
        omega
    intro b2
    refine ⟨1, i + 1, i + 1 + 1, ((0x80 : UInt8) :: List.replicate i 0).map byte, [(0 : UInt8)].map byte, _, rfl, fun β w hs => row_rd (hs.get 0 rfl), bytes_one _, rfl, rfl, by rw [maxLen_eq]; omega, by show (i + 1 + 1) * 1 ≤ _; omega, ?_⟩
    intro A' c' h1 h2 _
    refine ⟨(i + 1, A', c'), ⟨hiz, h1, h2⟩, by show zeros n - (i + 1) < zeros n - i; omega, Ent.mk' ⟨rfl, rfl, trivial⟩ rfl (fun β w' hs => ?_)⟩
    have h3 := hs.weaken (List.Sublist.refl _) (List.sublist_cons_self _ _)
    show Sat _ _ _ _ [rowF ty_uint8 1 (.slice A' (i + 1 + 1) c') (i + 1 + 1) (((0x80 : UInt8) :: List.replicate (i + 1) 0).map byte)] _
    rw [List.replicate_succ', ← List.cons_append, List.map_append]
    exact h3
theorem clone_c (w : World) (A : Option Addr) (l : List UInt8) (c : Nat) (hr : Bs w A l) (hn : l.length ≤ 140737488355328) :
    Con Tryz.prog n_bytes_Clone #[.slice A l.length c] w [] fun v Fs => ∃ A' c', v = .slice A' l.length c' ∧ l.length ≤ c' ∧ c' ≤ maxLen ∧ Fs = [browF ty_uint8 A' l c'] := by
  refine con_of_sx (cx := cx_bytes_Clone w (Un [])) (good_bytes_Clone w (Un [])) b_bytes_Clone rfl rfl (β := Va.z) [.c (.v (.slice A l.length c))] 0 [] [bsF A l] rfl rfl ((Sat.start rfl).rd (fun _ h => by cases h) hr) ?_
  refine BIf.mk (fun h => ?_) (fun h => ?_)
  · intro β w' hs
    have hA : A = none := by simpa using h
    subst hA
    have hl : l = [] := by
      cases l with
      | nil => rfl
      | cons x r => obtain ⟨ad, q⟩ := Bs.addr hr (by simp); cases q
    subst hl
    exact (hs.nilRow ty_uint8 1).fin [0] ⟨none, 0, rfl, Nat.le_refl _, Nat.zero_le _, rfl⟩
  intro b
  refine ⟨0, 0, l.length, [], l.map byte, _, rfl, fun β w hs => hs.get 1 rfl, bytes_one l, Nat.zero_add _, rfl, by rw [maxLen_eq]; omega, by show l.length * 1 ≤ _; omega, ?_⟩
  intro A' c' h1 h2 h3 β w' hs
  exact hs.fin [0] ⟨A', c', rfl, h1, h2, rfl⟩
def blk (q : List UInt8) (i : Nat) : List UInt8 := (q.drop (64 * i)).take 64
def blks (q : List UInt8) (n : Nat) : List (List UInt8) := (List.range n).map (blk q)
theorem blks_succ (q : List UInt8) (n : Nat) : blks q (n + 1) = blks q n ++ [blk q n] := by simp [blks, List.range_succ]
theorem go_eq : ∀ (n : Nat) (s : S8) (q : List UInt8), go n s q = (blks q n).foldl Sha.step s
  | 0, s, q => rfl
  | n + 1, s, q => by
    rw [go, go_eq n]
    have : blks q (n + 1) = q.take 64 :: blks (q.drop 64) n := by
      simp only [blks, List.range_succ_eq_map, List.map_cons, List.map_map]
      congr 1
      refine List.map_congr_left fun i _ => ?_
      simp only [Function.comp, blk, List.drop_drop]
      rw [show 64 * (i + 1) = 64 + 64 * i by omega]
    rw [this, List.foldl_cons]
def insB (x : List UInt8) (args : Array Value) (X : Fact) : Prop := x.length = 64 ∧ ∃ B, args = #[.slice B 64 64] ∧ X = bsF B x
theorem blocks_it (l : Nat) (w : World) (bx : Nat) (A : Option Addr) (p : List UInt8) (c : Nat) (f0 R : Fact) (J Jx : List (List UInt8) → Fact → Prop) (hJ0 : J [] f0) (hJo : ∀ pre f, J pre f → f.own = true) (hRo : R.own = false) (hY : Yc Tryz.prog l J Jx R (fun _ => insB))
    (hp : p.length ≤ 70368744177664) (hm : Mem w (f0 :: R :: [bkF bx ty_sl_uint8 [.slice A p.length c], bsF A p])) :
    Con Tryz.prog n_sha_Blocks_1 #[.func (.yield l) #[] #[], .pointer (some ⟨bx, 0, none⟩)] w [f0, bkF bx ty_sl_uint8 [.slice A p.length c]]
      (fun _ Fs => ∃ f Fs', Fs = f :: Fs' ∧ ((∃ xs, J xs f ∧ xs = blks (p ++ ends p.length) ((p ++ ends p.length).length / 64) ∧ Fs' = []) ∨ (∃ pre, Jx pre f ∧ Fs' = []))) := by
  have g := good_sha_Blocks_1 w (Un [f0, bkF bx ty_sl_uint8 [.slice A p.length c]]) [bx]
  have hs0 : Sat (cx_sha_Blocks_1 w (Un [f0, bkF bx ty_sl_uint8 [.slice A p.length c]]) [bx]) (Va.of fun _ => bx) 1 [] (f0 :: R :: [bkF bx ty_sl_uint8 [.slice A p.length c], bsF A p]) w := by
    refine hm.sat rfl (fun f hf ho k hk => ?_) ⟨Nat.le_refl 1, fun i hi => by obtain rfl : i = 0 := Nat.lt_one_iff.1 hi; rfl⟩
    simp only [List.mem_cons, List.not_mem_nil, or_false] at hf
    rcases hf with rfl | rfl | rfl | rfl
    · exact ⟨_, by simp, hk⟩
    · rw [hRo] at ho; cases ho
    · exact ⟨_, by simp, hk⟩
    · cases ho
  have hs1 := hs0.toBk 2 rfl 0 Nat.zero_lt_one rfl
  have hf0 := hJo _ _ hJ0
  refine con_of_sx (cx := cx_sha_Blocks_1 w (Un [f0, bkF bx ty_sl_uint8 [.slice A p.length c]]) [bx]) g b_sha_Blocks_1 rfl rfl (β := Va.of fun _ => bx) [.c (.v (.func (.yield l) #[] #[])), .c (.p 0 0)] 1 [⟨0, ty_sl_uint8, [.v (.slice A p.length c)]⟩] [f0, R, bsF A p] rfl rfl hs1 ?_
  refine draw_rule g p_sha_Blocks_1_0 (by kernel_rfl) [⟨0, ty_sl_uint8, [.v (.slice A p.length c)]⟩] [f0, R, bsF A p] Sub.refl ?_
  refine ⟨((p.length : Nat) : Int), by rw [wrap_u64']; omega, ?_⟩
  refine call_con [] (fun β w' hs => clone_c w' A p c (hs.get 2 rfl) (by omega)) ?_
  rintro v Fs ⟨A1, c1, rfl, h1, h2, rfl⟩
  refine ⟨Sub.dropF 1 rfl, ?_⟩
  refine call_con [] (fun β w' hs => ends_c w' p.length (by omega)) ?_
  rintro v Fs ⟨A2, c2, rfl, h3, h4, rfl⟩
  refine ⟨Sub.dropF 2 rfl, ?_⟩
  obtain ⟨q, hq⟩ : ∃ q, p ++ ends p.length = q := ⟨_, rfl⟩
  have hql : q.length = p.length + (ends p.length).length := by rw [← hq, List.length_append]
  have hel : (ends p.length).length < 73 := by rw [Sha.ends_len]; unfold zeros; omega
  have hqm : q.length % 64 = 0 := by rw [← hq]; exact Sha.pad_mod p
  rw [hq]
  refine ⟨1, p.length, q.length, _, (ends p.length).map byte, q.map byte, rfl, fun β w hs => row_rd (hs.get 0 rfl), bytes_one _, hql.symm, by rw [← hq, List.map_append], by rw [maxLen_eq]; omega, by show q.length * 1 ≤ _; omega, ?_⟩
  intro A3 c3 h5 h6 _
  refine ⟨Sub.dropF 2 rfl, ?_⟩
  refine loop_rule (ι := Nat × Option Addr × Nat × Fact) 1 (fun i => [(0, .c (.v (.func (.yield l) #[] #[]))), (3, .c (.v (.slice i.2.1 (q.length - 64 * i.1) i.2.2.1)))]) (fun _ => [⟨0, ty_sl_uint8, [.v (.slice A p.length c)]⟩])
    (fun i => [browF ty_uint8 A3 q c3, i.2.2.2, R])
    (fun i => 64 * i.1 ≤ q.length ∧ q.length - 64 * i.1 ≤ i.2.2.1 ∧ i.2.2.1 ≤ maxLen ∧ J (blks q i.1) i.2.2.2 ∧ (∀ w, Bs w A3 q → Bs w i.2.1 (q.drop (64 * i.1))) ∧ (∀ ad, i.2.1 = some ad → ∃ ad3, A3 = some ad3 ∧ ad.block = ad3.block)) (fun i => q.length - 64 * i.1) (0, A3, c3, f0)
    ⟨Nat.zero_le _, h5, h6, hJ0, fun w h => h, fun ad h => ⟨ad, h, rfl⟩⟩ (Ent.mk' ⟨rfl, rfl, trivial⟩ rfl (fun β w' hs => hs.weaken (List.Sublist.refl _) (List.Sublist.cons _ (List.Sublist.cons_cons _ (List.Sublist.cons_cons _ (List.Sublist.cons_cons _ (List.nil_sublist _))))))) g ?_
  rintro ⟨i, B, cap, f⟩ ⟨hi, hcap, hcm, hJ, hB, hBD⟩
  simp only at hi hcap hcm hJ hB hBD
  have hfo := hJo _ _ hJ
  obtain ⟨m, hm⟩ : ∃ m, q.length - 64 * i = m := ⟨_, rfl⟩
  have hmc : m ≤ cap := by omega
  rw [hm]
  have hdl : (q.drop (64 * i)).length = m := by rw [List.length_drop]; omega
  refine BIf.dec (fun h0 => ?_) (fun h0 => ?_)
  · have hm64 : 64 ≤ m := by omega
    have hbl : (blk q i).length = 64 := by unfold blk; rw [List.length_take, hdl]; omega
    refine ⟨64, 64, 0, 64, 64, _, rfl, rfl, rfl, by show 64 ≤ cap; omega, by omega, by omega, rfl, rfl, rfl, ?_⟩
    have hcutD : ∀ k, (bsF (cutA B 64 0 1) (blk q i)).D k → (browF ty_uint8 A3 q c3).D k := by
      rintro k ⟨_, ad, had, rfl⟩
      simp only [cutA] at had
      rw [if_neg (by decide)] at had
      cases B with
      | none => cases had
      | some ad0 =>
        obtain rfl : ad0.add (0 * 1) = ad := by simpa using had
        obtain ⟨ad3, h7, h8⟩ := hBD ad0 rfl
        subst h7
        have : (ad0.add (0 * 1)).block = ad0.block := by unfold Addr.add; split <;> rfl
        show some ad3.block = some (ad0.add (0 * 1)).block
        rw [this, h8]
    refine yield_ro (x := blk q i) (X := bsF (cutA B 64 0 1) (blk q i)) hY 1 2 rfl hJ hfo rfl hRo (by decide) (fun β => ⟨hbl, _, rfl, rfl⟩) rfl (fun β w' hs => ⟨?_, fun k hk => hs.getLt 0 rfl k (hcutD k hk), fun k hk hk' => ?_⟩) ?_ ?_
    · have h7 := Bs.cut (hB w' (row_rd (hs.get 0 rfl))) (c := cap) (m := 64) (i := 0) (j := 64) (by omega) (.inr (Nat.le_refl _)) (by omega) (by omega) (by omega)
      have h8 : Rd 1 (cutA B 64 0 1) (blk q i).length ((blk q i).map byte) w' := by rw [hbl]; exact h7
      exact h8
    · exact hs.apart (i := 1) (j := 0) rfl rfl (by decide) (.inr rfl) k hk (hcutD k hk')
    · intro f2 hfo2 hJ2
      refine ⟨cap, m, 64, m - 64, cap - 64, _, rfl, rfl, rfl, Nat.le_refl _, hmc, hm64, rfl, rfl, rfl, ?_⟩
      refine ⟨(i + 1, cutA B cap 64 1, cap - 64, f2), ⟨by show 64 * (i + 1) ≤ _; omega, by show q.length - 64 * (i + 1) ≤ cap - 64; omega, by show cap - 64 ≤ _; omega, by show J (blks q (i + 1)) f2; rw [blks_succ]; exact hJ2, fun w' h => ?_, fun ad had => ?_⟩, by show q.length - 64 * (i + 1) < m; omega, Ent.mk' ⟨rfl, ?_, trivial⟩ rfl (fun β w' hs => ?_)⟩
      · have h7 := Bs.cutB (hB w' h) (c := cap) (i := 64) (j := m) (m := q.drop (64 * (i + 1))) (by omega) hm64 (by omega) (by
          rw [List.drop_drop, show 64 * i + 64 = 64 * (i + 1) by omega, List.take_of_length_le]
          rw [List.length_drop]; omega)
        exact h7
      · have had' : cutA B cap 64 1 = some ad := had
        unfold cutA at had'
        split at had'
        · exact hBD ad had'
        · cases B with
          | none => cases had'
          | some ad0 =>
            obtain rfl : ad0.add (64 * 1) = ad := by simpa using had'
            obtain ⟨ad3, h7, h8⟩ := hBD ad0 rfl
            refine ⟨ad3, h7, ?_⟩
            rw [← h8]
            unfold Addr.add; split <;> rfl
      · show _ = some (SV.c (.v (.slice _ (q.length - 64 * (i + 1)) _)))
        rw [show q.length - 64 * (i + 1) = m - 64 by omega]
        rfl
      · exact (hs.keepB (List.Sublist.refl _)).perm [1, 0, 2]
    · intro f2 hfo2 hJ2 β w' hs
      exact hs.fin [0] ⟨f2, [], rfl, .inr ⟨_, hJ2, rfl⟩⟩ rfl rfl rfl ⟨hfo2, trivial⟩
  · have hi2 : i = q.length / 64 := by omega
    intro β w' hs
    exact hs.fin [1] ⟨f, [], rfl, .inl ⟨_, hJ, by rw [hi2], rfl⟩⟩ rfl rfl rfl ⟨hfo, trivial⟩
theorem rd_sub_row {e size k n c : Nat} {A : Option Addr} {xs ys : List Value} : ∀ g, (rdF size A k xs).D g → (rowF e size (.slice A n c) n ys).D g := by
  rintro g ⟨_, ad, rfl, rfl⟩
  rfl
theorem Mem.lastRd {w : World} {f R X : Fact} {e c : Nat} {A : Option Addr} {l : List UInt8} (h : Mem w [f, R, X, browF e A l c]) : Mem w [f, R, X, bsF A l] := by
  have hp : Bs w A l := row_rd (h.fact (browF e A l c) (by simp))
  refine ⟨fun g hg => ?_, fun g hg k hk => ?_, ?_⟩
  · simp only [List.mem_cons, List.not_mem_nil, or_false] at hg
    rcases hg with rfl | rfl | rfl | rfl
    · exact h.fact _ (by simp)
    · exact h.fact _ (by simp)
    · exact h.fact _ (by simp)
    · exact hp
  · simp only [List.mem_cons, List.not_mem_nil, or_false] at hg
    rcases hg with rfl | rfl | rfl | rfl
    · exact h.flt g (by simp) k hk
    · exact h.flt g (by simp) k hk
    · exact h.flt g (by simp) k hk
    · exact h.flt (browF e A l c) (by simp) k (rd_sub_row k hk)
  · obtain ⟨h1, h2⟩ := List.pairwise_cons.1 h.sepf
    obtain ⟨h3, h4⟩ := List.pairwise_cons.1 h2
    obtain ⟨h5, _⟩ := List.pairwise_cons.1 h4
    refine List.pairwise_cons.2 ⟨fun g hg ho => ?_, List.pairwise_cons.2 ⟨fun g hg ho => ?_, List.pairwise_cons.2 ⟨fun g hg ho => ?_, List.pairwise_singleton _ _⟩⟩⟩
    · simp only [List.mem_cons, List.not_mem_nil, or_false] at hg
      rcases hg with rfl | rfl | rfl
      · exact h1 _ (by simp) ho
      · exact h1 _ (by simp) ho
      · exact fun k hk q => h1 (browF e A l c) (by simp) (.inr rfl) k hk (rd_sub_row k q)
    · simp only [List.mem_cons, List.not_mem_nil, or_false] at hg
      rcases hg with rfl | rfl
      · exact h3 _ (by simp) ho
      · exact fun k hk q => h3 (browF e A l c) (by simp) (.inr rfl) k hk (rd_sub_row k q)
    · obtain rfl := List.mem_singleton.1 hg
      exact fun k hk q => h5 (browF e A l c) (by simp) (.inr rfl) k hk (rd_sub_row k q)
theorem Blocks_c (w : World) (A : Option Addr) (n c : Nat) : Con Tryz.prog n_sha_Blocks #[.slice A n c] w [] (fun v Fs => ∃ bx, v = .func (.func n_sha_Blocks_1) #[] #[.pointer (some ⟨bx, 0, none⟩)] ∧ Fs = [bkF bx ty_sl_uint8 [.slice A n c]]) := by
  refine con_of_sx (cx := cx_sha_Blocks w (Un [])) (good_sha_Blocks w (Un [])) b_sha_Blocks rfl rfl (β := Va.z) [.c (.v (.slice A n c))] 0 [] [] rfl rfl (Sat.start rfl) ?_
  intro β w' hs
  exact hs.ofBk.fin [0] ⟨β 0, rfl, rfl⟩
theorem join1_c (w : World) (P A : Option Addr) (cP c : Nat) (l : List UInt8) (hP : Rd 1 P 1 [.slice A l.length c] w) (hr : Bs w A l) (hn : l.length ≤ 140737488355328) :
    Con Tryz.prog n_bytes_Join #[.slice P 1 cP, .slice none 0 0] w [] fun v Fs => ∃ A' c', v = .slice A' l.length c' ∧ l.length ≤ c' ∧ c' ≤ maxLen ∧ Fs = [browF ty_uint8 A' l c'] := by
  have hs0 : Sat (cx_bytes_Join w (Un [])) Va.z 0 [] [oldF w] w := old_sat rfl
  refine con_of_sx (cx := cx_bytes_Join w (Un [])) (good_bytes_Join w (Un [])) b_bytes_Join rfl rfl (β := Va.z) [.c (.v (.slice P 1 cP)), .c (.v (.slice none 0 0))] 0 [] [browF ty_uint8 none [] 0, oldF w] rfl rfl (hs0.nilRow _ _) ?_
  obtain ⟨ad, rfl, hc⟩ := hP.2 (by decide)
  refine ⟨ad, 0, rfl, rfl, by decide, .slice A l.length c, fun β w' hs => ?_, ?_⟩
  · have h1 : Rd 1 (some ad) 1 [.slice A l.length c] w' := hP.old (hs.get 1 rfl)
    obtain ⟨ad', h2, h3⟩ := h1.2 (by decide)
    obtain rfl := Option.some.inj h2
    exact h3 0 _ rfl
  refine ⟨0, 0, l.length, [], l.map byte, _, rfl, fun β w' hs => hr.old (hs.get 1 rfl), bytes_one l, Nat.zero_add _, rfl, by rw [maxLen_eq]; omega, by show l.length * 1 ≤ _; omega, ?_⟩
  intro A' c' h1 h2 h3 β w' hs
  exact hs.fin [0] ⟨A', c', rfl, h1, h2, rfl⟩
theorem step64_c (w : World) (b ty : Nat) (s : S8) (A : Option Addr) (x : List UInt8) (hx : x.length = 64) (hm : Mem w [stF b ty s, bsF A x, oddF 4]) :
    Con Tryz.prog n_sha_state_step #[.pointer (some ⟨b, 0, none⟩), .slice A 64 64] w [stF b ty s] fun v Fs => v = .tuple #[] ∧ Fs = [stF b ty (Sha.step s x)] := by
  have := step_c w b ty s A x 64 hm (by omega) (by omega) (by decide)
  rw [hx] at this
  exact this
def firstF (g : Nat) : Fact := rdF 1 (some ⟨g, 0, none⟩) 8 (Sha.first.l.map u32)
theorem sum1_c (w : World) (P A : Option Addr) (cP c : Nat) (l : List UInt8) (hP : Rd 1 P 1 [.slice A l.length c] w) (hr : Bs w A l) (hn : l.length ≤ 70368744177664) (h1 : (oddF 4).p w) (h0 : (firstF 1).p w) :
    Con Tryz.prog n_sha_Sum #[.slice P 1 cP] w [] fun v Fs => ∃ A' c', v = .slice A' 32 c' ∧ 32 ≤ c' ∧ c' ≤ maxLen ∧ Fs = [browF ty_uint8 A' (Sha.sum l) c'] := by
  have g := good_sha_Sum w (Un [])
  have hs0 : Sat (cx_sha_Sum w (Un [])) Va.z 0 [] [oldF w] w := old_sat rfl
  have hs1 : Sat (cx_sha_Sum w (Un [])) Va.z 0 [] [oddF 4, oldF w] w := hs0.sub 0 rfl rfl _ rfl h1 (rd_lt h1)
  refine con_of_sx (cx := cx_sha_Sum w (Un [])) g b_sha_Sum rfl rfl (β := Va.z) [.c (.v (.slice P 1 cP))] 0 [] [oddF 4, oldF w] rfl rfl hs1 ?_
  refine ⟨Sha.first.l.map u32, rfl, fun β w' hs j u hu => ?_, ?_⟩
  · have h2 : Rd 1 (some ⟨1, 0, none⟩) 8 (Sha.first.l.map u32) w' := Rd.old h0 (hs.get 1 rfl)
    obtain ⟨ad, h3, h4⟩ := h2.2 (by decide)
    obtain rfl := Option.some.inj h3
    exact h4 j u hu
  refine call_con [] (fun β w' hs => join1_c w' P A cP c l (hP.old (hs.get 1 rfl)) (hr.old (hs.get 1 rfl)) (by omega)) ?_
  rintro v Fs ⟨A1, c1, rfl, h2, h3, rfl⟩
  refine call_con [] (fun β w' hs => Blocks_c w' A1 l.length c1) ?_
  rintro v Fs ⟨bx, rfl, rfl⟩
  refine reify_rule g 0 (fun _ => Sha.first.l.map u32) rfl rfl (fun _ => rfl) (fun sb => ?_)
  obtain ⟨q, hq⟩ : ∃ q, l ++ ends l.length = q := ⟨_, rfl⟩
  have hsum : Sha.sum l = out ((blks q (q.length / 64)).foldl Sha.step Sha.first) := by rw [← go_eq, ← hq]; rfl
  rw [hsum]
  refine range_rule (α := List UInt8) (ι := S8) (κ := S8) g rfl (cv := [.pointer (some ⟨bx, 0, none⟩)]) rfl (by kernel_rfl) 1 (Nat.le_refl 1)
    (fun pre s => s = pre.foldl Sha.step Sha.first) (fun _ => []) (fun s => [stF sb 223 s]) (fun _ => ⟨rfl, trivial⟩)
    (fun _ _ _ => False) (fun _ => []) (fun _ => []) (fun _ => trivial)
    [bkF bx ty_sl_uint8 [.slice A1 l.length c1]] [browF ty_uint8 A1 l c1] [oddF 4] ⟨rfl, trivial⟩ (fun g hg => by obtain rfl := List.mem_singleton.1 hg; rfl)
    Sha.first rfl (fun β w' hs => ⟨β, Agr.refl _ _, hs.perm [1, 2, 0, 3]⟩) (fun _ => insB)
    (fun xs Fs' => xs = blks q (q.length / 64) ∧ Fs' = []) (fun _ Fs' => Fs' = [])
    (fun l' w' f0 R J Jx hJ0 hJo hRo hY hm => (blocks_it l' w' bx A1 l c1 f0 R J Jx hJ0 hJo hRo hY hn hm.lastRd).mono fun _ Fs h => by rw [hq] at h; exact h) ?_ ?_ ?_
  · rintro s pre x args X W S l' bs pn pn' hbs hpre ⟨hx, B, rfl, rfl⟩
    refine ⟨_, rfl, ?_⟩
    refine call_con [1] (fun β w' hs => step64_c w' sb 223 s B x hx (hs.mem.take (js := [1, 0, 2]) rfl)) ?_
    rintro v Fs ⟨rfl, rfl⟩
    refine ⟨Sha.step s x, by show Sha.step s x = (pre ++ [x]).foldl Sha.step Sha.first; rw [List.foldl_append, hpre]; rfl, Ent.mk' trivial rfl (fun β w' hs => ?_)⟩
    exact hs.weaken (List.Sublist.refl _) (List.Sublist.cons_cons _ (List.nil_sublist _))
  · rintro xs s Fs hpre ⟨rfl, rfl⟩
    refine call_con [0] (fun β w' hs => stbytes_c w' sb 223 s (hs.mem.take (js := [0]) rfl)) ?_
    rintro v Fs ⟨A3, c3, rfl, h5, h6, rfl⟩
    intro β w' hs
    refine hs.fin [1] ⟨A3, c3, rfl, h5, h6, ?_⟩
    rw [← hpre]
    rfl
  · rintro e pre s Fs h _
    exact h.elim
theorem be4 (x : UInt32) : be 4 x.toNat = b4 x := by
  have hx := x.toNat_lt
  simp only [be, b4, List.nil_append, List.cons_append]
  have e : ∀ n, n < 256 → ∀ y : UInt8, y.toNat = n → UInt8.ofNat n = y := fun n _ y h => by rw [← h, UInt8.ofNat_toNat]
  have h1 : ∀ k : Nat, k < 32 → (x >>> UInt32.ofNat k).toNat = x.toNat / 2 ^ k := fun k hk => by
    rw [UInt32.toNat_shiftRight, UInt32.toNat_ofNat', Nat.mod_eq_of_lt (show k < 2 ^ 32 by omega), Nat.mod_eq_of_lt hk, Nat.shiftRight_eq_div_pow]
  congr 1
  · exact e _ (by omega) _ (by rw [UInt32.toNat_toUInt8, show (24 : UInt32) = UInt32.ofNat 24 from rfl, h1 24 (by omega)] <;> omega)
  congr 1
  · exact e _ (by omega) _ (by rw [UInt32.toNat_toUInt8, show (16 : UInt32) = UInt32.ofNat 16 from rfl, h1 16 (by omega)] <;> omega)
  congr 1
  · exact e _ (by omega) _ (by rw [UInt32.toNat_toUInt8, show (8 : UInt32) = UInt32.ofNat 8 from rfl, h1 8 (by omega)] <;> omega)
  congr 1
  exact e _ (by omega) _ (by rw [UInt32.toNat_toUInt8])
theorem be_con (w : World) (n k : Nat) (hn : n < 18446744073709551616) (hk : k ≤ 4096) :
    Con Tryz.prog n_ostiaryref01_Bytes #[.int .u64 n, .int .i64 k] w [] fun v Fs => ∃ A c, v = .slice A (be k n).length c ∧ (be k n).length ≤ c ∧ c ≤ maxLen ∧ Fs = [browF ty_uint8 A (be k n) c] := con_row (bytes_c w n k hn hk)
structure SecA where
  A0 : Option Addr
  A1 : Option Addr
  A2 : Option Addr
  A3 : Option Addr
  c0 : Nat
  c1 : Nat
  c2 : Nat
  c3 : Nat
  s0 : List UInt8
  s1 : List UInt8
  s2 : List UInt8
  s3 : List UInt8
  it : Int
def SecA.val (x : SecA) : Value := .agg #[.slice x.A0 x.s0.length x.c0, .int .i64 x.it, .slice x.A1 x.s1.length x.c1, .slice x.A2 x.s2.length x.c2, .slice x.A3 x.s3.length x.c3]
def SecA.cells (x : SecA) : List SL := [.v (.slice x.A0 x.s0.length x.c0), .v (.int .i64 x.it), .v (.slice x.A1 x.s1.length x.c1), .v (.slice x.A2 x.s2.length x.c2), .v (.slice x.A3 x.s3.length x.c3)]
structure SecA.Rd (x : SecA) (w : World) : Prop where
  h0 : Bs w x.A0 x.s0
  h1 : Bs w x.A1 x.s1
  h2 : Bs w x.A2 x.s2
  h3 : Bs w x.A3 x.s3
theorem ofInt8 (a : UInt8) : BitVec.ofInt 8 (a.toNat : Int) = a.toBitVec := by
  apply BitVec.eq_of_toNat_eq
  rw [BitVec.toNat_ofInt]
  have := a.toNat_lt
  have e : a.toBitVec.toNat = a.toNat := rfl
  rw [e]
  omega
theorem back8 (x : BitVec 8) : IntKind.u8.wrap (x.toNat : Int) = ((UInt8.ofBitVec x).toNat : Int) := by
  rw [wrap_u8]
  have := x.isLt
  have e : (UInt8.ofBitVec x).toNat = x.toNat := rfl
  rw [e]
  omega
theorem xor8 (a b : UInt8) : bits .xor .u8 (a.toNat : Int) (b.toNat : Int) = ((a ^^^ b).toNat : Int) := by
  show IntKind.u8.wrap (((BitVec.ofInt 8 (a.toNat : Int)) ^^^ (BitVec.ofInt 8 (b.toNat : Int))).toNat : Int) = _
  rw [ofInt8, ofInt8, back8]
  rfl
theorem or8 (a b : UInt8) : bits .or .u8 (a.toNat : Int) (b.toNat : Int) = ((a ||| b).toNat : Int) := by
  show IntKind.u8.wrap (((BitVec.ofInt 8 (a.toNat : Int)) ||| (BitVec.ofInt 8 (b.toNat : Int))).toNat : Int) = _
  rw [ofInt8, ofInt8, back8]
  rfl
theorem equal_c (w : World) (A B : Option Addr) (l m : List UInt8) (c d : Nat) (hl : Bs w A l) (hm : Bs w B m) (hn : l.length ≤ 70368744177664) : Pu Tryz.prog n_hmac_Equal #[.slice A l.length c, .slice B m.length d] w (.bool (decide (l = m))) := by
  have g := good_hmac_Equal w None_
  refine pu_of (calls_of_sx (cx := cx_hmac_Equal w None_) g b_hmac_Equal rfl rfl (β := Va.z) [.c (.v (.slice A l.length c)), .c (.v (.slice B m.length d))] 0 [] [oldF w] rfl rfl (old_sat rfl) ?_)
  refine BIf.not (BIf.dec (fun h0 => ?_) (fun h0 => ?_))
  · have hlen : m.length = l.length := by omega
    refine loop_rule (ι := Nat × UInt8) 0 (fun i => [(0, .c (.v (.slice A l.length c))), (1, .c (.v (.slice B m.length d))), (13, .c (.v (.int .i64 l.length))), (14, .c (.v (.int .i64 i.1))), (5, .c (.v (byte i.2)))]) (fun _ => []) (fun _ => [oldF w])
      (fun i => i.1 ≤ l.length ∧ (i.2 = 0 ↔ l.take i.1 = m.take i.1)) (fun i => l.length - i.1) (0, 0) ⟨Nat.zero_le _, by simp⟩ (Ent.same ⟨rfl, rfl, rfl, rfl, rfl, trivial⟩ rfl) g ?_
    rintro ⟨i, acc⟩ ⟨hi, hacc⟩
    simp only at hi hacc
    refine BIf.dec (fun hlt => ?_) (fun hge => ?_)
    · have hlt : i < l.length := by omega
      have hlt2 : i < m.length := by omega
      obtain ⟨ad, hA⟩ := Bs.addr hl (by omega)
      obtain ⟨bd, hB⟩ := Bs.addr hm (by omega)
      refine draw_rule g p_hmac_Equal_7 (by kernel_rfl) _ _ Sub.refl ?_
      refine ⟨ad, i, hA, rfl, hlt, byte l[i], fun β w' hs => Bs.cell (Rd.old hl (hs.get 0 rfl)) hA hlt, ?_⟩
      refine ⟨bd, i, hB, rfl, hlt2, byte m[i], fun β w' hs => Bs.cell (Rd.old hm (hs.get 0 rfl)) hB hlt2, ?_⟩
      refine ⟨_, xor8 _ _, _, or8 _ _, ?_⟩
      refine ⟨((i + 1 : Nat) : Int), by rw [wrap_i64 (by omega) (by omega)]; rfl, ?_⟩
      refine ⟨(i + 1, acc ||| (l[i] ^^^ m[i])), ⟨hlt, ?_⟩, by show l.length - (i + 1) < l.length - i; omega, Ent.same ⟨rfl, rfl, rfl, rfl, rfl, trivial⟩ rfl⟩
      show acc ||| (l[i] ^^^ m[i]) = 0 ↔ l.take (i + 1) = m.take (i + 1)
      rw [take_snoc l i hlt, take_snoc m i hlt2, UInt8.or_eq_zero_iff, UInt8.xor_eq_zero_iff, hacc]
      constructor
      · rintro ⟨h1, h2⟩; rw [h1, h2]
      · intro h
        have := List.append_inj' h rfl
        exact ⟨this.1, by simpa using this.2⟩
    · have hi2 : i = l.length := by omega
      intro β w' hs
      refine ⟨?_, hs.chg⟩
      show Value.bool (decide ((acc.toNat : Int) = 0)) = _
      congr 1
      rw [hi2, List.take_length, List.take_of_length_le (by omega)] at hacc
      refine decide_eq_decide.2 ⟨fun h => hacc.1 (UInt8.toNat_inj.1 (by show acc.toNat = 0; omega)), fun h => by rw [hacc.2 h]; rfl⟩
  · intro β w' hs
    refine ⟨?_, hs.chg⟩
    show Value.bool false = _
    congr 1
    exact (decide_eq_false (fun h => h0 (by rw [h]))).symm
end Go.Proofs.YtlhcgofdfhfegaaGreatDoor.Sx

namespace Go.Proofs.YtlhcgofdfhfegaaGreatDoor.Sx
open Go
attribute [local irreducible] Calls
theorem and8 (a b : UInt8) : bits .and .u8 (a.toNat : Int) (b.toNat : Int) = ((a &&& b).toNat : Int) := by
  show IntKind.u8.wrap (((BitVec.ofInt 8 (a.toNat : Int)) &&& (BitVec.ofInt 8 (b.toNat : Int))).toNat : Int) = _
  rw [ofInt8, ofInt8, back8]
  rfl
theorem andNot8 (a b : UInt8) : bits .andNot .u8 (a.toNat : Int) (b.toNat : Int) = ((a &&& ~~~b).toNat : Int) := by
  show IntKind.u8.wrap (((BitVec.ofInt 8 (a.toNat : Int)) &&& ~~~(BitVec.ofInt 8 (b.toNat : Int))).toNat : Int) = _
  rw [ofInt8, ofInt8, back8]
  rfl
theorem wrap_i32 {x : Int} (h1 : -2147483648 ≤ x) (h2 : x ≤ 2147483647) : IntKind.i32.wrap x = x := by
  simp only [IntKind.wrap, IntKind.bits, IntKind.signed]
  simp
  omega
theorem cont_eq (b : UInt8) : ((b &&& ~~~63).toNat : Int) = 128 ↔ b.toNat / 64 = 2 := by
  have h : ∀ n : _root_.Fin 256, (((UInt8.ofNat n.1) &&& ~~~63).toNat = 128 ↔ (UInt8.ofNat n.1).toNat / 64 = 2) := by decide +kernel
  have h2 : (b &&& ~~~63).toNat = 128 ↔ b.toNat / 64 = 2 := Nam.u8_all (p := fun b => (b &&& ~~~63).toNat = 128 ↔ b.toNat / 64 = 2) h b
  omega
theorem low_eq (b : UInt8) : (b &&& 63).toNat = b.toNat % 64 := by
  have h : ∀ n : _root_.Fin 256, ((UInt8.ofNat n.1) &&& 63).toNat = (UInt8.ofNat n.1).toNat % 64 := by decide +kernel
  exact Nam.u8_all (p := fun b => (b &&& 63).toNat = b.toNat % 64) h b
theorem shl6_i32 {x : Nat} (hx : x < 33554432) : IntKind.i32.wrap ((x : Int) * 2 ^ (min (6 : Int).toNat IntKind.i32.bits)) = ((x * 64 : Nat) : Int) := by
  have h1 : min (6 : Int).toNat IntKind.i32.bits = 6 := rfl
  rw [h1, wrap_i32 (by omega) (by omega)]
  omega
theorem or6_i32 {x y : Nat} (hx : x < 33554432) (hy : y < 64) : bits .or .i32 ((x * 64 : Nat) : Int) (y : Int) = ((x * 64 + y : Nat) : Int) := by
  show IntKind.i32.wrap (((BitVec.ofInt 32 ((x * 64 : Nat) : Int)) ||| (BitVec.ofInt 32 (y : Int))).toNat : Int) = _
  have h1 : (BitVec.ofInt 32 ((x * 64 : Nat) : Int)).toNat = x <<< 6 := by
    rw [BitVec.toNat_ofInt, Nat.shiftLeft_eq]
    omega
  have h2 : (BitVec.ofInt 32 (y : Int)).toNat = y := by
    rw [BitVec.toNat_ofInt]
    omega
  rw [BitVec.toNat_or, h1, h2, ← Nat.shiftLeft_add_eq_or_of_lt (by omega) x, Nat.shiftLeft_eq, wrap_i32 (by omega) (by omega)]
theorem sign_c (w : World) (z : Int) (r : Nat) (hz : z = (r : Int)) : Pu Tryz.prog n_name_sign #[.int .i32 z] w (.bool (Nam.sign r)) := by
  refine con_of_sx (cx := cx_name_sign w (Un [])) (good_name_sign w (Un [])) b_name_sign rfl rfl (β := Va.z) [.c (.v (.int .i32 z))] 0 [] [] rfl rfl (Sat.start rfl) ?_
  have fin : ∀ (b : Bool), b = Nam.sign r → ∀ {n : Nat} {H : List Bk} {F : List Fact} (β : Va) (w' : World), Sat (cx_name_sign w (Un [])) β n H F w' → Fin w [] (fun u Fs => u = .bool (Nam.sign r) ∧ Fs = []) (.bool b) w' := by
    rintro b rfl n H F β w' hs
    exact (hs.keepB (List.nil_sublist _)).fin [] ⟨rfl, rfl⟩
  refine BIf.dec (fun h0 => ?_) (fun h0 => ?_)
  · refine BIf.dec (fun h1 => ?_) (fun h1 => ?_)
    · have h1' : z ≤ 1114111 := h1
      refine BIf.dec (fun h2 => ?_) (fun h2 => ?_)
      · have h2' : z < 55296 := h2
        refine fin true ?_
        unfold Nam.sign
        rw [decide_eq_true (by omega : r ≤ 1114111), decide_eq_true (by omega : r < 55296)]; rfl
      · have h2' : ¬ z < 55296 := h2
        refine fin (decide ((57343 : Int) < z)) ?_
        unfold Nam.sign
        rw [decide_eq_true (by omega : r ≤ 1114111), decide_eq_false (by omega : ¬ r < 55296), Bool.true_and, Bool.false_or]
        exact decide_eq_decide.2 (by omega)
    · have h1' : ¬ z ≤ 1114111 := h1
      refine fin false ?_
      unfold Nam.sign
      rw [decide_eq_false (by omega : ¬ r ≤ 1114111)]; rfl
  · have h0' : ¬ (0 : Int) ≤ z := h0
    omega
def formV (f : Nam.Fm) : List Value := [.int .i64 (f.size : Int), byte f.mask, byte f.lead, .int .i32 (f.least : Int)]
def formCells : List Value := Nam.fms.flatMap formV
def Forms (g : Nat) (w : World) : Prop := Rd 16 (some ⟨g, 0, none⟩) 1 formCells w
theorem Forms.old {g : Nat} {W w : World} (h : Forms g W) (ho : (oldF W).p w) : Forms g w := Rd.old h ho
def runeI : Option Nat → Int
  | some r => (r : Int)
  | none => -1
theorem form_at : ∀ {i : Nat} {f : Nam.Fm}, Nam.fms[i]? = some f → ((formCells.map SL.v).drop (i * 4)).take 4 = (formV f).map SL.v
  | 0, f, h => by cases h; rfl
  | 1, f, h => by cases h; rfl
  | 2, f, h => by cases h; rfl
  | 3, f, h => by cases h; rfl
  | n + 4, f, h => by simp [Nam.fms] at h
theorem tailR_snoc (b : UInt8) : ∀ (l : List UInt8) (r : Nat), Nam.tailR (l ++ [b]) r = match Nam.tailR l r with
    | some q => if b.toNat / 64 = 2 then some (q * 64 + b.toNat % 64) else none
    | none => none
  | [], r => rfl
  | x :: t, r => by
    simp only [List.cons_append, Nam.tailR]
    split
    · exact tailR_snoc b t _
    · rfl
theorem form_size {f : Nam.Fm} (h : f ∈ Nam.fms) : 1 ≤ f.size ∧ f.size ≤ 4 ∧ f.least ≤ 65536 := by
  simp only [Nam.fms, List.mem_cons, List.not_mem_nil, or_false] at h
  rcases h with rfl | rfl | rfl | rfl <;> decide
theorem decode_c (w : World) (s : ByteArray) (b0 : UInt8) (t : List UInt8) (hs0 : s.data.toList = b0 :: t) (hsz : s.size ≤ maxLen) (hf : Forms 7 w) :
    Pu Tryz.prog n_name_decode #[.string s] w (.tuple #[.int .i32 (runeI (Nam.decL (b0 :: t)).1), .int .i64 ((Nam.decL (b0 :: t)).2 : Int)]) := by
  have g := good_name_decode w (Un [])
  have hlen : s.size = (b0 :: t).length := by rw [← hs0]; rfl
  have hml := maxLen_eq
  refine con_of_sx (cx := cx_name_decode w (Un [])) g b_name_decode rfl rfl (β := Va.z) [.c (.v (.string s))] 0 [] [oldF w] rfl rfl (old_sat rfl) ?_
  refine ⟨formCells, rfl, fun β w' hs => ?_, ?_⟩
  · intro j u hu
    obtain ⟨ad, q, hc⟩ := (Forms.old hf (hs.get 0 rfl)).2 (by decide)
    cases q
    exact hc j u hu
  have bad : Nam.decL (b0 :: t) = (none, 1) → ∀ {n : Nat} {H : List Bk} {F : List Fact} (β : Va) (w' : World), Sat (cx_name_decode w (Un [])) β n H F w' → Fin w [] (fun u Fs => u = .tuple #[.int .i32 (runeI (Nam.decL (b0 :: t)).1), .int .i64 ((Nam.decL (b0 :: t)).2 : Int)] ∧ Fs = []) (.tuple #[.int .i32 (-1), .int .i64 1]) w' := by
    intro h n H F β w' hs
    rw [h]
    exact (hs.keepB (List.nil_sublist _)).fin [] ⟨rfl, rfl⟩
  refine loop_rule 0 (fun i : Nat => [(0, .c (.v (.string s))), (8, .agg (formCells.map SL.v)), (9, .c (.v (.int .i64 (i : Int))))]) (fun _ => []) (fun _ => [oldF w])
    (fun i => i ≤ 4 ∧ ∀ f ∈ Nam.fms.take i, Nam.fits f (b0 :: t) = false) (fun i => 4 - i) 0 ⟨Nat.zero_le _, fun f h => by cases h⟩ (Ent.same ⟨rfl, rfl, rfl, trivial⟩ rfl) g ?_
  rintro i ⟨hi, hno⟩
  have next : ∀ {f : Nam.Fm}, Nam.fms[i]? = some f → Nam.fits f (b0 :: t) = false → ∀ f ∈ Nam.fms.take (i + 1), Nam.fits f (b0 :: t) = false := by
    intro f hfi hff f' hf'
    rw [List.take_add_one, hfi] at hf'
    rcases List.mem_append.1 hf' with q | q
    · exact hno f' q
    · obtain rfl : f' = f := by simpa using q
      exact hff
  refine BIf.dec (fun hlt => ?_) (fun hge => ?_)
  · have hlt0 : (i : Int) < 4 := hlt
    have hi4 : i < Nam.fms.length := by show i < 4; omega
    obtain ⟨f, hfi, hfm⟩ := at_lt hi4
    have hfs := form_size hfm
    refine ⟨i, (formV f).map SL.v, rfl, by omega, form_at hfi, ?_⟩
    have hS : ∀ {n : Nat} {F : List Fact}, Sub (cx_name_decode w (Un [])) n [⟨0, ty_name_form, (formV f).map SL.v⟩] F [⟨0, ty_name_form, (formV f).map SL.v⟩] [] := fun {n F} => Sub.of (List.Sublist.refl _) (List.nil_sublist _)
    have hb0 : s.data.toList[0]? = some b0 := by rw [hs0]; rfl
    refine draw_rule g p_name_decode_4 (by kernel_rfl) [⟨0, ty_name_form, (formV f).map SL.v⟩] [] hS ?_
    refine ⟨0, b0, rfl, hb0, ?_⟩
    refine ⟨_, and8 b0 f.mask, ?_⟩
    refine BIf.not (BIf.dec (fun hm => ?_) (fun hm => ?_))
    · have hm1 : ((b0 &&& f.mask).toNat : Int) = (f.lead.toNat : Int) := hm
      have hm2 : b0 &&& f.mask = f.lead := UInt8.toNat_inj.1 (by omega)
      refine BIf.dec (fun hsh => ?_) (fun hsh => ?_)
      · have hsh1 : (s.size : Int) < (f.size : Int) := hsh
        have hff : Nam.fits f (b0 :: t) = false := by
          simp only [Nam.fits, hm2, decide_true, Bool.true_and]
          exact decide_eq_false (by omega)
        refine ⟨((i + 1 : Nat) : Int), by rw [wrap_i64 (by omega) (by omega)]; rfl, ?_⟩
        exact ⟨i + 1, ⟨by omega, next hfi hff⟩, by omega, Ent.mk' ⟨rfl, rfl, rfl, trivial⟩ rfl (fun β w hs => (hs.keepB (List.nil_sublist _)).lower)⟩
      · have hsh1 : ¬ (s.size : Int) < (f.size : Int) := hsh
        have hfl : f.size ≤ (b0 :: t).length := by omega
        have hdec : Nam.decL (b0 :: t) = match Nam.tryF f (b0 :: t) with | some r => (some r, f.size) | none => (none, 1) := by
          unfold Nam.decL
          rw [Nam.find_form hfm hm2, if_pos hfl]
          try rfl
        refine draw_rule g p_name_decode_5 (by kernel_rfl) [⟨0, ty_name_form, (formV f).map SL.v⟩] [] hS ?_
        refine ⟨0, b0, rfl, hb0, ?_⟩
        refine ⟨_, andNot8 b0 f.mask, ?_⟩
        obtain ⟨r0, hr0⟩ : ∃ r0, (b0 &&& ~~~f.mask).toNat = r0 := ⟨_, rfl⟩
        have hr0l : r0 < 256 := by rw [← hr0]; exact UInt8.toNat_lt _
        refine ⟨(r0 : Int), by rw [hr0]; exact wrap_i32 (by omega) (by omega), ?_⟩
        have hbad : Nam.tryF f (b0 :: t) = none → Nam.decL (b0 :: t) = (none, 1) := fun h => by rw [hdec, h]
        refine loop_rule (ι := Nat × Nat) 1 (fun q => [(0, .c (.v (.string s))), (5, .c (.p 0 0)), (6, .c (.v (.int .i32 (q.2 : Int)))), (7, .c (.v (.int .i64 (q.1 : Int))))]) (fun _ => [⟨0, ty_name_form, (formV f).map SL.v⟩]) (fun _ => [oldF w])
          (fun q => 1 ≤ q.1 ∧ q.1 ≤ f.size ∧ Nam.tailR (t.take (q.1 - 1)) r0 = some q.2 ∧ q.2 < 256 * 64 ^ (q.1 - 1)) (fun q => f.size - q.1) (1, r0) ⟨Nat.le_refl _, hfs.1, rfl, by simpa using hr0l⟩ (Ent.same ⟨rfl, rfl, rfl, rfl, trivial⟩ rfl) g ?_
        rintro ⟨k, r⟩ ⟨hk1, hk2, htl, hrb⟩
        simp only at hk1 hk2 htl hrb
        simp only
        refine BIf.dec (fun hks => ?_) (fun hks => ?_)
        · have hks1 : (k : Int) < (f.size : Int) := hks
          have hkt : k - 1 < t.length := by simp only [List.length_cons] at hfl; omega
          obtain ⟨c, hc, _⟩ := at_lt hkt
          have hcs : s.data.toList[k]? = some c := by
            rw [hs0]
            obtain ⟨k', rfl⟩ : ∃ k', k = k' + 1 := ⟨k - 1, by omega⟩
            simpa using hc
          have hsn : t.take k = t.take (k - 1) ++ [c] := by
            have := List.take_add_one (l := t) (i := k - 1)
            rw [hc, Nat.sub_add_cancel hk1] at this
            exact this
          have hrb2 : r < 33554432 := by
            have : 64 ^ (k - 1) ≤ 64 ^ 2 := Nat.pow_le_pow_right (by decide) (by omega)
            omega
          refine ⟨k, c, rfl, hcs, ?_⟩
          refine ⟨_, andNot8 c 63, ?_⟩
          refine BIf.not (BIf.dec (fun hct => ?_) (fun hct => ?_))
          · have hcc : c.toNat / 64 = 2 := (cont_eq c).1 hct
            refine ⟨by decide, _, shl6_i32 hrb2, ?_⟩
            refine ⟨k, c, rfl, hcs, ?_⟩
            refine ⟨_, and8 c 63, ?_⟩
            refine ⟨((c.toNat % 64 : Nat) : Int), by rw [low_eq]; exact wrap_i32 (by omega) (by omega), ?_⟩
            refine ⟨_, or6_i32 hrb2 (Nat.mod_lt _ (by decide)), ?_⟩
            refine ⟨((k + 1 : Nat) : Int), by rw [wrap_i64 (by omega) (by omega)]; rfl, ?_⟩
            refine ⟨(k + 1, r * 64 + c.toNat % 64), ⟨by show 1 ≤ k + 1; omega, by show k + 1 ≤ f.size; omega, ?_, ?_⟩, by show f.size - (k + 1) < f.size - k; omega, Ent.same ⟨rfl, rfl, rfl, rfl, trivial⟩ rfl⟩
            · show Nam.tailR (t.take (k + 1 - 1)) r0 = some (r * 64 + c.toNat % 64)
              rw [Nat.add_sub_cancel, hsn, tailR_snoc, htl]
              simp only
              rw [if_pos hcc]
            · show r * 64 + c.toNat % 64 < 256 * 64 ^ (k + 1 - 1)
              obtain ⟨k', rfl⟩ : ∃ k', k = k' + 1 := ⟨k - 1, by omega⟩
              simp only [Nat.add_sub_cancel] at hrb ⊢
              rw [Nat.pow_succ]
              omega
          · have hcc : ¬ c.toNat / 64 = 2 := fun q => hct ((cont_eq c).2 q)
            exact bad (hbad (by
              simp only [Nam.tryF]
              rw [Nam.tailR_none]
              refine ⟨c, ?_, hcc⟩
              have h2 : c ∈ t.take k := by rw [hsn]; simp
              exact List.take_subset_take_left t (by omega) h2))
        · have hks1 : ¬ (k : Int) < (f.size : Int) := hks
          obtain rfl : k = f.size := by omega
          have hmid : Nam.tryF f (b0 :: t) = if f.least ≤ r ∧ Nam.sign r = true then some r else none := by
            simp only [Nam.tryF, hr0, htl]
          refine BIf.dec (fun hls => ?_) (fun hls => ?_)
          · have hls1 : (f.least : Int) ≤ (r : Int) := hls
            refine call_pu (fun β w' hs => sign_c w' (r : Int) r rfl) ?_
            cases hsg : Nam.sign r with
            | true =>
              rw [if_pos ⟨by omega, hsg⟩] at hmid
              rw [hmid] at hdec
              refine draw_rule g p_name_decode_12 (by kernel_rfl) [⟨0, ty_name_form, (formV f).map SL.v⟩] [] hS ?_
              intro β w' hs
              rw [hdec]
              exact (hs.keepB (List.nil_sublist _)).fin [] ⟨rfl, rfl⟩
            | false => exact bad (hbad (by rw [hmid, if_neg (fun q => by rw [hsg] at q; cases q.2)]))
          · have hls1 : ¬ (f.least : Int) ≤ (r : Int) := hls
            exact bad (hbad (by rw [hmid, if_neg (fun q => hls1 (by have := q.1; omega))]))
    · have hm1 : ¬ ((b0 &&& f.mask).toNat : Int) = (f.lead.toNat : Int) := hm
      have hff : Nam.fits f (b0 :: t) = false := by
        simp only [Nam.fits]
        rw [decide_eq_false (fun q => hm1 (by rw [q]))]
        rfl
      refine ⟨((i + 1 : Nat) : Int), by rw [wrap_i64 (by omega) (by omega)]; rfl, ?_⟩
      exact ⟨i + 1, ⟨by omega, next hfi hff⟩, by omega, Ent.mk' ⟨rfl, rfl, rfl, trivial⟩ rfl (fun β w hs => (hs.keepB (List.nil_sublist _)).lower)⟩
  · have hge0 : ¬ (i : Int) < 4 := hge
    have hi4 : i = 4 := by omega
    subst hi4
    refine bad ?_
    unfold Nam.decL
    rw [List.find?_eq_none.2 (fun f hf q => by rw [hno f hf] at q; cases q)]
abbrev Sp := Int × Int
def spanV (x : Sp) : List Value := [.int .i32 x.1, .int .i32 x.2]
def inSp (z : Int) (l : List Sp) : Bool := l.any fun p => decide (p.1 ≤ z) && decide (z ≤ p.2)
theorem within_c (w : World) (z : Int) (A : Option Addr) (l : List Sp) (c : Nat) (hr : Rd 2 A l.length (l.flatMap spanV) w) (hn : l.length ≤ 1000) :
    Pu Tryz.prog n_name_within #[.int .i32 z, .slice A l.length c] w (.bool (inSp z l)) := by
  have g := good_name_within w (Un [])
  refine con_of_sx (cx := cx_name_within w (Un [])) g b_name_within rfl rfl (β := Va.z) [.c (.v (.int .i32 z)), .c (.v (.slice A l.length c))] 0 [] [oldF w] rfl rfl (old_sat rfl) ?_
  refine loop_rule 0 (fun k : Nat => [(0, .c (.v (.int .i32 z))), (7, .c (.v (.slice A l.length c))), (8, .c (.v (.int .i64 l.length))), (9, .c (.v (.int .i64 (k : Int))))]) (fun _ => []) (fun _ => [oldF w])
    (fun k => k ≤ l.length ∧ inSp z (l.take k) = false) (fun k => l.length - k) 0 ⟨Nat.zero_le _, rfl⟩ (Ent.same ⟨rfl, rfl, rfl, rfl, trivial⟩ rfl) g ?_
  rintro k ⟨hk, hno⟩
  refine BIf.dec (fun hlt => ?_) (fun hge => ?_)
  · have hlt0 : (k : Int) < l.length := hlt
    have hkl : k < l.length := by omega
    obtain ⟨x, hx, hxm⟩ := at_lt hkl
    obtain ⟨ad, hA, _⟩ := hr.2 (by omega)
    have hsn : inSp z (l.take (k + 1)) = (decide (x.1 ≤ z) && decide (z ≤ x.2)) := by
      rw [List.take_add_one, hx]
      unfold inSp at hno ⊢
      rw [List.any_append, hno]
      simp
    have next : inSp z (l.take (k + 1)) = false → Ent (cx_name_within w (Un [])) 1 [(0, .c (.v (.int .i32 z))), (7, .c (.v (.slice A l.length c))), (8, .c (.v (.int .i64 l.length))), (9, .c (.v (.int .i64 ((k + 1 : Nat) : Int))))] [] [oldF w] 0 [(0, .c (.v (.int .i32 z))), (7, .c (.v (.slice A l.length c))), (8, .c (.v (.int .i64 l.length))), (9, .c (.v (.int .i64 ((k + 1 : Nat) : Int))))] [] [oldF w] := fun _ => Ent.mk' ⟨rfl, rfl, rfl, rfl, trivial⟩ rfl (fun β w hs => hs.lower)
    refine ⟨ad, k, hA, rfl, hkl, spanV x, rfl, fun β w' hs => ?_, ?_⟩
    · have h := Rd.old hr (hs.get 0 rfl)
      obtain ⟨hil, hie⟩ := List.getElem?_eq_some_iff.1 hx
      have h2 := Rd.elem (f := spanV) (fun _ => rfl) h hA hil
      rw [hie] at h2
      exact h2
    · refine BIf.dec (fun h1 => ?_) (fun h1 => ?_)
      · have h1' : x.1 ≤ z := h1
        refine BIf.dec (fun h2 => ?_) (fun h2 => ?_)
        · have h2' : z ≤ x.2 := h2
          intro β w' hs
          refine (hs.keepB (List.nil_sublist _)).fin [] ⟨?_, rfl⟩
          show Value.bool true = _
          congr 1
          refine (List.any_eq_true.2 ⟨x, hxm, ?_⟩).symm
          rw [decide_eq_true h1', decide_eq_true h2']
          rfl
        · have h2' : ¬ z ≤ x.2 := h2
          refine ⟨((k + 1 : Nat) : Int), by rw [wrap_i64 (by omega) (by omega)]; rfl, ?_⟩
          exact ⟨k + 1, ⟨hkl, by rw [hsn, decide_eq_false h2', Bool.and_false]⟩, by omega, Ent.mk' ⟨rfl, rfl, rfl, rfl, trivial⟩ rfl (fun β w hs => (hs.keepB (List.nil_sublist _)).lower)⟩
      · have h1' : ¬ x.1 ≤ z := h1
        refine ⟨((k + 1 : Nat) : Int), by rw [wrap_i64 (by omega) (by omega)]; rfl, ?_⟩
        exact ⟨k + 1, ⟨hkl, by rw [hsn, decide_eq_false h1', Bool.false_and]⟩, by omega, Ent.mk' ⟨rfl, rfl, rfl, rfl, trivial⟩ rfl (fun β w hs => (hs.keepB (List.nil_sublist _)).lower)⟩
  · have hge0 : ¬ (k : Int) < l.length := hge
    obtain rfl : k = l.length := by omega
    rw [List.take_length] at hno
    intro β w' hs
    refine hs.fin [] ⟨?_, rfl⟩
    rw [hno]
    rfl
abbrev Rn := Nat × Int
def runesAt (l : List UInt8) (i : Nat) : List Rn := if h : i < l.length then (i, runeI (Nam.decL (l.drop i)).1) :: runesAt l (i + max 1 (Nam.decL (l.drop i)).2) else []
termination_by l.length - i
decreasing_by omega
theorem runesAt_end {l : List UInt8} {i : Nat} (h : ¬ i < l.length) : runesAt l i = [] := by rw [runesAt, dif_neg h]
theorem drop_ne {l : List UInt8} {i : Nat} (h : i < l.length) : l.drop i ≠ [] := fun q => by
  have := congrArg List.length q
  rw [List.length_drop] at this
  simp at this
  omega
theorem runesAt_cons {l : List UInt8} {i : Nat} (h : i < l.length) : runesAt l i = (i, runeI (Nam.decL (l.drop i)).1) :: runesAt l (i + (Nam.decL (l.drop i)).2) := by
  have h1 := Nam.decL_size (drop_ne h)
  rw [runesAt, dif_pos h, Nat.max_eq_right h1.1]
theorem runesAt_vals (l : List UInt8) : ∀ (k i : Nat), l.length - i ≤ k → (runesAt l i).map (·.2) = (Nam.runes (l.drop i)).map runeI := by
  intro k
  induction k with
  | zero =>
    intro i h
    rw [runesAt_end (by omega), List.drop_eq_nil_of_le (by omega), Nam.runes_nil]
    rfl
  | succ k ih =>
    intro i h
    by_cases hi : i < l.length
    · have h1 := Nam.decL_size (drop_ne hi)
      rw [runesAt_cons hi, Nam.runes_cons (drop_ne hi), List.map_cons, List.map_cons, ih _ (by omega), List.drop_drop]
    · rw [runesAt_end hi, List.drop_eq_nil_of_le (by omega), Nam.runes_nil]
      rfl
def insR (t : List UInt8) (pre : List Rn) (x : Rn) (args : Array Value) (X : Fact) : Prop := args = #[.int .i64 (x.1 : Int), .int .i32 x.2] ∧ X = noF ∧ ∃ r, runesAt t 0 = pre ++ x :: r
def runesEnd (l : List UInt8) (J Jx : List Rn → Fact → Prop) (Fs : List Fact) : Prop :=
  ∃ f Fs', Fs = f :: Fs' ∧ ((∃ xs, J xs f ∧ xs = runesAt l 0 ∧ Fs' = []) ∨ (∃ pre, Jx pre f ∧ (∃ r, runesAt l 0 = pre ++ r) ∧ Fs' = []))
def formF : Fact := rdF 16 (some ⟨7, 0, none⟩) 1 formCells
theorem extract_drop (s : ByteArray) (i : Nat) : (s.extract i s.size).data.toList = s.data.toList.drop i := by
  rw [ByteArray.data_extract, Array.toList_extract, List.extract_eq_take_drop]
  rw [List.take_of_length_le]
  rw [List.length_drop]
  exact Nat.le_refl _
theorem runes_it (l : Nat) (w : World) (bx : Nat) (s : ByteArray) (f0 R : Fact) (J Jx : List Rn → Fact → Prop) (hJ0 : J [] f0) (hJo : ∀ pre f, J pre f → f.own = true) (hRo : R.own = false) (hY : Yc Tryz.prog l J Jx R (insR s.data.toList))
    (hl : s.size ≤ 1000000) (hm : Mem w (f0 :: R :: [bkF bx ty_string [.string s], formF])) :
    Con Tryz.prog n_name_Runes_1 #[.func (.yield l) #[] #[], .pointer (some ⟨bx, 0, none⟩)] w [f0, bkF bx ty_string [.string s]] (fun _ Fs => runesEnd s.data.toList J Jx Fs) := by
  have g := good_name_Runes_1 w (Un [f0, bkF bx ty_string [.string s]]) [bx]
  have hs0 : Sat (cx_name_Runes_1 w (Un [f0, bkF bx ty_string [.string s]]) [bx]) (Va.of fun _ => bx) 1 [] (f0 :: R :: [bkF bx ty_string [.string s], formF]) w := by
    refine hm.sat rfl (fun f hf ho k hk => ?_) ⟨Nat.le_refl 1, fun i hi => by obtain rfl : i = 0 := Nat.lt_one_iff.1 hi; rfl⟩
    simp only [List.mem_cons, List.not_mem_nil, or_false] at hf
    rcases hf with rfl | rfl | rfl | rfl
    · exact ⟨_, by simp, hk⟩
    · rw [hRo] at ho; cases ho
    · exact ⟨_, by simp, hk⟩
    · cases ho
  have hs1 := hs0.toBk 2 rfl 0 Nat.zero_lt_one rfl
  have hlen : s.data.toList.length = s.size := rfl
  have hml := maxLen_eq
  refine con_of_sx (cx := cx_name_Runes_1 w (Un [f0, bkF bx ty_string [.string s]]) [bx]) g b_name_Runes_1 rfl rfl (β := Va.of fun _ => bx) [.c (.v (.func (.yield l) #[] #[])), .c (.p 0 0)] 1 _ _ rfl rfl hs1 ?_
  refine loop_rule (ι := List Rn × Nat × Fact) 1 (fun i => [(0, .c (.v (.func (.yield l) #[] #[]))), (1, .c (.p 0 0)), (3, .c (.v (.int .i64 (i.2.1 : Int))))]) (fun _ => [⟨0, ty_string, [.v (.string s)]⟩]) (fun i => [i.2.2, R, formF])
    (fun i => J i.1 i.2.2 ∧ runesAt s.data.toList 0 = i.1 ++ runesAt s.data.toList i.2.1 ∧ i.2.1 ≤ s.size) (fun i => s.size - i.2.1) ([], 0, f0) ⟨hJ0, rfl, Nat.zero_le _⟩ (Ent.same ⟨rfl, rfl, rfl, trivial⟩ rfl) g ?_
  rintro ⟨pre, i, f⟩ ⟨hJ, hsc, hi⟩
  simp only at hJ hsc hi
  have hfo := hJo _ _ hJ
  simp only
  refine BIf.dec (fun hlt => ?_) (fun hge => ?_)
  · have hlt0 : (i : Int) < s.size := hlt
    have hil : i < s.data.toList.length := by omega
    refine ⟨s.size, i, rfl, rfl, Nat.le_refl _, hi, ?_⟩
    have hd := Nam.decL_size (drop_ne hil)
    rw [List.length_drop] at hd
    rw [runesAt_cons hil] at hsc
    obtain ⟨b0, t, hbt⟩ : ∃ b0 t, s.data.toList.drop i = b0 :: t := by
      cases h : s.data.toList.drop i with
      | nil => exact absurd h (drop_ne hil)
      | cons b t => exact ⟨b, t, rfl⟩
    obtain ⟨o, n, hon⟩ : ∃ o n, Nam.decL (s.data.toList.drop i) = (o, n) := ⟨_, _, rfl⟩
    rw [hon] at hd hsc
    simp only at hd hsc
    refine call_pu (v := .tuple #[.int .i32 (runeI o), .int .i64 (n : Int)]) (fun β w' hs => by
      have h := decode_c w' (s.extract i s.size) b0 t (by rw [extract_drop, hbt]) (by rw [ByteArray.size_extract]; omega) (hs.get 2 rfl)
      rw [← hbt, hon] at h
      exact h) ?_
    refine yield_ro (X := noF) (x := (i, runeI o)) hY 0 1 rfl hJ hfo rfl hRo (by decide) (fun β => ⟨rfl, rfl, _, hsc⟩) rfl (fun β w _ => ⟨trivial, fun k hk => hk.elim, fun k _ h => h.elim⟩) ?_ ?_
    · intro f2 hfo2 hJ2
      refine ⟨((i + n : Nat) : Int), by rw [wrap_i64 (by omega) (by omega)]; rfl, ?_⟩
      exact ⟨(pre ++ [(i, runeI o)], i + n, f2), ⟨hJ2, by show runesAt s.data.toList 0 = pre ++ [(i, runeI o)] ++ runesAt s.data.toList (i + n); rw [hsc]; simp, by show i + n ≤ s.size; omega⟩, by show s.size - (i + n) < s.size - i; omega, Ent.same ⟨rfl, rfl, rfl, trivial⟩ rfl⟩
    · intro f2 hfo2 hJ2 β w' hs
      exact (hs.keepB (List.nil_sublist _)).fin [0] ⟨f2, [], rfl, .inr ⟨_, hJ2, ⟨runesAt s.data.toList (i + n), by rw [hsc]; simp⟩, rfl⟩⟩ rfl rfl rfl ⟨hfo2, trivial⟩
  · have hge0 : ¬ (i : Int) < s.size := hge
    rw [runesAt_end (l := s.data.toList) (i := i) (by omega), List.append_nil] at hsc
    intro β w' hs
    exact (hs.keepB (List.nil_sublist _)).fin [0] ⟨f, [], rfl, .inl ⟨pre, hJ, hsc.symm, rfl⟩⟩ rfl rfl rfl ⟨hfo, trivial⟩
theorem runes_c (w : World) (s : ByteArray) : Con Tryz.prog n_name_Runes #[.string s] w [] (fun v Fs => ∃ bx, v = .func (.func n_name_Runes_1) #[] #[.pointer (some ⟨bx, 0, none⟩)] ∧ Fs = [bkF bx ty_string [.string s]]) := by
  refine con_of_sx (cx := cx_name_Runes w (Un [])) (good_name_Runes w (Un [])) b_name_Runes rfl rfl (β := Va.z) [.c (.v (.string s))] 0 [] [] rfl rfl (Sat.start rfl) ?_
  intro β w' hs
  exact hs.ofBk.fin [0] ⟨β 0, rfl, rfl⟩
def validB (l : List UInt8) : Bool := (Nam.runes l).all Option.isSome
theorem runeI_none {o : Option Nat} : runeI o = -1 ↔ o = none := by
  cases o with
  | none => simp [runeI]
  | some r => simp only [runeI]; constructor
              · intro h; omega
              · intro h; cases h
theorem valid_iff (l : List UInt8) : validB l = true ↔ ∀ x ∈ runesAt l 0, x.2 ≠ -1 := by
  have h := runesAt_vals l _ 0 (Nat.le_refl _)
  rw [List.drop_zero] at h
  unfold validB
  rw [List.all_eq_true]
  constructor
  · intro hv x hx q
    have : x.2 ∈ (runesAt l 0).map (·.2) := List.mem_map.2 ⟨x, hx, rfl⟩
    rw [h] at this
    obtain ⟨o, ho, hq⟩ := List.mem_map.1 this
    have h2 := hv o ho
    rw [q] at hq
    rw [runeI_none.1 hq] at h2
    cases h2
  · intro hv o ho
    cases o with
    | some r => rfl
    | none =>
      have : runeI none ∈ (Nam.runes l).map runeI := List.mem_map.2 ⟨none, ho, rfl⟩
      rw [← h] at this
      obtain ⟨x, hx, hq⟩ := List.mem_map.1 this
      exact absurd hq (hv x hx)
theorem valid_c (w0 : World) (s : ByteArray) (hl : s.size ≤ 1000000) (hf : Forms 7 w0) : Pu Tryz.prog n_name_Valid #[.string s] w0 (.bool (validB s.data.toList)) := by
  have g := good_name_Valid w0 (Un [])
  refine con_of_sx (cx := cx_name_Valid w0 (Un [])) g b_name_Valid rfl rfl (β := Va.z) [.c (.v (.string s))] 0 [] [formF] rfl rfl ((Sat.start rfl).rd (fun _ h => by cases h) hf) ?_
  refine call_con [] (fun β w hs => runes_c w s) ?_
  rintro v Fs ⟨bx, rfl, rfl⟩
  refine range_rule (α := Rn) (ι := Unit) (κ := Unit) g rfl (cv := [.pointer (some ⟨bx, 0, none⟩)]) rfl (by kernel_rfl) 1 (Nat.le_refl 1)
    (fun pre _ => ∀ x ∈ pre, x.2 ≠ -1) (fun _ => [⟨0, ty_bool, [.v (.bool false)]⟩]) (fun _ => []) (fun _ => trivial)
    (fun e pre _ => e = .ret ∧ ∃ x ∈ pre, x.2 = -1) (fun _ => [⟨0, ty_bool, [.v (.bool false)]⟩]) (fun _ => []) (fun _ => trivial)
    [bkF bx ty_string [.string s]] [formF] [] ⟨rfl, trivial⟩ (fun g h => by cases h) () (fun x h => by cases h) (fun β w hs => ⟨β, Agr.refl _ _, hs⟩) (insR s.data.toList)
    (fun xs Fs' => xs = runesAt s.data.toList 0 ∧ Fs' = []) (fun pre Fs' => (∃ r, runesAt s.data.toList 0 = pre ++ r) ∧ Fs' = [])
    (fun l w f0 R J Jx hJ0 hJo hRo hY hm => (runes_it l w bx s f0 R J Jx hJ0 hJo hRo hY hl hm).mono fun _ Fs h => h) ?_ ?_ ?_
  · rintro ⟨⟩ pre x args X W S l bs pn pn' hbs hpre ⟨rfl, rfl, _⟩
    refine ⟨_, rfl, ?_⟩
    refine BIf.dec (fun h3 => ?_) (fun h3 => ?_)
    · have h30 : x.2 = -1 := h3
      exact ⟨(), ⟨rfl, x, by simp, h30⟩, Ent.mk' trivial rfl (fun β w hs => (hs.perm []).lower (n' := 1))⟩
    · have h30 : ¬ x.2 = -1 := h3
      refine ⟨(), ?_, Ent.mk' trivial rfl (fun β w hs => (hs.perm []).lower (n' := 1))⟩
      intro y hy
      rcases List.mem_append.1 hy with hy | hy
      · exact hpre y hy
      · obtain rfl := List.mem_singleton.1 hy; exact h30
  · rintro xs ⟨⟩ Fs hpre ⟨rfl, rfl⟩
    intro β w' hs
    refine (hs.keepB (List.nil_sublist _)).fin [] ⟨?_, rfl⟩
    rw [(valid_iff _).2 hpre]
    rfl
  · rintro e pre ⟨⟩ Fs ⟨rfl, x, hx, hxe⟩ ⟨⟨r, hr⟩, rfl⟩
    intro β w' hs
    refine (hs.keepB (List.nil_sublist _)).fin [] ⟨?_, rfl⟩
    have : validB s.data.toList = false := by
      cases h : validB s.data.toList with
      | false => rfl
      | true => exact absurd hxe ((valid_iff _).1 h x (by rw [hr]; exact List.mem_append.2 (.inl hx)))
    rw [this]
    rfl
def blanksL : List Sp := [(0xa0, 0xa0), (0x1680, 0x1680), (0x2000, 0x200a), (0x202f, 0x202f), (0x205f, 0x205f), (0x3000, 0x3000)]
def nothingL : List Sp := [(0xad, 0xad), (0x200b, 0x200d), (0x2060, 0x2060), (0xfe00, 0xfe0f), (0xfeff, 0xfeff)]
def barredL : List Sp := [(0, 0x1f), (0x7f, 0x9f), (0x2028, 0x2029), (0x202a, 0x202e), (0x2066, 0x2069), (0xe000, 0xf8ff), (0xf0000, 0x10ffff), (0xfff9, 0xfffd), (0xfdd0, 0xfdef)]
def spansF (g : Nat) (l : List Sp) : Fact := rdF 2 (some ⟨g, 0, none⟩) l.length (l.flatMap spanV)
def prep1 (z : Int) : List Int := if inSp z blanksL = true then [32] else if inSp z nothingL = true then [] else [z]
def prepAt (l : List Rn) : List Int := l.flatMap fun x => prep1 x.2
def insPr (t : List UInt8) (pre : List Int) (z : Int) (args : Array Value) (X : Fact) : Prop := args = #[.int .i32 z] ∧ X = noF ∧ ∃ r, prepAt (runesAt t 0) = pre ++ z :: r
def prepEnd (t : List UInt8) (J Jx : List Int → Fact → Prop) (Fs : List Fact) : Prop :=
  ∃ f Fs', Fs = f :: Fs' ∧ ((∃ xs, J xs f ∧ xs = prepAt (runesAt t 0) ∧ Fs' = []) ∨ (∃ pre, Jx pre f ∧ (∃ r, prepAt (runesAt t 0) = pre ++ r) ∧ Fs' = []))
abbrev OF := { f : Fact // f.own = true }
theorem prep_it (l : Nat) (w : World) (bx : Nat) (s : ByteArray) (f0 R : Fact) (J Jx : List Int → Fact → Prop) (hJ0 : J [] f0) (hJo : ∀ pre f, J pre f → f.own = true) (hRo : R.own = false) (hY : Yc Tryz.prog l J Jx R (insPr s.data.toList))
    (hl : s.size ≤ 1000000) (hm : Mem w (f0 :: R :: [bkF bx ty_string [.string s], formF, spansF 5 blanksL, spansF 6 nothingL])) :
    Con Tryz.prog n_name_prepared_1 #[.func (.yield l) #[] #[], .pointer (some ⟨bx, 0, none⟩)] w [f0, bkF bx ty_string [.string s]] (fun _ Fs => prepEnd s.data.toList J Jx Fs) := by
  have g := good_name_prepared_1 w (Un [f0, bkF bx ty_string [.string s]]) [bx]
  have hf0 := hJo _ _ hJ0
  have hs0 : Sat (cx_name_prepared_1 w (Un [f0, bkF bx ty_string [.string s]]) [bx]) (Va.of fun _ => bx) 1 [] (f0 :: R :: [bkF bx ty_string [.string s], formF, spansF 5 blanksL, spansF 6 nothingL]) w := by
    refine hm.sat rfl (fun f hf ho k hk => ?_) ⟨Nat.le_refl 1, fun i hi => by obtain rfl : i = 0 := Nat.lt_one_iff.1 hi; rfl⟩
    simp only [List.mem_cons, List.not_mem_nil, or_false] at hf
    rcases hf with rfl | rfl | rfl | rfl | rfl | rfl
    · exact ⟨_, by simp, hk⟩
    · rw [hRo] at ho; cases ho
    · exact ⟨_, by simp, hk⟩
    · cases ho
    · cases ho
    · cases ho
  have hs1 := hs0.toBk 2 rfl 0 Nat.zero_lt_one rfl
  refine con_of_sx (cx := cx_name_prepared_1 w (Un [f0, bkF bx ty_string [.string s]]) [bx]) g b_name_prepared_1 rfl rfl (β := Va.of fun _ => bx) [.c (.v (.func (.yield l) #[] #[])), .c (.p 0 0)] 1 _ _ rfl rfl hs1 ?_
  refine call_con [] (fun β w hs => runes_c w s) ?_
  rintro v Fs ⟨bx2, rfl, rfl⟩
  refine range_rule (α := Rn) (ι := OF) (κ := OF) g rfl (cv := [.pointer (some ⟨bx2, 0, none⟩)]) rfl (by kernel_rfl) 2 (Nat.le_refl 2)
    (fun pre i => J (prepAt pre) i.1) (fun _ => [⟨1, 271, [.v (.func (.yield l) #[] #[])]⟩]) (fun i => [i.1]) (fun i => ⟨i.2, trivial⟩)
    (fun e pre i => e = .ret ∧ ∃ p, (∃ r, prepAt pre = p ++ r) ∧ Jx p i.1) (fun _ => [⟨1, 271, [.v (.func (.yield l) #[] #[])]⟩]) (fun i => [i.1]) (fun i => ⟨i.2, trivial⟩)
    [bkF bx2 ty_string [.string s]] [formF] [R, spansF 5 blanksL, spansF 6 nothingL] ⟨rfl, trivial⟩ (fun g h => by
      simp only [List.mem_cons, List.not_mem_nil, or_false] at h
      rcases h with rfl | rfl | rfl
      · exact hRo
      · rfl
      · rfl) ⟨f0, hf0⟩ hJ0 (fun β w hs => ⟨β, Agr.refl _ _, ?_⟩) (insR s.data.toList)
    (fun xs Fs' => xs = runesAt s.data.toList 0 ∧ Fs' = []) (fun pre Fs' => (∃ r, runesAt s.data.toList 0 = pre ++ r) ∧ Fs' = [])
    (fun l w f0 R J Jx hJ0 hJo hRo hY hm => (runes_it l w bx2 s f0 R J Jx hJ0 hJo hRo hY hl hm).mono fun _ Fs h => h) ?_ ?_ ?_
  · exact (hs.keepB (List.Sublist.cons_cons _ (List.nil_sublist _))).perm [0, 3, 1, 2, 4, 5]
  · rintro ⟨f, hfo⟩ pre x args X W S l' bs pn pn' hbs hJ ⟨rfl, rfl, r0, hxr⟩
    simp only at hJ
    refine ⟨_, rfl, ?_⟩
    obtain ⟨b1, hb1⟩ : ∃ b1, inSp x.2 blanksL = b1 := ⟨_, rfl⟩
    obtain ⟨b2, hb2⟩ : ∃ b2, inSp x.2 nothingL = b2 := ⟨_, rfl⟩
    refine ⟨6, 6, 0, 6, 6, _, rfl, rfl, rfl, Nat.le_refl _, Nat.le_refl _, Nat.zero_le _, rfl, rfl, rfl, ?_⟩
    refine call_pu (v := .bool b1) (fun β w' hs => by
      have h := within_c w' x.2 (some ⟨5, 0, none⟩) blanksL 6 (hs.get 3 rfl) (by decide)
      rw [hb1] at h
      exact h) ?_
    have hsn : prepAt (pre ++ [x]) = prepAt pre ++ prep1 x.2 := by simp [prepAt]
    cases b1 with
    | true =>
      have hz : prep1 x.2 = [32] := by unfold prep1; rw [if_pos hb1]
      refine yield_ro (X := noF) (x := 32) hY 1 2 rfl hJ hfo rfl hRo (by decide) (fun β => ⟨rfl, rfl, prepAt r0, by rw [hxr]; simp [prepAt, hz]⟩) rfl (fun β w _ => ⟨trivial, fun k hk => hk.elim, fun k _ h => h.elim⟩) ?_ ?_
      · intro f2 hfo2 hJ2
        exact ⟨⟨f2, hfo2⟩, by show J (prepAt (pre ++ [x])) f2; rw [hsn, hz]; exact hJ2, Ent.mk' trivial rfl (fun β w hs => (hs.perm [0]).lower (n' := 2))⟩
      · intro f2 hfo2 hJ2
        exact ⟨⟨f2, hfo2⟩, ⟨rfl, prepAt pre ++ [32], ⟨[], by rw [hsn, hz]; simp⟩, hJ2⟩, Ent.mk' trivial rfl (fun β w hs => (hs.perm [0]).lower (n' := 2))⟩
    | false =>
      refine ⟨5, 5, 0, 5, 5, _, rfl, rfl, rfl, Nat.le_refl _, Nat.le_refl _, Nat.zero_le _, rfl, rfl, rfl, ?_⟩
      refine call_pu (v := .bool b2) (fun β w' hs => by
        have h := within_c w' x.2 (some ⟨6, 0, none⟩) nothingL 5 (hs.get 4 rfl) (by decide)
        rw [hb2] at h
        exact h) ?_
      cases b2 with
      | true =>
        have hz : prep1 x.2 = [] := by unfold prep1; rw [if_neg (by rw [hb1]; decide), if_pos hb2]
        exact ⟨⟨f, hfo⟩, by show J (prepAt (pre ++ [x])) f; rw [hsn, hz, List.append_nil]; exact hJ, Ent.mk' trivial rfl (fun β w hs => (hs.perm [1]).lower (n' := 2))⟩
      | false =>
        have hz : prep1 x.2 = [x.2] := by unfold prep1; rw [if_neg (by rw [hb1]; decide), if_neg (by rw [hb2]; decide)]
        refine yield_ro (X := noF) (x := x.2) hY 1 2 rfl hJ hfo rfl hRo (by decide) (fun β => ⟨rfl, rfl, prepAt r0, by rw [hxr]; simp [prepAt, hz]⟩) rfl (fun β w _ => ⟨trivial, fun k hk => hk.elim, fun k _ h => h.elim⟩) ?_ ?_
        · intro f2 hfo2 hJ2
          exact ⟨⟨f2, hfo2⟩, by show J (prepAt (pre ++ [x])) f2; rw [hsn, hz]; exact hJ2, Ent.mk' trivial rfl (fun β w hs => (hs.perm [0]).lower (n' := 2))⟩
        · intro f2 hfo2 hJ2
          exact ⟨⟨f2, hfo2⟩, ⟨rfl, prepAt pre ++ [x.2], ⟨[], by rw [hsn, hz]; simp⟩, hJ2⟩, Ent.mk' trivial rfl (fun β w hs => (hs.perm [0]).lower (n' := 2))⟩
  · rintro xs ⟨f, hfo⟩ Fs hJ ⟨rfl, rfl⟩
    intro β w' hs
    exact (hs.keepB (List.nil_sublist _)).fin [0] ⟨f, [], rfl, .inl ⟨_, hJ, rfl, rfl⟩⟩ rfl rfl rfl ⟨hfo, trivial⟩
  · rintro e pre ⟨f, hfo⟩ Fs ⟨rfl, p, ⟨r, hp⟩, hJx⟩ ⟨⟨r2, hr⟩, rfl⟩
    intro β w' hs
    refine (hs.keepB (List.nil_sublist _)).fin [0] ⟨f, [], rfl, .inr ⟨p, hJx, ⟨r ++ prepAt r2, ?_⟩, rfl⟩⟩ rfl rfl rfl ⟨hfo, trivial⟩
    rw [hr, prepAt, List.flatMap_append, ← prepAt, hp, List.append_assoc]
    rfl
theorem prepared_c (w : World) (s : ByteArray) : Con Tryz.prog n_name_prepared #[.string s] w [] (fun v Fs => ∃ bx, v = .func (.func n_name_prepared_1) #[] #[.pointer (some ⟨bx, 0, none⟩)] ∧ Fs = [bkF bx ty_string [.string s]]) := by
  refine con_of_sx (cx := cx_name_prepared w (Un [])) (good_name_prepared w (Un [])) b_name_prepared rfl rfl (β := Va.z) [.c (.v (.string s))] 0 [] [] rfl rfl (Sat.start rfl) ?_
  intro β w' hs
  exact hs.ofBk.fin [0] ⟨β 0, rfl, rfl⟩
def form0 : Nam.Fm := ⟨1, 0x80, 0, 0⟩
def pickF (r : Nat) (f g : Nam.Fm) : Nam.Fm := if g.least ≤ r then g else f
def formOf (r : Nat) : Nam.Fm := Nam.fms.foldl (pickF r) form0
def encGo (f : Nam.Fm) (r : Nat) : Nat → List UInt8
  | 0 => []
  | k + 1 => (if k = f.size - 1 then f.lead ||| UInt8.ofNat (r / 2 ^ (6 * k)) else 128 ||| (UInt8.ofNat (r / 2 ^ (6 * k)) &&& 63)) :: encGo f r k
def encL (r : Nat) : List UInt8 := encGo (formOf r) r (formOf r).size
theorem encGo_len (f : Nam.Fm) (r : Nat) : ∀ k, (encGo f r k).length = k
  | 0 => rfl
  | k + 1 => by simp [encGo, encGo_len f r k]
theorem fold_mem (r : Nat) : ∀ (l : List Nam.Fm) (f : Nam.Fm), f ∈ Nam.fms → (∀ g ∈ l, g ∈ Nam.fms) → l.foldl (pickF r) f ∈ Nam.fms
  | [], _, hf, _ => hf
  | g :: l, f, hf, h => by
    rw [List.foldl_cons]
    refine fold_mem r l _ ?_ (fun x hx => h x (List.mem_cons_of_mem _ hx))
    unfold pickF
    split
    · exact h g List.mem_cons_self
    · exact hf
theorem form0_mem : form0 ∈ Nam.fms := List.mem_cons_self
structure EnS where
  k : Nat
  acc : List UInt8
  A : Option Addr
  c : Nat
theorem append_c (w : World) (A : Option Addr) (l : List UInt8) (c r : Nat) (z : Int) (hz : z = (r : Int)) (hr31 : r ≤ 1114111) (hsg : Nam.sign r = true) (hr : Bs w A l) (hn : l.length ≤ 1000000000) (hf : Forms 7 w) :
    Con Tryz.prog n_name_Append #[.slice A l.length c, .int .i32 z] w [] fun v Fs => ∃ A' c', v = .slice A' (l ++ encL r).length c' ∧ (l ++ encL r).length ≤ c' ∧ c' ≤ maxLen ∧ Fs = [browF ty_uint8 A' (l ++ encL r) c'] := by
  have g := good_name_Append w (Un [])
  have hml := maxLen_eq
  refine con_of_sx (cx := cx_name_Append w (Un [])) g b_name_Append rfl rfl (β := Va.z) [.c (.v (.slice A l.length c)), .c (.v (.int .i32 z))] 0 [] [oldF w] rfl rfl (old_sat rfl) ?_
  refine call_pu (v := .bool true) (fun β w' hs => by
    have h := sign_c w' z r hz
    rw [hsg] at h
    exact h) ?_
  refine call_con [] (fun β w' hs => clone_c w' A l c (Rd.old hr (hs.get 0 rfl)) (by omega)) ?_
  rintro v Fs ⟨A1, c1, rfl, h1, h1m, rfl⟩
  have hcell : ∀ w', (oldF w).p w' → ∀ j u, formCells[j]? = some u → w'.cell? ((⟨7, 0, none⟩ : Addr).add j) = some u := by
    intro w' ho j u hu
    obtain ⟨ad, q, hc⟩ := (Forms.old hf ho).2 (by decide)
    cases q
    exact hc j u hu
  refine ⟨0, rfl, by decide, ?_⟩
  refine ⟨formV form0, rfl, fun β w' hs => ?_, ?_⟩
  · intro j u hu
    have hj : j < 4 := (List.getElem?_eq_some_iff.1 hu).1
    refine hcell w' (hs.get 1 rfl) j u ?_
    have : formCells[j]? = (formV form0)[j]? := by
      match j, hj with
      | 0, _ => rfl
      | 1, _ => rfl
      | 2, _ => rfl
      | 3, _ => rfl
    rw [this, hu]
  refine ⟨formCells, rfl, fun β w' hs => hcell w' (hs.get 1 rfl), ?_⟩
  refine loop_rule (ι := Nat) 1 (fun i => [(1, .c (.v (.int .i32 z))), (5, .c (.v (.slice A1 l.length c1))), (6, .c (.p 0 0)), (18, .agg (formCells.map SL.v)), (19, .c (.v (.int .i64 (i : Int))))]) (fun i => [⟨0, ty_name_form, (formV ((Nam.fms.take i).foldl (pickF r) form0)).map SL.v⟩]) (fun _ => [browF ty_uint8 A1 l c1, oldF w])
    (fun i => i ≤ 4) (fun i => 4 - i) 0 (Nat.zero_le _) (Ent.same ⟨rfl, rfl, rfl, rfl, rfl, trivial⟩ rfl) g ?_
  intro i hi
  refine BIf.dec (fun hlt => ?_) (fun hge => ?_)
  · have hlt0 : (i : Int) < 4 := hlt
    have hi4 : i < Nam.fms.length := by show i < 4; omega
    obtain ⟨f, hfi, hfm⟩ := at_lt hi4
    have hfold : (Nam.fms.take (i + 1)).foldl (pickF r) form0 = pickF r ((Nam.fms.take i).foldl (pickF r) form0) f := by
      rw [List.take_add_one, hfi, List.foldl_append]
      rfl
    refine ⟨i, (formV f).map SL.v, rfl, by omega, form_at hfi, ?_⟩
    refine BIf.dec (fun hls => ?_) (fun hls => ?_)
    · have hls1 : (f.least : Int) ≤ z := hls
      rw [pickF, if_pos (by omega)] at hfold
      refine ⟨((i + 1 : Nat) : Int), by rw [wrap_i64 (by omega) (by omega)]; rfl, ?_⟩
      refine ⟨i + 1, by omega, by omega, ?_⟩
      rw [hfold]
      exact Ent.mk' ⟨rfl, rfl, rfl, rfl, rfl, trivial⟩ rfl (fun β w hs => (hs.keepB (List.sublist_cons_self _ _)).lower)
    · have hls1 : ¬ (f.least : Int) ≤ z := hls
      rw [pickF, if_neg (by omega)] at hfold
      refine ⟨((i + 1 : Nat) : Int), by rw [wrap_i64 (by omega) (by omega)]; rfl, ?_⟩
      refine ⟨i + 1, by omega, by omega, ?_⟩
      rw [hfold]
      exact Ent.mk' ⟨rfl, rfl, rfl, rfl, rfl, trivial⟩ rfl (fun β w hs => (hs.keepB (List.sublist_cons_self _ _)).lower)
  · have hge0 : ¬ (i : Int) < 4 := hge
    obtain rfl : i = 4 := by omega
    have hfe : (Nam.fms.take 4).foldl (pickF r) form0 = formOf r := rfl
    rw [hfe]
    have hfs := form_size (fold_mem r Nam.fms form0 form0_mem (fun _ h => h))
    change 1 ≤ (formOf r).size ∧ (formOf r).size ≤ 4 ∧ _ at hfs
    unfold encL
    generalize formOf r = f at hfs ⊢
    refine ⟨(f.size : Int) - 1, wrap_i64 (by omega) (by omega), ?_⟩
    refine loop_rule (ι := EnS) 1 (fun i => [(1, .c (.v (.int .i32 z))), (5, .c (.v (.slice i.A i.acc.length i.c))), (6, .c (.p 0 0)), (9, .c (.v (.int .i64 ((i.k : Int) - 1))))]) (fun _ => [⟨0, ty_name_form, (formV f).map SL.v⟩]) (fun i => [browF ty_uint8 i.A i.acc i.c, oldF w])
      (fun i => i.acc ++ encGo f r i.k = l ++ encGo f r f.size ∧ i.k ≤ f.size ∧ i.acc.length ≤ i.c ∧ i.c ≤ maxLen ∧ i.acc.length + i.k = l.length + f.size) (fun i => i.k) ⟨f.size, l, A1, c1⟩ ⟨rfl, Nat.le_refl _, h1, h1m, rfl⟩ (Ent.same ⟨rfl, rfl, rfl, rfl, trivial⟩ rfl) g ?_
    rintro ⟨k, acc, A2, c2⟩ ⟨hinv, hk, hac, hcm, hlen⟩
    simp only at hinv hk hac hcm hlen
    simp only
    refine BIf.dec (fun hp => ?_) (fun hp => ?_)
    · have hp0 : (0 : Int) ≤ (k : Int) - 1 := hp
      obtain ⟨k', rfl⟩ : ∃ k', k = k' + 1 := ⟨k - 1, by omega⟩
      refine ⟨((6 * k' : Nat) : Int), by rw [wrap_i64 (by omega) (by omega)]; omega, ?_⟩
      refine ⟨by omega, ((r / 2 ^ (6 * k') : Nat) : Int), ?_, ?_⟩
      · have hmin : min ((6 * k' : Nat) : Int).toNat IntKind.i32.bits = 6 * k' := by show min (6 * k') 32 = _; omega
        rw [hmin, hz]
        exact shr_nat r (6 * k')
      refine ⟨(f.size : Int) - 1, wrap_i64 (by omega) (by omega), ?_⟩
      refine BIf.dec (fun he => ?_) (fun he => ?_)
      · have he0 : ((k' + 1 : Nat) : Int) - 1 = (f.size : Int) - 1 := he
        have henc : encGo f r (k' + 1) = (f.lead ||| UInt8.ofNat (r / 2 ^ (6 * k'))) :: encGo f r k' := by rw [encGo, if_pos (by omega)]
        refine ⟨_, wrap_u8b _, ?_⟩
        refine ⟨_, or8 f.lead (UInt8.ofNat (r / 2 ^ (6 * k'))), ?_⟩
        intro b0
        refine ⟨1, acc.length, acc.length + 1, acc.map byte, [f.lead ||| UInt8.ofNat (r / 2 ^ (6 * k'))].map byte, (acc ++ [f.lead ||| UInt8.ofNat (r / 2 ^ (6 * k'))]).map byte, rfl, fun β w hs => row_rd (hs.get 0 rfl), bytes_one _, rfl, List.map_append.symm, by rw [maxLen_eq]; omega, by show (acc.length + 1) * 1 ≤ _; omega, ?_⟩
        intro A' c' q1 q2 _
        refine ⟨(k' : Int) - 1, by rw [wrap_i64 (by omega) (by omega)]; omega, ?_⟩
        have hle : (acc ++ [f.lead ||| UInt8.ofNat (r / 2 ^ (6 * k'))]).length = acc.length + 1 := by simp
        refine ⟨⟨k', acc ++ [f.lead ||| UInt8.ofNat (r / 2 ^ (6 * k'))], A', c'⟩, ⟨by rw [← hinv, henc]; simp, by show k' ≤ f.size; omega, by show (acc ++ [f.lead ||| UInt8.ofNat (r / 2 ^ (6 * k'))]).length ≤ c'; omega, q2, by show (acc ++ [f.lead ||| UInt8.ofNat (r / 2 ^ (6 * k'))]).length + k' = _; omega⟩, by show k' < k' + 1; omega, ?_⟩
        simp only [browF, hle]
        exact Ent.mk' ⟨rfl, rfl, rfl, rfl, trivial⟩ rfl (fun β w hs => hs.weaken (List.Sublist.refl _) (List.sublist_cons_self _ _))
      · have he0 : ¬ ((k' + 1 : Nat) : Int) - 1 = (f.size : Int) - 1 := he
        have henc : encGo f r (k' + 1) = (128 ||| (UInt8.ofNat (r / 2 ^ (6 * k')) &&& 63)) :: encGo f r k' := by rw [encGo, if_neg (by omega)]
        refine ⟨_, wrap_u8b _, ?_⟩
        refine ⟨_, and8 (UInt8.ofNat (r / 2 ^ (6 * k'))) 63, ?_⟩
        refine ⟨_, or8 128 (UInt8.ofNat (r / 2 ^ (6 * k')) &&& 63), ?_⟩
        intro b0
        refine ⟨1, acc.length, acc.length + 1, acc.map byte, [128 ||| (UInt8.ofNat (r / 2 ^ (6 * k')) &&& 63)].map byte, (acc ++ [128 ||| (UInt8.ofNat (r / 2 ^ (6 * k')) &&& 63)]).map byte, rfl, fun β w hs => row_rd (hs.get 0 rfl), bytes_one _, rfl, List.map_append.symm, by rw [maxLen_eq]; omega, by show (acc.length + 1) * 1 ≤ _; omega, ?_⟩
        intro A' c' q1 q2 _
        refine ⟨(k' : Int) - 1, by rw [wrap_i64 (by omega) (by omega)]; omega, ?_⟩
        have hle : (acc ++ [128 ||| (UInt8.ofNat (r / 2 ^ (6 * k')) &&& 63)]).length = acc.length + 1 := by simp
        refine ⟨⟨k', acc ++ [128 ||| (UInt8.ofNat (r / 2 ^ (6 * k')) &&& 63)], A', c'⟩, ⟨by rw [← hinv, henc]; simp, by show k' ≤ f.size; omega, by show (acc ++ [128 ||| (UInt8.ofNat (r / 2 ^ (6 * k')) &&& 63)]).length ≤ c'; omega, q2, by show (acc ++ [128 ||| (UInt8.ofNat (r / 2 ^ (6 * k')) &&& 63)]).length + k' = _; omega⟩, by show k' < k' + 1; omega, ?_⟩
        simp only [browF, hle]
        exact Ent.mk' ⟨rfl, rfl, rfl, rfl, trivial⟩ rfl (fun β w hs => hs.weaken (List.Sublist.refl _) (List.sublist_cons_self _ _))
    · have hp0 : ¬ (0 : Int) ≤ (k : Int) - 1 := hp
      obtain rfl : k = 0 := by omega
      simp only [encGo, List.append_nil] at hinv
      intro β w' hs
      refine (hs.keepB (List.nil_sublist _)).fin [0] ⟨A2, c2, by rw [← hinv]; rfl, by rw [← hinv]; exact hac, hcm, by rw [← hinv]; rfl⟩
end Go.Proofs.YtlhcgofdfhfegaaGreatDoor.Sx

namespace Go.Proofs.YtlhcgofdfhfegaaGreatDoor.Sx
open Go
theorem decL_sign {s : List UInt8} {r : Nat} (h : (Nam.decL s).1 = some r) : Nam.sign r = true := by
  unfold Nam.decL at h
  split at h
  · rename_i f hf
    split at h
    · rename_i q hq
      obtain rfl := Option.some.inj h
      unfold Nam.tryF at hq
      split at hq
      · cases hq
      · split at hq
        · split at hq
          · rename_i hh
            obtain rfl := Option.some.inj hq
            exact hh.2
          · cases hq
        · cases hq
    · cases h
  · cases h
theorem runes_sign {r : Nat} : ∀ (k : Nat) (l : List UInt8), l.length ≤ k → some r ∈ Nam.runes l → Nam.sign r = true := by
  intro k
  induction k with
  | zero =>
    intro l h hm
    obtain rfl : l = [] := List.length_eq_zero_iff.1 (by omega)
    rw [Nam.runes_nil] at hm
    cases hm
  | succ k ih =>
    intro l h hm
    by_cases hl : l = []
    · subst hl
      rw [Nam.runes_nil] at hm
      cases hm
    · have h1 := Nam.decL_size hl
      rw [Nam.runes_cons hl] at hm
      rcases List.mem_cons.1 hm with hm | hm
      · exact decL_sign hm.symm
      · exact ih _ (by rw [List.length_drop]; omega) hm
def prepO (l : List (Option Nat)) : List Int := l.flatMap fun o => prep1 (runeI o)
theorem prepAt_runes (l : List UInt8) : prepAt (runesAt l 0) = prepO (Nam.runes l) := by
  have h := runesAt_vals l _ 0 (Nat.le_refl _)
  rw [List.drop_zero] at h
  have e1 : prepAt (runesAt l 0) = ((runesAt l 0).map (·.2)).flatMap prep1 := by rw [prepAt, List.flatMap_map]
  rw [e1, h, List.flatMap_map]
  rfl
theorem sign_le {r : Nat} (h : Nam.sign r = true) : r ≤ 1114111 := by
  unfold Nam.sign at h
  simp only [Bool.and_eq_true, decide_eq_true_eq] at h
  exact h.1
theorem prep_sign {l : List UInt8} (hv : validB l = true) {z : Int} (hz : z ∈ prepAt (runesAt l 0)) : ∃ r : Nat, z = (r : Int) ∧ Nam.sign r = true ∧ r ≤ 1114111 := by
  rw [prepAt_runes] at hz
  obtain ⟨o, ho, hz⟩ := List.mem_flatMap.1 hz
  cases o with
  | none =>
    have := List.all_eq_true.1 hv none ho
    cases this
  | some r =>
    have hs := runes_sign l.length l (Nat.le_refl _) ho
    unfold prep1 at hz
    split at hz
    · obtain rfl := List.mem_singleton.1 hz
      exact ⟨32, rfl, by decide, by decide⟩
    · split at hz
      · cases hz
      · obtain rfl := List.mem_singleton.1 hz
        exact ⟨r, rfl, hs, sign_le hs⟩
def badZ (z : Int) : Bool := inSp z barredL || decide (bits .and .i32 z 65534 = 65534)
def encZ (z : Int) : List UInt8 := encL z.toNat
def prepF (l : List UInt8) : List UInt8 × Int :=
  if validB l = true then if (prepAt (runesAt l 0)).any badZ = true then ([], 5) else ((prepAt (runesAt l 0)).flatMap encZ, 0) else ([], 4)
end Go.Proofs.YtlhcgofdfhfegaaGreatDoor.Sx

namespace Go.Proofs.YtlhcgofdfhfegaaGreatDoor.Sx
open Go
attribute [local irreducible] Calls
def mkS (l : List UInt8) : ByteArray := ⟨l.toArray⟩
theorem encZ_len (z : Int) : (encZ z).length ≤ 4 := by
  unfold encZ encL
  rw [encGo_len]
  have := form_size (fold_mem z.toNat Nam.fms form0 form0_mem (fun _ h => h))
  exact this.2.1
theorem prep1_len (z : Int) : (prep1 z).length ≤ 1 := by
  unfold prep1
  split
  · exact Nat.le_refl _
  · split
    · exact Nat.zero_le _
    · exact Nat.le_refl _
theorem runesAt_len (l : List UInt8) : ∀ (k i : Nat), l.length - i ≤ k → (runesAt l i).length ≤ l.length - i := by
  intro k
  induction k with
  | zero => intro i h; rw [runesAt_end (by omega)]; exact Nat.zero_le _
  | succ k ih =>
    intro i h
    by_cases hi : i < l.length
    · have h1 := Nam.decL_size (drop_ne hi)
      rw [runesAt_cons hi, List.length_cons]
      have := ih (i + (Nam.decL (l.drop i)).2) (by omega)
      omega
    · rw [runesAt_end hi]; exact Nat.zero_le _
theorem flat_le {α β : Type} (f : α → List β) (n : Nat) (h : ∀ x, (f x).length ≤ n) : ∀ l : List α, (l.flatMap f).length ≤ n * l.length
  | [] => by simp
  | x :: r => by
    rw [List.flatMap_cons, List.length_append, List.length_cons]
    have h1 := h x
    have h2 := flat_le f n h r
    rw [Nat.mul_succ]
    omega
theorem prepAt_len (l : List UInt8) : (prepAt (runesAt l 0)).length ≤ l.length := by
  have h1 := flat_le (fun x : Rn => prep1 x.2) 1 (fun x => prep1_len x.2) (runesAt l 0)
  have h2 := runesAt_len l _ 0 (Nat.le_refl _)
  unfold prepAt
  omega
structure PrS8 where
  out : List UInt8
  A : Option Addr
  c : Nat
theorem prepare_c (w0 : World) (s : ByteArray) (hl : s.size ≤ 100000) (hf : Forms 7 w0) (h5 : (spansF 5 blanksL).p w0) (h6 : (spansF 6 nothingL).p w0) (h4 : (spansF 3 barredL).p w0) :
    Pu Tryz.prog n_name_Prepare #[.string s] w0 (.tuple #[.string (mkS (prepF s.data.toList).1), .int .i64 (prepF s.data.toList).2]) := by
  have g := good_name_Prepare w0 (Un [])
  have hlen : s.data.toList.length = s.size := rfl
  have own2 : ∀ {f1 f2 f3 f4 : Fact}, f1.own = false → f2.own = false → f3.own = false → f4.own = false → ∀ g ∈ [f1, f2, f3, f4], g.own = false := by
    intro f1 f2 f3 f4 e1 e2 e3 e4 g hg
    simp only [List.mem_cons, List.not_mem_nil, or_false] at hg
    rcases hg with rfl | rfl | rfl | rfl <;> assumption
  have st : Sat (cx_name_Prepare w0 (Un [])) Va.z 0 [] [formF, formF, spansF 5 blanksL, spansF 6 nothingL, spansF 3 barredL] w0 := by
    have s1 : Sat (cx_name_Prepare w0 (Un [])) Va.z 0 [] [spansF 3 barredL] w0 := (Sat.start rfl).rd (fun _ h => by cases h) h4
    have s2 : Sat (cx_name_Prepare w0 (Un [])) Va.z 0 [] [spansF 6 nothingL, spansF 3 barredL] w0 := s1.rd (fun g hg => own2 (f1 := spansF 3 barredL) (f2 := noF) (f3 := noF) (f4 := noF) rfl rfl rfl rfl g (by obtain rfl := List.mem_singleton.1 hg; simp)) h6
    have s3 : Sat (cx_name_Prepare w0 (Un [])) Va.z 0 [] [spansF 5 blanksL, spansF 6 nothingL, spansF 3 barredL] w0 := s2.rd (fun g hg => own2 (f1 := spansF 6 nothingL) (f2 := spansF 3 barredL) (f3 := noF) (f4 := noF) rfl rfl rfl rfl g (by simp only [List.mem_cons, List.not_mem_nil, or_false] at hg ⊢; rcases hg with h | h <;> simp [h])) h5
    have s4 : Sat (cx_name_Prepare w0 (Un [])) Va.z 0 [] [formF, spansF 5 blanksL, spansF 6 nothingL, spansF 3 barredL] w0 := s3.rd (fun g hg => own2 (f1 := spansF 5 blanksL) (f2 := spansF 6 nothingL) (f3 := spansF 3 barredL) (f4 := noF) rfl rfl rfl rfl g (by simp only [List.mem_cons, List.not_mem_nil, or_false] at hg ⊢; rcases hg with h | h | h <;> simp [h])) hf
    exact s4.rd (own2 rfl rfl rfl rfl) hf
  refine con_of_sx (cx := cx_name_Prepare w0 (Un [])) g b_name_Prepare rfl rfl (β := Va.z) [.c (.v (.string s))] 0 [] _ rfl rfl st ?_
  obtain ⟨bv, hv⟩ : ∃ bv, validB s.data.toList = bv := ⟨_, rfl⟩
  refine call_pu (v := .bool bv) (fun β w hs => by
    have h := valid_c w s (by omega) (hs.get 0 rfl)
    rw [hv] at h
    exact h) ?_
  cases bv with
  | false =>
    intro β w' hs
    refine (hs.keepB (List.nil_sublist _)).fin [] ⟨?_, rfl⟩
    unfold prepF
    rw [hv]
    rfl
  | true =>
    refine call_con [] (fun β w hs => prepared_c w s) ?_
    rintro v Fs ⟨bx, rfl, rfl⟩
    obtain ⟨T, hT⟩ : ∃ T, prepAt (runesAt s.data.toList 0) = T := ⟨_, rfl⟩
    have hTl : T.length ≤ 100000 := by
      have := prepAt_len s.data.toList
      rw [hT] at this
      omega
    have hpr : prepF s.data.toList = if T.any badZ = true then ([], 5) else (T.flatMap encZ, 0) := by unfold prepF; rw [if_pos hv, hT]
    refine range_rule (α := Int) (ι := PrS8) (κ := Unit) g rfl (cv := [.pointer (some ⟨bx, 0, none⟩)]) rfl (by kernel_rfl) 3 (Nat.le_refl 3)
      (fun pre i => pre.any badZ = false ∧ i.out = pre.flatMap encZ) (fun i => [⟨2, ty_sl_uint8, [.v (.slice i.A i.out.length i.c)]⟩, ⟨1, ty_api_Errno, [.v (.int .i64 0)]⟩, ⟨0, ty_string, [.v (.string (mkS []))]⟩]) (fun i => [browF ty_uint8 i.A i.out i.c]) (fun i => ⟨rfl, trivial⟩)
      (fun e pre _ => e = .ret ∧ pre.any badZ = true) (fun _ => [⟨1, ty_api_Errno, [.v (.int .i64 5)]⟩, ⟨0, ty_string, [.v (.string (mkS []))]⟩]) (fun _ => []) (fun _ => trivial)
      [bkF bx ty_string [.string s]] [formF, spansF 5 blanksL, spansF 6 nothingL] [formF, spansF 3 barredL] ⟨rfl, trivial⟩ (fun g h => by
        simp only [List.mem_cons, List.not_mem_nil, or_false] at h
        rcases h with rfl | rfl <;> rfl) ⟨[], none, 0⟩ ⟨rfl, rfl⟩ (fun β w hs => ⟨β, Agr.refl _ _, ?_⟩) (insPr s.data.toList)
      (fun xs Fs' => xs = T ∧ Fs' = []) (fun pre Fs' => (∃ r, T = pre ++ r) ∧ Fs' = [])
      (fun l w f0 R J Jx hJ0 hJo hRo hY hm => (prep_it l w bx s f0 R J Jx hJ0 hJo hRo hY (by omega) hm).mono fun _ Fs h => by rw [← hT]; exact h) ?_ ?_ ?_
    · exact (hs.nilRow ty_uint8 1).perm [1, 2, 4, 5, 0, 3, 6]
    · rintro ⟨out, A, c⟩ pre z args X W S l' bs pn pn' hbs ⟨hno, hout⟩ ⟨rfl, rfl, r0, hzr⟩
      simp only at hno hout
      rw [hT] at hzr
      refine ⟨_, rfl, ?_⟩
      obtain ⟨b1, hb1⟩ : ∃ b1, inSp z barredL = b1 := ⟨_, rfl⟩
      refine ⟨9, 9, 0, 9, 9, _, rfl, rfl, rfl, Nat.le_refl _, Nat.le_refl _, Nat.zero_le _, rfl, rfl, rfl, ?_⟩
      refine call_pu (v := .bool b1) (fun β w' hs => by
        have h := within_c w' z (some ⟨3, 0, none⟩) barredL 9 (hs.get 3 rfl) (by decide)
        rw [hb1] at h
        exact h) ?_
      cases b1 with
      | true =>
        have hbz : badZ z = true := by unfold badZ; rw [hb1]; rfl
        exact ⟨(), ⟨rfl, by rw [List.any_append, List.any_cons, hbz]; simp⟩, Ent.mk' trivial rfl (fun β w hs => ((hs.keepB (List.sublist_cons_self _ _)).perm []).lower (n' := 3))⟩
      | false =>
        obtain ⟨y, hy⟩ : ∃ y, bits .and .i32 z 65534 = y := ⟨_, rfl⟩
        refine ⟨y, hy, ?_⟩
        refine BIf.dec (fun h3 => ?_) (fun h3 => ?_)
        · have h30 : y = 65534 := h3
          have hbz : badZ z = true := by unfold badZ; rw [hb1, hy, decide_eq_true h30]; rfl
          exact ⟨(), ⟨rfl, by rw [List.any_append, List.any_cons, hbz]; simp⟩, Ent.mk' trivial rfl (fun β w hs => ((hs.keepB (List.sublist_cons_self _ _)).perm []).lower (n' := 3))⟩
        · have h30 : ¬ y = 65534 := h3
          have hbz : badZ z = false := by unfold badZ; rw [hb1, hy, decide_eq_false h30]; rfl
          obtain ⟨r, hz, hsg, hr31⟩ := prep_sign hv (z := z) (by rw [hT, hzr]; simp)
          have hol : out.length ≤ 400000 := by
            have h8 := flat_le encZ 4 encZ_len pre
            have h9 : pre.length ≤ T.length := by rw [hzr, List.length_append]; omega
            rw [hout]
            omega
          refine call_con [] (fun β w' hs => append_c w' A out c r z hz hr31 hsg (row_rd (hs.get 1 rfl)) (by omega) (hs.get 2 rfl)) ?_
          rintro v Fs ⟨A', c', rfl, q1, q2, rfl⟩
          exact ⟨⟨out ++ encL r, A', c'⟩, ⟨by rw [List.any_append, hno, List.any_cons, hbz]; rfl, by rw [hout, List.flatMap_append]; simp [encZ, hz]⟩, Ent.mk' trivial rfl (fun β w hs => (hs.perm [0]).lower (n' := 3))⟩
    · rintro xs ⟨out, A, c⟩ Fs ⟨hno, hout⟩ ⟨rfl, rfl⟩
      simp only at hno hout
      rw [if_neg (by rw [hno]; decide)] at hpr
      refine ⟨out, fun β w hs => row_rd (hs.get 0 rfl), ?_⟩
      intro β w' hs
      refine (hs.keepB (List.nil_sublist _)).fin [] ⟨?_, rfl⟩
      rw [hpr, ← hout]
      rfl
    · rintro e pre ⟨⟩ Fs ⟨rfl, hbad⟩ ⟨⟨r, hr⟩, rfl⟩
      rw [if_pos (by rw [hr, List.any_append, hbad]; rfl)] at hpr
      intro β w' hs
      refine (hs.keepB (List.nil_sublist _)).fin [] ⟨?_, rfl⟩
      rw [hpr]
      rfl
def sizF (l : List UInt8) (most : Nat) : List UInt8 × Int :=
  if (prepF l).2 = 0 then if (prepF l).1 = [] then ([], 2) else if most < (prepF l).1.length then ([], 3) else ((prepF l).1, 0) else ([], (prepF l).2)
theorem mkS_nil {p : List UInt8} : mkS p = mkS [] ↔ p = [] := by
  constructor
  · intro h
    have := congrArg (fun s : ByteArray => s.data.toList) h
    simpa [mkS] using this
  · rintro rfl; rfl
theorem sized_c (w : World) (s : ByteArray) (most : Nat) (hmost : most ≤ 1000000) (hl : s.size ≤ 100000) (hf : Forms 7 w) (h5 : (spansF 5 blanksL).p w) (h6 : (spansF 6 nothingL).p w) (h4 : (spansF 3 barredL).p w) :
    Pu Tryz.prog n_name_sized #[.string s, .int .i64 (most : Int)] w (.tuple #[.string (mkS (sizF s.data.toList most).1), .int .i64 (sizF s.data.toList most).2]) := by
  have g := good_name_sized w (Un [])
  refine con_of_sx (cx := cx_name_sized w (Un [])) g b_name_sized rfl rfl (β := Va.z) [.c (.v (.string s)), .c (.v (.int .i64 (most : Int)))] 0 [] [oldF w] rfl rfl (old_sat rfl) ?_
  obtain ⟨p, e, hpe⟩ : ∃ p e, prepF s.data.toList = (p, e) := ⟨_, _, rfl⟩
  have hz : sizF s.data.toList most = if e = 0 then if p = [] then ([], 2) else if most < p.length then ([], 3) else (p, 0) else ([], e) := by unfold sizF; rw [hpe]
  refine call_pu (v := .tuple #[.string (mkS p), .int .i64 e]) (fun β w' hs => by
    have h := prepare_c w' s hl (Forms.old hf (hs.get 0 rfl)) (Rd.old h5 (hs.get 0 rfl)) (Rd.old h6 (hs.get 0 rfl)) (Rd.old h4 (hs.get 0 rfl))
    rw [hpe] at h
    exact h) ?_
  have fin : ∀ (q : List UInt8) (d : Int), sizF s.data.toList most = (q, d) → ∀ {n : Nat} {H : List Bk} {F : List Fact} (β : Va) (w' : World), Sat (cx_name_sized w (Un [])) β n H F w' → Fin w [] (fun u Fs => u = .tuple #[.string (mkS (sizF s.data.toList most).1), .int .i64 (sizF s.data.toList most).2] ∧ Fs = []) (.tuple #[.string (mkS q), .int .i64 d]) w' := by
    intro q d h n H F β w' hs
    rw [h]
    exact (hs.keepB (List.nil_sublist _)).fin [] ⟨rfl, rfl⟩
  refine BIf.not (BIf.dec (fun he => ?_) (fun he => ?_))
  · have he0 : e = 0 := he
    rw [if_pos he0] at hz
    refine BIf.dec (p := mkS p = mkS []) (fun hp => ?_) (fun hp => ?_)
    · rw [if_pos (mkS_nil.1 hp)] at hz
      exact fin [] 2 hz
    · rw [if_neg (fun q => hp (mkS_nil.2 q))] at hz
      have hsz : (mkS p).size = p.length := by simp [mkS, ByteArray.size]
      refine BIf.dec (fun hm => ?_) (fun hm => ?_)
      · have hm0 : (most : Int) < ((mkS p).size : Int) := hm
        rw [hsz] at hm0
        rw [if_pos (by omega)] at hz
        exact fin [] 3 hz
      · have hm0 : ¬ (most : Int) < ((mkS p).size : Int) := hm
        rw [hsz] at hm0
        rw [if_neg (by omega)] at hz
        rw [he0]
        exact fin p 0 hz
  · have he0 : ¬ e = 0 := he
    rw [if_neg he0] at hz
    exact fin [] e hz
theorem name_c (w : World) (s : ByteArray) (hl : s.size ≤ 100000) (hf : Forms 7 w) (h5 : (spansF 5 blanksL).p w) (h6 : (spansF 6 nothingL).p w) (h4 : (spansF 3 barredL).p w) :
    Pu Tryz.prog n_name_Name #[.string s] w (.tuple #[.string (mkS (sizF s.data.toList 32).1), .int .i64 (sizF s.data.toList 32).2]) := by
  have g := good_name_Name w (Un [])
  refine con_of_sx (cx := cx_name_Name w (Un [])) g b_name_Name rfl rfl (β := Va.z) [.c (.v (.string s))] 0 [] [oldF w] rfl rfl (old_sat rfl) ?_
  refine call_pu (fun β w' hs => sized_c w' s 32 (by decide) hl (Forms.old hf (hs.get 0 rfl)) (Rd.old h5 (hs.get 0 rfl)) (Rd.old h6 (hs.get 0 rfl)) (Rd.old h4 (hs.get 0 rfl))) ?_
  intro β w' hs
  exact hs.fin [] ⟨rfl, rfl⟩
def okc (x : UInt8) : Bool := decide ((97 ≤ x.toNat ∧ x.toNat ≤ 122) ∨ (48 ≤ x.toNat ∧ x.toNat ≤ 57) ∨ x.toNat = 45 ∨ x.toNat = 95)
def plainF (l : List UInt8) : Bool := l.all okc && (decide (l ≠ []) && decide (l.length ≤ 32))
set_option maxHeartbeats 1000000 in
theorem plain_c (w : World) (s : ByteArray) (hl : s.size ≤ 100000) : Pu Tryz.prog n_name_Plain #[.string s] w (.bool (plainF s.data.toList)) := by
  have g := good_name_Plain w (Un [])
  have hlen : s.data.toList.length = s.size := rfl
  refine con_of_sx (cx := cx_name_Plain w (Un [])) g b_name_Plain rfl rfl (β := Va.z) [.c (.v (.string s))] 0 [] [] rfl rfl (Sat.start rfl) ?_
  intro b c hc _
  refine loop_rule 0 (fun k : Nat => [(0, .c (.v (.string s))), (6, .c (.v (.slice (some ⟨b, 0, none⟩) s.size c))), (7, .c (.v (.int .i64 s.size))), (8, .c (.v (.int .i64 (k : Int))))]) (fun _ => []) (fun _ => [rdoF 1 (some ⟨b, 0, none⟩) s.size (s.data.toList.map byte)])
    (fun k => k ≤ s.size ∧ (s.data.toList.take k).all okc = true) (fun k => s.size - k) 0 ⟨Nat.zero_le _, rfl⟩ (Ent.same ⟨rfl, rfl, rfl, rfl, trivial⟩ rfl) g ?_
  rintro k ⟨hk, hall⟩
  refine BIf.dec (fun hlt => ?_) (fun hge => ?_)
  · have hlt0 : (k : Int) < s.size := hlt
    have hkl : k < s.size := by omega
    obtain ⟨x, hx, hxm⟩ := at_lt (l := s.data.toList) (k := k) (by omega)
    obtain ⟨z, hz⟩ : ∃ z : Int, (x.toNat : Int) = z := ⟨_, rfl⟩
    have hsn : okc x = true → (s.data.toList.take (k + 1)).all okc = true := fun h => by rw [List.take_add_one, hx, List.all_append, hall]; simp [h]
    have bad : okc x = false → ∀ {n : Nat} {H : List Bk} {F : List Fact} (β : Va) (w' : World), Sat (cx_name_Plain w (Un [])) β n H F w' → Fin w [] (fun u Fs => u = .bool (plainF s.data.toList) ∧ Fs = []) (.bool false) w' := by
      intro h n H F β w' hs
      refine (hs.keepB (List.nil_sublist _)).fin [] ⟨?_, rfl⟩
      have : s.data.toList.all okc = false := by
        rw [List.all_eq_false]
        exact ⟨x, hxm, by rw [h]; decide⟩
      unfold plainF
      rw [this]
      rfl
    refine ⟨⟨b, 0, none⟩, k, rfl, rfl, hkl, .int .u8 z, fun β w' hs => by rw [← hz]; exact Rd.cell1 (u := byte x) (hs.get 0 rfl) (by rw [List.getElem?_map, hx]; rfl), ?_⟩
    conv => whnf
    generalize h1 : decide ((97 : Int) ≤ z) = b1
    cases b1 with
    | true =>
      conv => whnf
      generalize h2 : decide (z ≤ (122 : Int)) = b2
      cases b2 with
      | true =>
        refine ⟨((k + 1 : Nat) : Int), by rw [wrap_i64 (by omega) (by omega)]; rfl, ?_⟩
        exact ⟨k + 1, ⟨hkl, hsn (by simp only [decide_eq_true_eq, decide_eq_false_iff_not] at *; simp only [okc, decide_eq_true_eq]; omega)⟩, by omega, Ent.same ⟨rfl, rfl, rfl, rfl, trivial⟩ rfl⟩
      | false =>
        conv => whnf
        generalize h3 : decide ((48 : Int) ≤ z) = b3
        cases b3 with
        | true =>
          conv => whnf
          generalize h4 : decide (z ≤ (57 : Int)) = b4
          cases b4 with
          | true =>
            refine ⟨((k + 1 : Nat) : Int), by rw [wrap_i64 (by omega) (by omega)]; rfl, ?_⟩
            exact ⟨k + 1, ⟨hkl, hsn (by simp only [decide_eq_true_eq, decide_eq_false_iff_not] at *; simp only [okc, decide_eq_true_eq]; omega)⟩, by omega, Ent.same ⟨rfl, rfl, rfl, rfl, trivial⟩ rfl⟩
          | false =>
            conv => whnf
            generalize h5 : decide (z = (45 : Int)) = b5
            cases b5 with
            | true =>
              refine ⟨((k + 1 : Nat) : Int), by rw [wrap_i64 (by omega) (by omega)]; rfl, ?_⟩
              exact ⟨k + 1, ⟨hkl, hsn (by simp only [decide_eq_true_eq, decide_eq_false_iff_not] at *; simp only [okc, decide_eq_true_eq]; omega)⟩, by omega, Ent.same ⟨rfl, rfl, rfl, rfl, trivial⟩ rfl⟩
            | false =>
              conv => whnf
              generalize h6 : decide (z = (95 : Int)) = b6
              cases b6 with
              | true =>
                refine ⟨((k + 1 : Nat) : Int), by rw [wrap_i64 (by omega) (by omega)]; rfl, ?_⟩
                exact ⟨k + 1, ⟨hkl, hsn (by simp only [decide_eq_true_eq, decide_eq_false_iff_not] at *; simp only [okc, decide_eq_true_eq]; omega)⟩, by omega, Ent.same ⟨rfl, rfl, rfl, rfl, trivial⟩ rfl⟩
              | false =>
                exact bad (by simp only [decide_eq_true_eq, decide_eq_false_iff_not] at *; simp only [okc, decide_eq_false_iff_not]; omega)
        | false =>
          conv => whnf
          generalize h5 : decide (z = (45 : Int)) = b5
          cases b5 with
          | true =>
            refine ⟨((k + 1 : Nat) : Int), by rw [wrap_i64 (by omega) (by omega)]; rfl, ?_⟩
            exact ⟨k + 1, ⟨hkl, hsn (by simp only [decide_eq_true_eq, decide_eq_false_iff_not] at *; simp only [okc, decide_eq_true_eq]; omega)⟩, by omega, Ent.same ⟨rfl, rfl, rfl, rfl, trivial⟩ rfl⟩
          | false =>
            conv => whnf
            generalize h6 : decide (z = (95 : Int)) = b6
            cases b6 with
            | true =>
              refine ⟨((k + 1 : Nat) : Int), by rw [wrap_i64 (by omega) (by omega)]; rfl, ?_⟩
              exact ⟨k + 1, ⟨hkl, hsn (by simp only [decide_eq_true_eq, decide_eq_false_iff_not] at *; simp only [okc, decide_eq_true_eq]; omega)⟩, by omega, Ent.same ⟨rfl, rfl, rfl, rfl, trivial⟩ rfl⟩
            | false =>
              exact bad (by simp only [decide_eq_true_eq, decide_eq_false_iff_not] at *; simp only [okc, decide_eq_false_iff_not]; omega)
    | false =>
      conv => whnf
      generalize h3 : decide ((48 : Int) ≤ z) = b3
      cases b3 with
      | true =>
        conv => whnf
        generalize h4 : decide (z ≤ (57 : Int)) = b4
        cases b4 with
        | true =>
          refine ⟨((k + 1 : Nat) : Int), by rw [wrap_i64 (by omega) (by omega)]; rfl, ?_⟩
          exact ⟨k + 1, ⟨hkl, hsn (by simp only [decide_eq_true_eq, decide_eq_false_iff_not] at *; simp only [okc, decide_eq_true_eq]; omega)⟩, by omega, Ent.same ⟨rfl, rfl, rfl, rfl, trivial⟩ rfl⟩
        | false =>
          conv => whnf
          generalize h5 : decide (z = (45 : Int)) = b5
          cases b5 with
          | true =>
            refine ⟨((k + 1 : Nat) : Int), by rw [wrap_i64 (by omega) (by omega)]; rfl, ?_⟩
            exact ⟨k + 1, ⟨hkl, hsn (by simp only [decide_eq_true_eq, decide_eq_false_iff_not] at *; simp only [okc, decide_eq_true_eq]; omega)⟩, by omega, Ent.same ⟨rfl, rfl, rfl, rfl, trivial⟩ rfl⟩
          | false =>
            conv => whnf
            generalize h6 : decide (z = (95 : Int)) = b6
            cases b6 with
            | true =>
              refine ⟨((k + 1 : Nat) : Int), by rw [wrap_i64 (by omega) (by omega)]; rfl, ?_⟩
              exact ⟨k + 1, ⟨hkl, hsn (by simp only [decide_eq_true_eq, decide_eq_false_iff_not] at *; simp only [okc, decide_eq_true_eq]; omega)⟩, by omega, Ent.same ⟨rfl, rfl, rfl, rfl, trivial⟩ rfl⟩
            | false =>
              exact bad (by simp only [decide_eq_true_eq, decide_eq_false_iff_not] at *; simp only [okc, decide_eq_false_iff_not]; omega)
      | false =>
        conv => whnf
        generalize h5 : decide (z = (45 : Int)) = b5
        cases b5 with
        | true =>
          refine ⟨((k + 1 : Nat) : Int), by rw [wrap_i64 (by omega) (by omega)]; rfl, ?_⟩
          exact ⟨k + 1, ⟨hkl, hsn (by simp only [decide_eq_true_eq, decide_eq_false_iff_not] at *; simp only [okc, decide_eq_true_eq]; omega)⟩, by omega, Ent.same ⟨rfl, rfl, rfl, rfl, trivial⟩ rfl⟩
        | false =>
          conv => whnf
          generalize h6 : decide (z = (95 : Int)) = b6
          cases b6 with
          | true =>
            refine ⟨((k + 1 : Nat) : Int), by rw [wrap_i64 (by omega) (by omega)]; rfl, ?_⟩
            exact ⟨k + 1, ⟨hkl, hsn (by simp only [decide_eq_true_eq, decide_eq_false_iff_not] at *; simp only [okc, decide_eq_true_eq]; omega)⟩, by omega, Ent.same ⟨rfl, rfl, rfl, rfl, trivial⟩ rfl⟩
          | false =>
            exact bad (by simp only [decide_eq_true_eq, decide_eq_false_iff_not] at *; simp only [okc, decide_eq_false_iff_not]; omega)
  · have hge0 : ¬ (k : Int) < s.size := hge
    obtain rfl : k = s.size := by omega
    rw [← hlen, List.take_length] at hall
    have hpl : plainF s.data.toList = (decide (s.data.toList ≠ []) && decide (s.data.toList.length ≤ 32)) := by unfold plainF; rw [hall, Bool.true_and]
    refine BIf.not (BIf.dec (p := s = mkS []) (fun he => ?_) (fun he => ?_))
    · intro β w' hs
      refine (hs.keepB (List.nil_sublist _)).fin [] ⟨?_, rfl⟩
      rw [hpl, he]
      rfl
    · have hne : s.data.toList ≠ [] := fun q => he (by
        have : s = mkS s.data.toList := by cases s; rfl
        rw [this, q])
      intro β w' hs
      refine (hs.keepB (List.nil_sublist _)).fin [] ⟨?_, rfl⟩
      rw [hpl, decide_eq_true hne, Bool.true_and, hlen]
      show Value.bool (decide ((s.size : Int) ≤ 32)) = _
      congr 1
      exact decide_eq_decide.2 (by omega)
def nameA (s : ByteArray) : ByteArray × Int := (mkS (sizF s.data.toList 32).1, (sizF s.data.toList 32).2)
structure NamT (w : World) : Prop where
  f : Forms 7 w
  s5 : (spansF 5 blanksL).p w
  s6 : (spansF 6 nothingL).p w
  s4 : (spansF 3 barredL).p w
theorem NamT.old {W w : World} (h : NamT W) (ho : (oldF W).p w) : NamT w := ⟨Forms.old h.f ho, Rd.old h.s5 ho, Rd.old h.s6 ho, Rd.old h.s4 ho⟩
theorem NamT.sat {cx : Cx} {β : Va} {n : Nat} {H : List Bk} {F : List Fact} {w : World} (hs : Sat cx β n H F w) (j : Nat) {W : World} (hj : nth F j = some (oldF W)) (h : NamT W) : NamT w := h.old (hs.get j hj)
theorem nameA_c (w : World) (s : ByteArray) (hl : s.size ≤ 100000) (hn : NamT w) : Pu Tryz.prog n_name_Name #[.string s] w (.tuple #[.string (nameA s).1, .int .i64 (nameA s).2]) :=
  name_c w s hl hn.f hn.s5 hn.s6 hn.s4
def namF : Fact := readF [formF, spansF 5 blanksL, spansF 6 nothingL, spansF 3 barredL]
theorem namF_T {w : World} (h : namF.p w) : NamT w := ⟨h formF (by simp), h (spansF 5 blanksL) (by simp), h (spansF 6 nothingL) (by simp), h (spansF 3 barredL) (by simp)⟩
end Go.Proofs.YtlhcgofdfhfegaaGreatDoor.Sx

namespace Go.Proofs.YtlhcgofdfhfegaaGreatDoor.Sx
open Go
def RoOk (w : World) (f : Fact) : Prop := f.own = false ∧ f.p w ∧ ∀ k, f.D k → k < w.heap.size
theorem mem_ro {w : World} {Fs : List Fact} (h : ∀ f ∈ Fs, RoOk w f) : Mem w Fs := by
  refine ⟨fun f hf => (h f hf).2.1, fun f hf k hk => (h f hf).2.2 k hk, ?_⟩
  induction Fs with
  | nil => exact List.Pairwise.nil
  | cons f r ih =>
    refine List.pairwise_cons.2 ⟨fun g hg q => ?_, ih (fun g hg => h g (List.mem_cons_of_mem _ hg))⟩
    rcases q with q | q
    · rw [(h f List.mem_cons_self).1] at q; cases q
    · rw [(h g (List.mem_cons_of_mem _ hg)).1] at q; cases q
theorem rd_ok {w : World} {size : Nat} {A : Option Addr} {k : Nat} {xs : List Value} (h : Rd size A k xs w) : RoOk w (rdF size A k xs) := ⟨rfl, h, rd_lt h⟩
theorem ro_nil {w : World} : ∀ f ∈ ([] : List Fact), RoOk w f := fun f h => by cases h
theorem ro_cons {w : World} {f : Fact} {r : List Fact} (h1 : RoOk w f) (h2 : ∀ g ∈ r, RoOk w g) : ∀ g ∈ f :: r, RoOk w g := fun g hg => by
  rcases List.mem_cons.1 hg with rfl | hg
  · exact h1
  · exact h2 g hg
theorem nam_ok {w : World} (f : Forms 7 w) (s5 : (spansF 5 blanksL).p w) (s6 : (spansF 6 nothingL).p w) (s4 : (spansF 3 barredL).p w) : RoOk w namF := by
  refine ⟨rfl, fun g hg => ?_, fun k hk => ?_⟩
  · simp only [List.mem_cons, List.not_mem_nil, or_false] at hg
    rcases hg with rfl | rfl | rfl | rfl
    · exact f
    · exact s5
    · exact s6
    · exact s4
  · obtain ⟨g, hg, hk⟩ := hk
    simp only [List.mem_cons, List.not_mem_nil, or_false] at hg
    rcases hg with rfl | rfl | rfl | rfl
    · exact rd_lt f k hk
    · exact rd_lt s5 k hk
    · exact rd_lt s6 k hk
    · exact rd_lt s4 k hk
end Go.Proofs.YtlhcgofdfhfegaaGreatDoor.Sx

namespace Go.Proofs.YtlhcgofdfhfegaaGreatDoor.Sx
open Go
attribute [local irreducible] Calls
theorem siz_len (l : List UInt8) (k : Nat) : (sizF l k).1.length ≤ k := by
  unfold sizF
  split
  · split
    · exact Nat.zero_le _
    · split
      · exact Nat.zero_le _
      · rename_i h; exact Nat.le_of_not_lt h
  · exact Nat.zero_le _
structure Tk where
  epoch : Nat
  serial : Nat
  fro : Nat
  til : Nat
  gen : Nat
  ten : List UInt8
  usr : List UInt8
  rol : List UInt8
def tk0 : Tk := ⟨0, 0, 0, 0, 0, [], [], []⟩
def namedT (l : List UInt8) : Bool := decide ((sizF l 32).2 = 0) && decide ((sizF l 32).1 = l)
structure Tk.Right (t : Tk) : Prop where
  usr : namedT t.usr = true
  ten : plainF t.ten = true
  rol : plainF t.rol = true
  e1 : 1 ≤ t.epoch
  e2 : t.epoch ≤ 4294967295
  s1 : 1 ≤ t.serial
  s2 : t.serial ≤ 9007199254740992
  g1 : 1 ≤ t.gen
  g2 : t.gen ≤ 9007199254740992
  lt : t.fro < t.til
  le : t.til ≤ 1099511627776
def txtL (l : List UInt8) : List UInt8 := UInt8.ofNat l.length :: l
def bodyL (t : Tk) : List UInt8 := 1 :: (be 4 t.epoch ++ (be 8 t.serial ++ (be 8 t.fro ++ (be 8 t.til ++ (be 8 t.gen ++ (txtL t.ten ++ (txtL t.usr ++ txtL t.rol)))))))
theorem namedT_len {l : List UInt8} (h : namedT l = true) : l.length ≤ 32 := by
  unfold namedT at h
  rw [Bool.and_eq_true, decide_eq_true_iff, decide_eq_true_iff] at h
  rw [← h.2]
  exact siz_len l 32
theorem plainF_len {l : List UInt8} (h : plainF l = true) : l.length ≤ 32 := by
  unfold plainF at h
  simp only [Bool.and_eq_true, decide_eq_true_iff] at h
  exact h.2.2
theorem numB_be : ∀ (k n : Nat), n < 256 ^ k → n < 18446744073709551616 → numB (be k n) = n
  | 0, n, h, _ => by
    have : n = 0 := by simpa using h
    rw [this]
    rfl
  | k + 1, n, h, h2 => by
    have h3 : n / 256 < 256 ^ k := by rw [Nat.pow_succ] at h; omega
    rw [be, numB_snoc, numB_be k (n / 256) h3 (by omega), ofNat_toNat _ (Nat.mod_lt _ (by decide))]
    omega
theorem snoc_of {l : List UInt8} {k : Nat} (h : l.length = k + 1) : ∃ m x, l = m ++ [x] ∧ m.length = k := by
  have h0 : l ≠ [] := fun q => by rw [q] at h; cases h
  refine ⟨l.dropLast, l.getLast h0, (List.dropLast_concat_getLast h0).symm, ?_⟩
  rw [List.length_dropLast, h]
  rfl
theorem numB_lt : ∀ (k : Nat) (l : List UInt8), l.length = k → k ≤ 8 → numB l < 256 ^ k
  | 0, l, h, _ => by
    obtain rfl := List.length_eq_zero_iff.1 h
    decide
  | k + 1, l, h, hk => by
    obtain ⟨m, x, rfl, hm⟩ := snoc_of h
    have h2 := numB_lt k m hm (by omega)
    have hx := x.toNat_lt
    rw [numB_snoc, Nat.pow_succ]
    exact Nat.lt_of_le_of_lt (Nat.mod_le _ _) (by omega)
theorem be_numB : ∀ (k : Nat) (l : List UInt8), l.length = k → k ≤ 8 → be k (numB l) = l
  | 0, l, h, _ => by
    obtain rfl := List.length_eq_zero_iff.1 h
    rfl
  | k + 1, l, h, hk => by
    obtain ⟨m, x, rfl, hm⟩ := snoc_of h
    have h2 := numB_lt k m hm (by omega)
    have h7 : (256 : Nat) ^ k ≤ 256 ^ 7 := Nat.pow_le_pow_right (by decide) (by omega)
    have hx : x.toNat < 256 := x.toNat_lt
    have hlt : numB m * 256 + x.toNat < 18446744073709551616 := by
      have e : (256 : Nat) ^ 7 = 72057594037927936 := by decide
      omega
    rw [numB_snoc, Nat.mod_eq_of_lt hlt]
    show be k ((numB m * 256 + x.toNat) / 256) ++ [UInt8.ofNat ((numB m * 256 + x.toNat) % 256)] = _
    rw [show (numB m * 256 + x.toNat) / 256 = numB m by omega, show (numB m * 256 + x.toNat) % 256 = x.toNat by omega, be_numB k m hm (by omega), UInt8.ofNat_toNat]
structure Rdr where
  p : List UInt8
  bad : Bool
def Rdr.take (r : Rdr) (n : Nat) : List UInt8 × Rdr := if r.p.length < n then (List.replicate n 0, ⟨[], true⟩) else (r.p.take n, ⟨r.p.drop n, r.bad⟩)
def Rdr.num (r : Rdr) (n : Nat) : Nat × Rdr := (numB (r.take n).1, (r.take n).2)
def Rdr.txt (r : Rdr) : List UInt8 × Rdr := ((r.num 1).2).take (r.num 1).1
theorem take_len (r : Rdr) (n : Nat) : (r.take n).1.length = n := by
  unfold Rdr.take
  split
  · exact List.length_replicate
  · simp only [List.length_take]; omega
theorem take_app {x p : List UInt8} {b : Bool} {n : Nat} (h : x.length = n) : Rdr.take ⟨x ++ p, b⟩ n = (x, ⟨p, b⟩) := by
  subst h
  unfold Rdr.take
  rw [if_neg (by rw [List.length_append]; omega), List.take_left, List.drop_left]
theorem take_ok {r : Rdr} {n : Nat} (h : (r.take n).2.bad = false) : r.bad = false ∧ r.p = (r.take n).1 ++ (r.take n).2.p := by
  unfold Rdr.take at h ⊢
  split at h
  · cases h
  · rename_i hn
    rw [if_neg hn]
    exact ⟨h, (List.take_append_drop n r.p).symm⟩
def rdAll (p : List UInt8) : Nat × Tk × Rdr :=
  let a := Rdr.num ⟨p, false⟩ 1
  let b := a.2.num 4
  let c := b.2.num 8
  let d := c.2.num 8
  let e := d.2.num 8
  let f := e.2.num 8
  let g := f.2.txt
  let h := g.2.txt
  let i := h.2.txt
  (a.1, ⟨b.1, c.1, d.1, e.1, f.1, g.1, h.1, i.1⟩, i.2)
open Classical in
noncomputable def readT (p : List UInt8) : Option Tk := if (rdAll p).2.2.bad = false ∧ (rdAll p).2.2.p = [] ∧ (rdAll p).1 = 1 ∧ (rdAll p).2.1.Right then some (rdAll p).2.1 else none
theorem num_app {n k : Nat} {p : List UInt8} {b : Bool} (h : n < 256 ^ k) (hk : k ≤ 8) (h2 : n < 18446744073709551616) : Rdr.num ⟨be k n ++ p, b⟩ k = (n, ⟨p, b⟩) := by
  unfold Rdr.num
  rw [take_app (be_length k n), numB_be k n h h2]
theorem txt_app {l p : List UInt8} {b : Bool} (h : l.length < 256) : Rdr.txt ⟨txtL l ++ p, b⟩ = (l, ⟨p, b⟩) := by
  have e : Rdr.num ⟨txtL l ++ p, b⟩ 1 = (l.length, ⟨l ++ p, b⟩) := by
    unfold Rdr.num
    rw [show txtL l ++ p = [UInt8.ofNat l.length] ++ (l ++ p) from rfl, take_app (x := [UInt8.ofNat l.length]) (n := 1) rfl]
    simp only [numB, List.foldl_cons, List.foldl_nil]
    rw [ofNat_toNat _ h]
    congr 1
    omega
  unfold Rdr.txt
  rw [e]
  exact take_app rfl
theorem read_body {t : Tk} (h : t.Right) : rdAll (bodyL t) = (1, t, ⟨[], false⟩) := by
  have l1 := plainF_len h.ten
  have l2 := namedT_len h.usr
  have l3 := plainF_len h.rol
  have q1 := h.e2
  have q2 := h.s2
  have q3 := h.g2
  have q4 := h.lt
  have q5 := h.le
  have p8 : (256 : Nat) ^ 8 = 18446744073709551616 := by decide
  have p4 : (256 : Nat) ^ 4 = 4294967296 := by decide
  have e1 : Rdr.num ⟨bodyL t, false⟩ 1 = (1, ⟨be 4 t.epoch ++ (be 8 t.serial ++ (be 8 t.fro ++ (be 8 t.til ++ (be 8 t.gen ++ (txtL t.ten ++ (txtL t.usr ++ txtL t.rol)))))), false⟩) := by
    unfold Rdr.num
    rw [show bodyL t = [1] ++ (be 4 t.epoch ++ (be 8 t.serial ++ (be 8 t.fro ++ (be 8 t.til ++ (be 8 t.gen ++ (txtL t.ten ++ (txtL t.usr ++ txtL t.rol))))))) from rfl, take_app (x := [1]) (n := 1) rfl]
    rfl
  unfold rdAll
  simp only
  rw [e1]
  simp only
  rw [num_app (by omega) (by decide) (by omega)]
  simp only
  rw [num_app (by omega) (by decide) (by omega)]
  simp only
  rw [num_app (by omega) (by decide) (by omega)]
  simp only
  rw [num_app (by omega) (by decide) (by omega)]
  simp only
  rw [num_app (by omega) (by decide) (by omega)]
  simp only
  rw [txt_app (by omega)]
  simp only
  rw [txt_app (by omega)]
  simp only
  rw [show txtL t.rol = txtL t.rol ++ [] from (List.append_nil _).symm, txt_app (by omega)]
theorem num_ok {r : Rdr} {k : Nat} (hk : k ≤ 8) (h : (r.num k).2.bad = false) : r.bad = false ∧ r.p = be k (r.num k).1 ++ (r.num k).2.p := by
  obtain ⟨h1, h2⟩ := take_ok (r := r) (n := k) h
  refine ⟨h1, ?_⟩
  have e := be_numB k (r.take k).1 (take_len r k) hk
  show r.p = be k (numB (r.take k).1) ++ (r.take k).2.p
  rw [e]
  exact h2
theorem txt_ok {r : Rdr} (h : r.txt.2.bad = false) : r.bad = false ∧ r.p = txtL r.txt.1 ++ r.txt.2.p := by
  obtain ⟨h1, h2⟩ := take_ok (r := (r.num 1).2) (n := (r.num 1).1) h
  obtain ⟨h3, h4⟩ := num_ok (by decide) h1
  refine ⟨h3, ?_⟩
  rw [h4, h2]
  show be 1 (r.num 1).1 ++ (r.txt.1 ++ r.txt.2.p) = UInt8.ofNat r.txt.1.length :: (r.txt.1 ++ r.txt.2.p)
  have hl : r.txt.1.length = (r.num 1).1 := take_len _ _
  have hlt : (r.num 1).1 < 256 := numB_lt 1 _ (take_len r 1) (by decide)
  rw [hl]
  simp only [be, List.nil_append, List.cons_append]
  rw [Nat.mod_eq_of_lt hlt]
theorem body_read {p : List UInt8} (hb : (rdAll p).2.2.bad = false) (hp : (rdAll p).2.2.p = []) (h1 : (rdAll p).1 = 1) : bodyL (rdAll p).2.1 = p := by
  unfold rdAll at hb hp h1 ⊢
  simp only at hb hp h1 ⊢
  have k1 := @num_ok ⟨p, false⟩ 1 (by decide)
  generalize Rdr.num ⟨p, false⟩ 1 = a at hb hp h1 k1 ⊢
  have k2 := @num_ok a.2 4 (by decide)
  generalize a.2.num 4 = b at hb hp k2 ⊢
  have k3 := @num_ok b.2 8 (by decide)
  generalize b.2.num 8 = c at hb hp k3 ⊢
  have k4 := @num_ok c.2 8 (by decide)
  generalize c.2.num 8 = d at hb hp k4 ⊢
  have k5 := @num_ok d.2 8 (by decide)
  generalize d.2.num 8 = e at hb hp k5 ⊢
  have k6 := @num_ok e.2 8 (by decide)
  generalize e.2.num 8 = f at hb hp k6 ⊢
  have k7 := @txt_ok f.2
  generalize f.2.txt = g at hb hp k7 ⊢
  have k8 := @txt_ok g.2
  generalize g.2.txt = h at hb hp k8 ⊢
  have k9 := @txt_ok h.2
  generalize h.2.txt = i at hb hp k9 ⊢
  obtain ⟨b9, e9⟩ := k9 hb
  obtain ⟨b8, e8⟩ := k8 b9
  obtain ⟨b7, e7⟩ := k7 b8
  obtain ⟨b6, e6⟩ := k6 b7
  obtain ⟨b5, e5⟩ := k5 b6
  obtain ⟨b4, e4⟩ := k4 b5
  obtain ⟨b3, e3⟩ := k3 b4
  obtain ⟨b2, e2⟩ := k2 b3
  obtain ⟨_, e1⟩ := k1 b2
  rw [hp, List.append_nil] at e9
  rw [e2, e3, e4, e5, e6, e7, e8, e9, h1] at e1
  rw [show p = _ from e1]
  rfl
theorem read_iff {p : List UInt8} {t : Tk} : readT p = some t ↔ t.Right ∧ bodyL t = p := by
  unfold readT
  constructor
  · intro h
    split at h
    · rename_i q
      obtain rfl := Option.some.inj h
      exact ⟨q.2.2.2, body_read q.1 q.2.1 q.2.2.1⟩
    · cases h
  · rintro ⟨h, rfl⟩
    rw [read_body h, if_pos ⟨rfl, rfl, rfl, h⟩]
end Go.Proofs.YtlhcgofdfhfegaaGreatDoor.Sx

namespace Go.Proofs.YtlhcgofdfhfegaaGreatDoor.Sx
open Go
section
variable {cx : Cx} {n : Nat} {H : List Bk} {F : List Fact} {w : World}
theorem calls_of_tri {f : FuncId} {fn : Func} {c : Code} {R : Value → World → Prop} (g : Good cx) (hf : cx.P.funcs[f]? = some fn) (hb : fn.body = some c) (hN : fn.ntmps = cx.N)
    {β : Va} (svs : List SV) (n : Nat) (H : List Bk) (F : List Fact) (hlen : Nat.ble svs.length cx.N = true) (hltB : allLt n svs = true) (hs : Sat cx β n H F w)
    (hw : Tri cx c (fnPost cx fn.results.toList R) n (pairs 0 svs) H F) (hr : cx.rnd = none := by rfl) (hm : β.marks = [] := by rfl) (hp0 : cx.pn = [] := by rfl) :
    Calls cx.P f (svs.map (SV.val β)).toArray w fun e w' => ∃ v, e = .returned v ∧ R v w' := by
  have hfe : cx.fence = Fence.wide := by unfold Cx.fence; rw [hr]
  refine (callsIn_wide (n := 0)).1 (callsIn_of_wp_marks hf hb trivial ?_)
  have hlt := allLt_mem hltB
  have hlen' : svs.length ≤ cx.N := Nat.le_of_ble_eq_true hlen
  have hi : Inv cx β n (pairs 0 svs) H F { tmps := (svs.map (SV.val β)).toArray ++ Array.replicate (fn.ntmps - (svs.map (SV.val β)).toArray.size) undef, defers := [] } w := by
    refine ⟨fun t s ht => ?_, ?_, by rw [hm]; rfl, fun t s ht => ?_, hs⟩
    · obtain ⟨j, rfl, hj⟩ := pairs_get svs 0 t s ht
      have hjl : j < svs.length := (List.getElem?_eq_some_iff.1 hj).1
      rw [Array.getElem?_append_left (by simp; omega)]
      simp [hj]
    · simp [hN]; omega
    · obtain ⟨j, rfl, hj⟩ := pairs_get svs 0 t s ht
      exact hlt s (List.mem_of_getElem? hj)
  have h0 := hw.run β _ w hi
  rw [hfe] at h0
  refine wpIn_mono h0 fun e a' w' hq => ?_
  have key : After cx (RetWP cx fn.results.toList R) a' w' → LeavesInM Fence.wide 0 cx.P fn a'.tmps (fun e w' => ∃ v, e = .returned v ∧ R v w') a'.defers .returning w' := by
    rintro ⟨β', n', env', H', F', h', hp⟩
    rw [← hfe]
    have hd := h'.df
    obtain ⟨tmps, defers⟩ := a'
    simp only at hd
    subst hd
    exact leaves_sx g hr hp0 _ β' w' rfl h' hp
  cases e with
  | normal => exact key hq
  | ret => exact key hq
  | exit id => obtain ⟨_, _, _, _, _, _, hq⟩ := hq; exact hq.elim
  | goto l => obtain ⟨_, _, _, _, _, _, hq⟩ := hq; exact hq.elim
  | panic ch => exact hq.elim
  | outgrown => exact hq.elim
theorem con_of_tri {f : FuncId} {fn : Func} {c : Code} {Gs : List Fact} {R : Value → List Fact → Prop} (g : Good cx) (hf : cx.P.funcs[f]? = some fn) (hb : fn.body = some c) (hN : fn.ntmps = cx.N)
    {β : Va} (svs : List SV) (n : Nat) (H : List Bk) (F : List Fact) (hlen : Nat.ble svs.length cx.N = true) (hltB : allLt n svs = true) (hs : Sat cx β n H F w)
    (hw : Tri cx c (fnPost cx fn.results.toList (Fin w Gs R)) n (pairs 0 svs) H F) (hr : cx.rnd = none := by rfl) (hm : β.marks = [] := by rfl) (hp0 : cx.pn = [] := by rfl) :
    Con cx.P f (svs.map (SV.val β)).toArray w Gs R := calls_of_tri g hf hb hN svs n H F hlen hltB hs hw hr hm hp0
theorem tri_seq (g : Good cx) {c1 c2 : Code} {Q : Exit → KT} {env : Env} (h : cwp cx c1 (andThen (fun n env H F => Tri cx c2 Q n env H F) Q) n env H F) : Tri cx (.seq c1 c2) Q n env H F := by
  refine ⟨fun β a w hi => wpIn_seq (wpIn_mono ((cwp_sound g c1 _ n env H F h).run β a w hi) fun e a w hq => ?_)⟩
  cases e with
  | normal =>
    obtain ⟨β', n', env', H', F', h', hq'⟩ := hq
    exact hq'.run β' a w h'
  | exit i => exact hq
  | goto l => exact hq
  | ret => exact hq
  | panic c => exact hq
  | outgrown => exact hq
theorem tri_of (g : Good cx) {c : Code} {Q : Exit → KT} {env : Env} (h : cwp cx c Q n env H F) : Tri cx c Q n env H F := cwp_sound g c Q n env H F h
end
theorem tri_seqJ {cx : Cx} {n : Nat} {H : List Bk} {F : List Fact} {ι : Type} (g : Good cx) {c1 c2 : Code} {Q : Exit → KT} {env : Env} (T : ι → Prop) (n' : Nat) (E : ι → Env) (HH : ι → List Bk) (FF : ι → List Fact) (hkey : ∀ i, T i → Tri cx c2 Q n' (E i) (HH i) (FF i))
    (h : cwp cx c1 (andThen (fun n env H F => EntX cx n env H F T n' E HH FF) Q) n env H F) : Tri cx (.seq c1 c2) Q n env H F := by
  refine ⟨fun β a w hi => wpIn_seq (wpIn_mono ((cwp_sound g c1 _ n env H F h).run β a w hi) fun e a w hq => ?_)⟩
  cases e with
  | normal =>
    obtain ⟨β', n', env', H', F', h', hq'⟩ := hq
    exact (tri_join T _ E HH FF hkey hq').run β' a w h'
  | exit i => exact hq
  | goto l => exact hq
  | ret => exact hq
  | panic c => exact hq
  | outgrown => exact hq
end Go.Proofs.YtlhcgofdfhfegaaGreatDoor.Sx

namespace Go.Proofs.YtlhcgofdfhfegaaGreatDoor.Sx
open Go
section
variable {cx : Cx} {n : Nat} {H : List Bk} {F : List Fact} {env : Env}
end
end Go.Proofs.YtlhcgofdfhfegaaGreatDoor.Sx

namespace Go.Proofs.YtlhcgofdfhfegaaGreatDoor.Sx
open Go
def Reads : List Fact → Prop
  | [] => True
  | f :: r => f.own = false ∧ Reads r
theorem Reads.mem : ∀ {l : List Fact}, Reads l → ∀ f ∈ l, f.own = false
  | f :: r, h, g, hg => by
    rcases List.mem_cons.1 hg with rfl | hg
    · exact h.1
    · exact h.2.mem g hg
section
variable {cx : Cx} {w : World}
theorem go_sat {Gs Rs : List Fact} (hm : Mem w (Gs ++ Rs)) (hR : Reads Rs) (hW : cx.W0 = w) (hS : cx.S = Un Gs) (hbs : cx.bs = []) (hr : cx.rnd = none) (hpn : cx.pn = []) : Sat cx Va.z 0 [] (Gs ++ Rs) w :=
  hm.sat0 hW (by rw [hS]; exact ownIn hR.mem) hbs rfl rfl hr hpn
theorem con_go {f : FuncId} {fn : Func} {c : Code} {Gs : List Fact} {R : Value → List Fact → Prop} (g : Good cx) (hf : cx.P.funcs[f]? = some fn) (svs : List SV) (Rs : List Fact) (hm : Mem w (Gs ++ Rs))
    (hw : cwp cx c (fnPost cx fn.results.toList (Fin w Gs R)) 0 (pairs 0 svs) [] (Gs ++ Rs)) (hR : Reads Rs := by first | exact trivial | exact ⟨rfl, trivial⟩ | exact ⟨rfl, rfl, trivial⟩ | exact ⟨rfl, rfl, rfl, trivial⟩ | exact ⟨rfl, rfl, rfl, rfl, trivial⟩ | exact ⟨rfl, rfl, rfl, rfl, rfl, trivial⟩)
    (hb : fn.body = some c := by rfl) (hN : fn.ntmps = cx.N := by rfl) (hlen : Nat.ble svs.length cx.N = true := by rfl) (hltB : allLt 0 svs = true := by rfl) (hW : cx.W0 = w := by rfl) (hS : cx.S = Un Gs := by rfl) (hbs : cx.bs = [] := by rfl) (hr : cx.rnd = none := by rfl) (hpn : cx.pn = [] := by rfl) :
    Con cx.P f (svs.map (SV.val Va.z)).toArray w Gs R :=
  con_of_sx g hf hb hN svs 0 [] (Gs ++ Rs) hlen hltB (go_sat hm hR hW hS hbs hr hpn) hw hr rfl hpn
theorem con_goT {f : FuncId} {fn : Func} {c : Code} {Gs : List Fact} {R : Value → List Fact → Prop} (g : Good cx) (hf : cx.P.funcs[f]? = some fn) (svs : List SV) (Rs : List Fact) (hm : Mem w (Gs ++ Rs))
    (hw : Tri cx c (fnPost cx fn.results.toList (Fin w Gs R)) 0 (pairs 0 svs) [] (Gs ++ Rs)) (hR : Reads Rs := by first | exact trivial | exact ⟨rfl, trivial⟩ | exact ⟨rfl, rfl, trivial⟩ | exact ⟨rfl, rfl, rfl, trivial⟩ | exact ⟨rfl, rfl, rfl, rfl, trivial⟩ | exact ⟨rfl, rfl, rfl, rfl, rfl, trivial⟩)
    (hb : fn.body = some c := by rfl) (hN : fn.ntmps = cx.N := by rfl) (hlen : Nat.ble svs.length cx.N = true := by rfl) (hltB : allLt 0 svs = true := by rfl) (hW : cx.W0 = w := by rfl) (hS : cx.S = Un Gs := by rfl) (hbs : cx.bs = [] := by rfl) (hr : cx.rnd = none := by rfl) (hpn : cx.pn = [] := by rfl) :
    Con cx.P f (svs.map (SV.val Va.z)).toArray w Gs R :=
  con_of_tri g hf hb hN svs 0 [] (Gs ++ Rs) hlen hltB (go_sat hm hR hW hS hbs hr hpn) hw hr rfl hpn
end
end Go.Proofs.YtlhcgofdfhfegaaGreatDoor.Sx

namespace Go.Proofs.YtlhcgofdfhfegaaGreatDoor.Sx
open Go
def e62 : Bool → UInt8
  | true => 45
  | false => 43
def e63 : Bool → UInt8
  | true => 95
  | false => 47
def valA (url : Bool) (c : UInt8) : Option Nat :=
  if 65 ≤ c.toNat ∧ c.toNat ≤ 90 then some (c.toNat - 65) else if 97 ≤ c.toNat ∧ c.toNat ≤ 122 then some (c.toNat - 97 + 26) else if 48 ≤ c.toNat ∧ c.toNat ≤ 57 then some (c.toNat - 48 + 52)
  else if c = e62 url then some 62 else if c = e63 url then some 63 else none
theorem valA_lt {url : Bool} {c : UInt8} {n : Nat} (h : valA url c = some n) : n < 64 := by
  have key : ∀ u : Bool, ∀ m : _root_.Fin 256, ((valA u (UInt8.ofNat m.1)).all fun k => decide (k < 64)) = true := by decide +kernel
  have h2 := key url ⟨c.toNat, c.toNat_lt⟩
  simp only [UInt8.ofNat_toNat, h, Option.all_some, decide_eq_true_eq] at h2
  exact h2
def letA (url : Bool) (n : Nat) : UInt8 :=
  if n < 26 then UInt8.ofNat (65 + n) else if n < 52 then UInt8.ofNat (97 + n - 26) else if n < 62 then UInt8.ofNat (48 + n - 52) else if n = 62 then e62 url else e63 url
def u8n (n : Nat) : UInt8 := UInt8.ofNat n
def decG : List Nat → Option (List UInt8)
  | a :: b :: c :: d :: r => (decG r).map fun l => u8n (a * 4 + b / 16) :: u8n (b % 16 * 16 + c / 4) :: u8n (c % 4 * 64 + d) :: l
  | [a, b, c] => if c % 4 = 0 then some [u8n (a * 4 + b / 16), u8n (b % 16 * 16 + c / 4)] else none
  | [a, b] => if b % 16 = 0 then some [u8n (a * 4 + b / 16)] else none
  | [_] => none
  | [] => some []
def valsA (url : Bool) : List UInt8 → Option (List Nat)
  | [] => some []
  | c :: r => match valA url c, valsA url r with
    | some v, some vs => some (v :: vs)
    | _, _ => none
def decS (url : Bool) (s : List UInt8) : Option (List UInt8) := (valsA url s).bind decG
def decU (s : List UInt8) : Option (List UInt8) := if s.length % 4 = 1 then none else decS true s
def runC (c : UInt8) : Bool := decide (65 ≤ c.toNat ∧ c.toNat ≤ 90) || (decide (97 ≤ c.toNat ∧ c.toNat ≤ 122) || (decide (48 ≤ c.toNat ∧ c.toNat ≤ 57) || (decide (c = 43) || (decide (c = 47) || (decide (c = 45) || decide (c = 95))))))
def rblank (r : Int) : Bool := decide (r = 160 ∨ r = 5760 ∨ (8192 ≤ r ∧ r ≤ 8202) ∨ r = 8239 ∨ r = 8287 ∨ r = 12288)
def rgoes (r : Int) : Bool := decide (r = 173 ∨ (8203 ≤ r ∧ r ≤ 8205) ∨ r = 8288 ∨ (65024 ≤ r ∧ r ≤ 65039) ∨ r = 65279)
def rbars (r : Int) : Bool := decide (r ≤ 31 ∨ (127 ≤ r ∧ r ≤ 159) ∨ (8232 ≤ r ∧ r ≤ 8238) ∨ (8294 ≤ r ∧ r ≤ 8297) ∨ (57344 ≤ r ∧ r ≤ 63743) ∨ 983040 ≤ r ∨ (65529 ≤ r ∧ r ≤ 65533) ∨ (64976 ≤ r ∧ r ≤ 65007) ∨ 65534 ≤ r % 65536)
theorem rblank_eq (r : Int) : rblank r = inSp r blanksL := by
  unfold rblank inSp blanksL
  simp only [List.any_cons, List.any_nil, Bool.or_false]
  rw [Bool.eq_iff_iff]
  simp only [decide_eq_true_eq, Bool.or_eq_true, Bool.and_eq_true]
  omega
theorem rgoes_eq (r : Int) : rgoes r = inSp r nothingL := by
  unfold rgoes inSp nothingL
  simp only [List.any_cons, List.any_nil, Bool.or_false]
  rw [Bool.eq_iff_iff]
  simp only [decide_eq_true_eq, Bool.or_eq_true, Bool.and_eq_true]
  omega
theorem and_fffe {x : Nat} (hx : x < 2147483648) : bits .and .i32 (x : Int) 65534 = 65534 ↔ 65534 ≤ x % 65536 := by
  have e : bits .and .i32 (x : Int) 65534 = ((x &&& 65534 : Nat) : Int) := by
    show IntKind.i32.wrap ((((BitVec.ofInt 32 (x : Int)) &&& (BitVec.ofInt 32 65534)).toNat : Nat) : Int) = _
    have h1 : (BitVec.ofInt 32 (x : Int)).toNat = x := by rw [BitVec.toNat_ofInt]; omega
    have h2 : (BitVec.ofInt 32 65534).toNat = 65534 := by decide
    rw [BitVec.toNat_and, h1, h2]
    have := Nat.and_le_left (n := x) (m := 65534)
    exact wrap_i32 (by omega) (by omega)
  rw [e]
  have h : x &&& 65534 = (x % 65536) / 2 * 2 := by
    apply Nat.eq_of_testBit_eq
    intro i
    have h3 : (x % 65536) / 2 * 2 = ((x % 2 ^ 16) >>> 1) <<< 1 := by rw [Nat.shiftRight_eq_div_pow, Nat.shiftLeft_eq]
    have h4 : (65534 : Nat) = (2 ^ 15 - 1) <<< 1 := by decide
    rw [h3, h4, Nat.testBit_and, Nat.testBit_shiftLeft, Nat.testBit_shiftLeft, Nat.testBit_shiftRight, Nat.testBit_mod_two_pow, Nat.testBit_two_pow_sub_one]
    by_cases hi : 1 ≤ i
    · have e2 : 1 + (i - 1) = i := by omega
      have e3 : decide (i - 1 < 15) = decide (i < 16) := decide_eq_decide.2 (by omega)
      rw [decide_eq_true hi, e2, e3, Bool.true_and, Bool.true_and, Bool.and_comm]
    · rw [decide_eq_false hi]; simp
  rw [h]
  omega
theorem rbars_eq {x : Nat} (hx : x ≤ 1114111) : rbars (x : Int) = badZ (x : Int) := by
  unfold rbars badZ inSp barredL
  simp only [List.any_cons, List.any_nil, Bool.or_false]
  rw [Bool.eq_iff_iff]
  simp only [decide_eq_true_eq, Bool.or_eq_true, Bool.and_eq_true]
  rw [and_fffe (by omega)]
  omega
def rbytesL (r : Nat) : List UInt8 :=
  if r < 128 then [UInt8.ofNat r]
  else if r < 2048 then [UInt8.ofNat (192 + r / 64), UInt8.ofNat (128 + r % 64)]
  else if r < 65536 then [UInt8.ofNat (224 + r / 4096), UInt8.ofNat (128 + r / 64 % 64), UInt8.ofNat (128 + r % 64)]
  else [UInt8.ofNat (240 + r / 262144), UInt8.ofNat (128 + r / 4096 % 64), UInt8.ofNat (128 + r / 64 % 64), UInt8.ofNat (128 + r % 64)]
theorem low6 (y : Nat) : 128 ||| (UInt8.ofNat y &&& 63) = UInt8.ofNat (128 + y % 64) := by
  have key : ∀ n : _root_.Fin 256, 128 ||| (UInt8.ofNat n.1 &&& 63) = UInt8.ofNat (128 + n.1 % 64) := by decide +kernel
  have h := key ⟨y % 256, Nat.mod_lt _ (by decide)⟩
  have e1 : UInt8.ofNat (y % 256) = UInt8.ofNat y := by apply UInt8.toNat_inj.1; simp
  simp only [e1] at h
  rw [h]
  congr 2
  omega
theorem hi2 {y : Nat} (h : y < 32) : 192 ||| UInt8.ofNat y = UInt8.ofNat (192 + y) := by
  have key : ∀ n : _root_.Fin 32, 192 ||| UInt8.ofNat n.1 = UInt8.ofNat (192 + n.1) := by decide +kernel
  exact key ⟨y, h⟩
theorem hi3 {y : Nat} (h : y < 16) : 224 ||| UInt8.ofNat y = UInt8.ofNat (224 + y) := by
  have key : ∀ n : _root_.Fin 16, 224 ||| UInt8.ofNat n.1 = UInt8.ofNat (224 + n.1) := by decide +kernel
  exact key ⟨y, h⟩
theorem hi4 {y : Nat} (h : y < 8) : 240 ||| UInt8.ofNat y = UInt8.ofNat (240 + y) := by
  have key : ∀ n : _root_.Fin 8, 240 ||| UInt8.ofNat n.1 = UInt8.ofNat (240 + n.1) := by decide +kernel
  exact key ⟨y, h⟩
theorem encL_eq {r : Nat} (hr : r ≤ 1114111) : encL r = rbytesL r := by
  unfold rbytesL
  have hf : formOf r = if r < 128 then form0 else if r < 2048 then ⟨2, 0xe0, 0xc0, 0x80⟩ else if r < 65536 then ⟨3, 0xf0, 0xe0, 0x800⟩ else ⟨4, 0xf8, 0xf0, 0x10000⟩ := by
    simp only [formOf, Nam.fms, List.foldl_cons, List.foldl_nil, pickF, Nat.zero_le, if_true]
    by_cases h1 : r < 128
    · rw [if_pos h1, if_neg (by omega), if_neg (by omega), if_neg (by omega)]; rfl
    · by_cases h2 : r < 2048
      · rw [if_neg h1, if_pos h2, if_neg (by omega), if_neg (by omega), if_pos (by omega)]
      · by_cases h3 : r < 65536
        · rw [if_neg h1, if_neg h2, if_pos h3, if_neg (by omega), if_pos (by omega)]
        · rw [if_neg h1, if_neg h2, if_neg h3, if_pos (by omega)]
  unfold encL
  rw [hf]
  by_cases h1 : r < 128
  · rw [if_pos h1, if_pos h1]
    show [0 ||| UInt8.ofNat (r / 1)] = _
    rw [Nat.div_one, UInt8.zero_or]
  · by_cases h2 : r < 2048
    · rw [if_neg h1, if_pos h2, if_neg h1, if_pos h2]
      show [192 ||| UInt8.ofNat (r / 64), 128 ||| (UInt8.ofNat (r / 1) &&& 63)] = _
      rw [low6, hi2 (by omega), Nat.div_one]
    · by_cases h3 : r < 65536
      · rw [if_neg h1, if_neg h2, if_pos h3, if_neg h1, if_neg h2, if_pos h3]
        show [224 ||| UInt8.ofNat (r / 4096), 128 ||| (UInt8.ofNat (r / 64) &&& 63), 128 ||| (UInt8.ofNat (r / 1) &&& 63)] = _
        rw [low6, low6, hi3 (by omega), Nat.div_one]
      · rw [if_neg h1, if_neg h2, if_neg h3, if_neg h1, if_neg h2, if_neg h3]
        show [240 ||| UInt8.ofNat (r / 262144), 128 ||| (UInt8.ofNat (r / 4096) &&& 63), 128 ||| (UInt8.ofNat (r / 64) &&& 63), 128 ||| (UInt8.ofNat (r / 1) &&& 63)] = _
        rw [low6, low6, low6, hi4 (by omega), Nat.div_one]
def prepR : List Int → Option (List UInt8)
  | [] => some []
  | z :: l => if rblank z = true then (prepR l).map ([32] ++ ·) else if rgoes z = true then prepR l else if rbars z = true then none else (prepR l).map (rbytesL z.toNat ++ ·)
theorem prepR_eq : ∀ (l : List Int), (∀ z ∈ l, ∃ x : Nat, z = (x : Int) ∧ x ≤ 1114111) → prepR l = if (l.flatMap prep1).any badZ = true then none else some ((l.flatMap prep1).flatMap encZ)
  | [], _ => rfl
  | z :: l, h => by
    obtain ⟨x, rfl, hx⟩ := h z List.mem_cons_self
    have ih := prepR_eq l (fun y hy => h y (List.mem_cons_of_mem _ hy))
    have e32 : encZ 32 = [32] := by decide
    have b32 : badZ 32 = false := by decide
    simp only [prepR, List.flatMap_cons, prep1]
    rw [rblank_eq, rgoes_eq, ih]
    by_cases h1 : inSp (x : Int) blanksL = true
    · rw [if_pos h1, if_pos h1]
      by_cases hb : (l.flatMap prep1).any badZ = true
      · rw [if_pos hb, if_pos (by rw [List.any_append, hb]; simp)]; rfl
      · rw [if_neg hb, if_neg (by rw [List.any_append]; simp only [List.any_cons, b32, List.any_nil, Bool.or_false, Bool.false_or]; exact hb)]
        simp only [Option.map_some, List.flatMap_append, List.flatMap_cons, List.flatMap_nil, e32, List.append_nil]
    · rw [if_neg h1, if_neg h1]
      by_cases h2 : inSp (x : Int) nothingL = true
      · rw [if_pos h2, if_pos h2]; rfl
      · rw [if_neg h2, if_neg h2, rbars_eq hx]
        by_cases h3 : badZ (x : Int) = true
        · rw [if_pos h3, if_pos (by rw [List.any_append, List.any_cons, h3]; rfl)]
        · rw [if_neg h3]
          have h3' : badZ (x : Int) = false := by simpa using h3
          by_cases hb : (l.flatMap prep1).any badZ = true
          · rw [if_pos hb, if_pos (by rw [List.any_append, hb]; simp)]; rfl
          · rw [if_neg hb, if_neg (by rw [List.any_append, List.any_cons, h3']; simpa using hb)]
            simp only [Option.map_some, List.flatMap_append, List.flatMap_cons, List.flatMap_nil, List.append_nil]
            rw [encZ, encL_eq (by omega)]
theorem signs_val {l : List UInt8} (hv : validB l = true) : ∀ x ∈ runesAt l 0, ∃ r : Nat, x.2 = (r : Int) ∧ Nam.sign r = true ∧ r ≤ 1114111 := by
  intro x hx
  have h := runesAt_vals l _ 0 (Nat.le_refl _)
  rw [List.drop_zero] at h
  have hm : x.2 ∈ (Nam.runes l).map runeI := by rw [← h]; exact List.mem_map.2 ⟨x, hx, rfl⟩
  obtain ⟨o, ho, he⟩ := List.mem_map.1 hm
  cases o with
  | none => have := List.all_eq_true.1 hv none ho; cases this
  | some r =>
    have hs := runes_sign l.length l (Nat.le_refl _) ho
    exact ⟨r, he.symm, hs, sign_le hs⟩
theorem rprep_eq (l : List UInt8) : prepF l = if validB l = true then (match prepR ((runesAt l 0).map (·.2)) with | none => (([], 5) : List UInt8 × Int) | some p => (p, 0)) else ([], 4) := by
  unfold prepF
  by_cases hv : validB l = true
  · rw [if_pos hv, if_pos hv]
    have h := prepR_eq ((runesAt l 0).map (·.2)) (fun z hz => by
      obtain ⟨x, hx, rfl⟩ := List.mem_map.1 hz
      obtain ⟨r, h1, _, h3⟩ := signs_val hv x hx
      exact ⟨r, h1, h3⟩)
    have e1 : prepAt (runesAt l 0) = ((runesAt l 0).map (·.2)).flatMap prep1 := by rw [prepAt, List.flatMap_map]
    rw [h, e1]
    split <;> rfl
  · rw [if_neg hv, if_neg hv]
end Go.Proofs.YtlhcgofdfhfegaaGreatDoor.Sx

namespace Go.Proofs.YtlhcgofdfhfegaaGreatDoor.Sx
open Go
attribute [local irreducible] Calls
def lead (b : UInt8) : Option (Nat × Nat) :=
  if 194 ≤ b.toNat ∧ b.toNat ≤ 223 then some (2, b.toNat - 192)
  else if 224 ≤ b.toNat ∧ b.toNat ≤ 239 then some (3, b.toNat - 224)
  else if 240 ≤ b.toNat ∧ b.toNat ≤ 244 then some (4, b.toNat - 240)
  else none
theorem tailR_bound : ∀ {l : List UInt8} {r q : Nat}, Nam.tailR l r = some q → r * 64 ^ l.length ≤ q ∧ q < (r + 1) * 64 ^ l.length
  | [], r, q, h => by
    obtain rfl := Option.some.inj h
    simp
  | b :: t, r, q, h => by
    simp only [Nam.tailR] at h
    split at h
    · obtain ⟨h1, h2⟩ := tailR_bound h
      have hb : b.toNat % 64 < 64 := Nat.mod_lt _ (by decide)
      rw [List.length_cons, Nat.pow_succ]
      constructor
      · have : r * (64 ^ t.length * 64) = (r * 64) * 64 ^ t.length := by rw [Nat.mul_comm (64 ^ t.length), Nat.mul_assoc]
        rw [this]
        exact Nat.le_trans (Nat.mul_le_mul_right _ (by omega)) h1
      · have : (r + 1) * (64 ^ t.length * 64) = ((r + 1) * 64) * 64 ^ t.length := by rw [Nat.mul_comm (64 ^ t.length), Nat.mul_assoc]
        rw [this]
        exact Nat.lt_of_lt_of_le h2 (Nat.mul_le_mul_right _ (by omega))
    · cases h
theorem lead_bits (b : UInt8) : (b.toNat < 128 → b &&& 0x80 = 0 ∧ (b &&& ~~~0x80).toNat = b.toNat) ∧ (192 ≤ b.toNat ∧ b.toNat ≤ 223 → b &&& 0xe0 = 0xc0 ∧ (b &&& ~~~0xe0).toNat = b.toNat - 192) ∧ (224 ≤ b.toNat ∧ b.toNat ≤ 239 → b &&& 0xf0 = 0xe0 ∧ (b &&& ~~~0xf0).toNat = b.toNat - 224) ∧ (240 ≤ b.toNat ∧ b.toNat ≤ 247 → b &&& 0xf8 = 0xf0 ∧ (b &&& ~~~0xf8).toNat = b.toNat - 240) ∧ ((128 ≤ b.toNat ∧ b.toNat ≤ 191) ∨ 248 ≤ b.toNat → ¬ b &&& 0x80 = 0 ∧ ¬ b &&& 0xe0 = 0xc0 ∧ ¬ b &&& 0xf0 = 0xe0 ∧ ¬ b &&& 0xf8 = 0xf0) := by
  refine Nam.u8_all (p := fun b => (b.toNat < 128 → b &&& 0x80 = 0 ∧ (b &&& ~~~0x80).toNat = b.toNat) ∧ (192 ≤ b.toNat ∧ b.toNat ≤ 223 → b &&& 0xe0 = 0xc0 ∧ (b &&& ~~~0xe0).toNat = b.toNat - 192) ∧ (224 ≤ b.toNat ∧ b.toNat ≤ 239 → b &&& 0xf0 = 0xe0 ∧ (b &&& ~~~0xf0).toNat = b.toNat - 224) ∧ (240 ≤ b.toNat ∧ b.toNat ≤ 247 → b &&& 0xf8 = 0xf0 ∧ (b &&& ~~~0xf8).toNat = b.toNat - 240) ∧ ((128 ≤ b.toNat ∧ b.toNat ≤ 191) ∨ 248 ≤ b.toNat → ¬ b &&& 0x80 = 0 ∧ ¬ b &&& 0xe0 = 0xc0 ∧ ¬ b &&& 0xf0 = 0xe0 ∧ ¬ b &&& 0xf8 = 0xf0)) ?_ b
  decide +kernel
theorem decL_form {b : UInt8} {t : List UInt8} {f : Nam.Fm} {r0 : Nat} (hf : f ∈ Nam.fms) (hb : b &&& f.mask = f.lead) (hr : (b &&& ~~~f.mask).toNat = r0) :
    Nam.decL (b :: t) = if (b :: t).length < f.size then (none, 1) else match Nam.tailR (t.take (f.size - 1)) r0 with
      | some r => if f.least ≤ r ∧ Nam.sign r = true then (some r, f.size) else (none, 1)
      | none => (none, 1) := by
  unfold Nam.decL
  rw [Nam.find_form hf hb]
  by_cases hl : f.size ≤ (b :: t).length
  · rw [if_pos hl, if_neg (by omega)]
    simp only [Nam.tryF, hr]
    cases Nam.tailR (t.take (f.size - 1)) r0 with
    | none => rfl
    | some r =>
      simp only
      by_cases h : f.least ≤ r ∧ Nam.sign r = true
      · rw [if_pos h, if_pos h]
      · rw [if_neg h, if_neg h]
  · rw [if_neg hl, if_pos (by omega)]
theorem decL_low {b : UInt8} {t : List UInt8} (h : b.toNat < 128) : Nam.decL (b :: t) = (some b.toNat, 1) := by
  obtain ⟨h1, h2⟩ := (lead_bits b).1 h
  rw [decL_form (f := ⟨1, 0x80, 0, 0⟩) (by simp [Nam.fms]) h1 h2, if_neg (by simp)]
  show (if 0 ≤ b.toNat ∧ Nam.sign b.toNat = true then (some b.toNat, 1) else (none, 1)) = _
  rw [if_pos ⟨Nat.zero_le _, by simp only [Nam.sign, Bool.and_eq_true, Bool.or_eq_true, decide_eq_true_eq]; omega⟩]
def badR (n r : Nat) : Prop := (n = 3 ∧ r < 2048) ∨ (n = 4 ∧ r < 65536) ∨ (55296 ≤ r ∧ r ≤ 57343) ∨ 1114111 < r
theorem sign_iff {r : Nat} : Nam.sign r = true ↔ r ≤ 1114111 ∧ (r < 55296 ∨ 57343 < r) := by
  simp only [Nam.sign, Bool.and_eq_true, Bool.or_eq_true, decide_eq_true_eq]
open Classical in
theorem decL_lead {b : UInt8} {t : List UInt8} {n r0 : Nat} (h : lead b = some (n, r0)) : 2 ≤ n ∧ n ≤ 4 ∧ r0 < 32 ∧
    Nam.decL (b :: t) = if (b :: t).length < n then (none, 1) else match Nam.tailR (t.take (n - 1)) r0 with
      | some r => if badR n r then (none, 1) else (some r, n)
      | none => (none, 1) := by
  obtain ⟨_, k2, k3, k4, _⟩ := lead_bits b
  have hlt := b.toNat_lt
  have fin_ : ∀ {f : Nam.Fm}, f ∈ Nam.fms → f.size = n → b &&& f.mask = f.lead → (b &&& ~~~f.mask).toNat = r0 → (∀ r, Nam.tailR (t.take (n - 1)) r0 = some r → n ≤ (b :: t).length → ((f.least ≤ r ∧ Nam.sign r = true) ↔ ¬ badR n r)) →
      Nam.decL (b :: t) = if (b :: t).length < n then (none, 1) else match Nam.tailR (t.take (n - 1)) r0 with
        | some r => if badR n r then (none, 1) else (some r, n)
        | none => (none, 1) := by
    intro f hf hn h1 h2 hq
    subst hn
    rw [decL_form hf h1 h2]
    by_cases hl : (b :: t).length < f.size
    · rw [if_pos hl, if_pos hl]
    · rw [if_neg hl, if_neg hl]
      cases hr : Nam.tailR (t.take (f.size - 1)) r0 with
      | none => rfl
      | some r =>
        simp only
        have := hq r hr (by omega)
        by_cases hb : badR f.size r
        · rw [if_pos hb, if_neg (fun q => this.1 q hb)]
        · rw [if_neg hb, if_pos (this.2 hb)]
  unfold lead at h
  split at h
  · rename_i hh
    obtain ⟨rfl, rfl⟩ := Prod.mk.inj (Option.some.inj h)
    obtain ⟨h1, h2⟩ := k2 (by omega)
    refine ⟨by decide, by decide, by omega, fin_ (f := ⟨2, 0xe0, 0xc0, 0x80⟩) (by simp [Nam.fms]) rfl h1 h2 (fun r hr hl => ?_)⟩
    have hb := tailR_bound hr
    have hl1 : (t.take 1).length = 1 := by rw [List.length_take]; simp only [List.length_cons] at hl; omega
    rw [hl1] at hb
    rw [sign_iff]
    show (128 ≤ r ∧ _) ↔ _
    unfold badR
    omega
  · split at h
    · rename_i hh
      obtain ⟨rfl, rfl⟩ := Prod.mk.inj (Option.some.inj h)
      obtain ⟨h1, h2⟩ := k3 (by omega)
      refine ⟨by decide, by decide, by omega, fin_ (f := ⟨3, 0xf0, 0xe0, 0x800⟩) (by simp [Nam.fms]) rfl h1 h2 (fun r hr hl => ?_)⟩
      rw [sign_iff]
      show (2048 ≤ r ∧ _) ↔ _
      unfold badR
      omega
    · split at h
      · rename_i hh
        obtain ⟨rfl, rfl⟩ := Prod.mk.inj (Option.some.inj h)
        obtain ⟨h1, h2⟩ := k4 (by omega)
        refine ⟨by decide, by decide, by omega, fin_ (f := ⟨4, 0xf8, 0xf0, 0x10000⟩) (by simp [Nam.fms]) rfl h1 h2 (fun r hr hl => ?_)⟩
        rw [sign_iff]
        show (65536 ≤ r ∧ _) ↔ _
        unfold badR
        omega
      · cases h
theorem decL_bad {b : UInt8} {t : List UInt8} (h0 : ¬ b.toNat < 128) (h : lead b = none) : Nam.decL (b :: t) = (none, 1) := by
  obtain ⟨_, k2, k3, k4, k5⟩ := lead_bits b
  have hlt := b.toNat_lt
  unfold lead at h
  split at h
  · cases h
  · split at h
    · cases h
    · split at h
      · cases h
      · rename_i a1 a2 a3
        by_cases c1 : b.toNat = 192 ∨ b.toNat = 193
        · obtain ⟨h1, h2⟩ := k2 (by omega)
          rw [decL_form (f := ⟨2, 0xe0, 0xc0, 0x80⟩) (by simp [Nam.fms]) h1 h2]
          by_cases hl : (b :: t).length < 2
          · rw [if_pos hl]
          · rw [if_neg hl]
            show (match Nam.tailR (t.take 1) (b.toNat - 192) with | some r => if 128 ≤ r ∧ Nam.sign r = true then (some r, 2) else (none, 1) | none => (none, 1)) = _
            cases hr : Nam.tailR (t.take 1) (b.toNat - 192) with
            | none => rfl
            | some r =>
              have hb := tailR_bound hr
              have hl1 : (t.take 1).length = 1 := by rw [List.length_take]; simp only [List.length_cons] at hl; omega
              rw [hl1] at hb
              simp only
              rw [if_neg (by omega)]
        · by_cases c2 : 245 ≤ b.toNat ∧ b.toNat ≤ 247
          · obtain ⟨h1, h2⟩ := k4 (by omega)
            rw [decL_form (f := ⟨4, 0xf8, 0xf0, 0x10000⟩) (by simp [Nam.fms]) h1 h2]
            by_cases hl : (b :: t).length < 4
            · rw [if_pos hl]
            · rw [if_neg hl]
              show (match Nam.tailR (t.take 3) (b.toNat - 240) with | some r => if 65536 ≤ r ∧ Nam.sign r = true then (some r, 4) else (none, 1) | none => (none, 1)) = _
              cases hr : Nam.tailR (t.take 3) (b.toNat - 240) with
              | none => rfl
              | some r =>
                have hb := tailR_bound hr
                have hl1 : (t.take 3).length = 3 := by rw [List.length_take]; simp only [List.length_cons] at hl; omega
                rw [hl1] at hb
                simp only
                rw [if_neg (by rw [sign_iff]; omega)]
          · obtain ⟨p1, p2, p3, p4⟩ := k5 (by omega)
            unfold Nam.decL
            rw [Nam.find_none (fun f hf => by
              simp only [Nam.fms, List.mem_cons, List.not_mem_nil, or_false] at hf
              rcases hf with rfl | rfl | rfl | rfl
              · exact p1
              · exact p2
              · exact p3
              · exact p4)]
theorem rblank_c (w : World) (z : Int) : Pu Tryz.prog n_ostiaryref04_blank #[.int .i64 z] w (.bool (rblank z)) := by
  refine con_of_sx (cx := cx_ostiaryref04_blank w (Un [])) (good_ostiaryref04_blank w (Un [])) b_ostiaryref04_blank rfl rfl (β := Va.z) [.c (.v (.int .i64 z))] 0 [] [] rfl rfl (Sat.start rfl) ?_
  repeat' refine BIf.dec (fun h => ?_) (fun h => ?_)
  all_goals
    intro β w' hs
    refine hs.fin [] ⟨?_, rfl⟩
    show Value.bool _ = Value.bool _
    congr 1
    unfold rblank
    rw [Bool.eq_iff_iff]
    simp only [decide_eq_true_eq, Bool.false_eq_true, true_iff, false_iff]
    omega
theorem rgoes_c (w : World) (z : Int) : Pu Tryz.prog n_ostiaryref04_goes #[.int .i64 z] w (.bool (rgoes z)) := by
  refine con_of_sx (cx := cx_ostiaryref04_goes w (Un [])) (good_ostiaryref04_goes w (Un [])) b_ostiaryref04_goes rfl rfl (β := Va.z) [.c (.v (.int .i64 z))] 0 [] [] rfl rfl (Sat.start rfl) ?_
  repeat' refine BIf.dec (fun h => ?_) (fun h => ?_)
  all_goals
    intro β w' hs
    refine hs.fin [] ⟨?_, rfl⟩
    show Value.bool _ = Value.bool _
    congr 1
    unfold rgoes
    rw [Bool.eq_iff_iff]
    simp only [decide_eq_true_eq, Bool.false_eq_true, true_iff, false_iff]
    omega
theorem rtail_c (w : World) (z : Int) : Pu Tryz.prog n_ostiaryref04_tail #[.int .u8 z] w (.bool (decide (128 ≤ z ∧ z ≤ 191))) := by
  refine con_of_sx (cx := cx_ostiaryref04_tail w (Un [])) (good_ostiaryref04_tail w (Un [])) b_ostiaryref04_tail rfl rfl (β := Va.z) [.c (.v (.int .u8 z))] 0 [] [] rfl rfl (Sat.start rfl) ?_
  repeat' refine BIf.dec (fun h => ?_) (fun h => ?_)
  all_goals
    intro β w' hs
    refine hs.fin [] ⟨?_, rfl⟩
    show Value.bool _ = Value.bool _
    congr 1
    rw [Bool.eq_iff_iff]
    simp only [decide_eq_true_eq, Bool.false_eq_true, true_iff, false_iff]
    omega
set_option maxHeartbeats 2000000 in
theorem rbars_c (w : World) (z : Int) (h0 : 0 ≤ z) : Pu Tryz.prog n_ostiaryref04_bars #[.int .i64 z] w (.bool (rbars z)) := by
  refine con_of_sx (cx := cx_ostiaryref04_bars w (Un [])) (good_ostiaryref04_bars w (Un [])) b_ostiaryref04_bars rfl rfl (β := Va.z) [.c (.v (.int .i64 z))] 0 [] [] rfl rfl (Sat.start rfl) ?_
  obtain ⟨m, hm⟩ : ∃ m, z.tmod 65536 = m := ⟨_, rfl⟩
  have hm2 : z % 65536 = m := by rw [← hm, Int.tmod_eq_emod_of_nonneg h0]
  repeat' refine BIf.dec (fun h => ?_) (fun h => ?_)
  all_goals
    try refine ⟨by decide, m, hm, ?_⟩
    intro β w' hs
    refine hs.fin [] ⟨?_, rfl⟩
    show Value.bool _ = Value.bool _
    congr 1
    unfold rbars
    rw [Bool.eq_iff_iff]
    simp only [decide_eq_true_eq, Bool.false_eq_true, true_iff, false_iff]
    omega
set_option maxHeartbeats 2000000 in
theorem rfirst_c (w : World) (s : ByteArray) (b0 : UInt8) (t : List UInt8) (hs0 : s.data.toList = b0 :: t) (hsz : s.size ≤ maxLen) :
    Pu Tryz.prog n_ostiaryref04_first #[.string s] w (.tuple #[.int .i64 (runeI (Nam.decL (b0 :: t)).1), .int .i64 ((Nam.decL (b0 :: t)).2 : Int)]) := by
  have g := good_ostiaryref04_first w (Un [])
  have hlen : s.size = (b0 :: t).length := by rw [← hs0]; rfl
  have hml := maxLen_eq
  refine con_of_tri (cx := cx_ostiaryref04_first w (Un [])) g b_ostiaryref04_first rfl rfl (β := Va.z) [.c (.v (.string s))] 0 [] [] rfl rfl (Sat.start rfl) ?_
  have fin : ∀ (a b : Int), runeI (Nam.decL (b0 :: t)).1 = a → ((Nam.decL (b0 :: t)).2 : Int) = b → ∀ {n : Nat} {H : List Bk} {F : List Fact} (β : Va) (w' : World), Sat (cx_ostiaryref04_first w (Un [])) β n H F w' → Fin w [] (fun u Fs => u = .tuple #[.int .i64 (runeI (Nam.decL (b0 :: t)).1), .int .i64 ((Nam.decL (b0 :: t)).2 : Int)] ∧ Fs = []) (.tuple #[.int .i64 a, .int .i64 b]) w' := by
    intro a b h1 h2 n H F β w' hs
    rw [h1, h2]
    exact (hs.keepB (List.nil_sublist _)).fin [] ⟨rfl, rfl⟩
  obtain ⟨c, hc⟩ : ∃ c, b0.toNat = c := ⟨_, rfl⟩
  have hc256 : c < 256 := by rw [← hc]; exact b0.toNat_lt
  refine tri_seq g ?_
  refine tri_seq g ?_
  refine ⟨0, b0, rfl, by rw [hs0]; rfl, ?_⟩
  refine ⟨(c : Int), by rw [hc]; exact wrap_i64 (by omega) (by omega), ?_⟩
  refine tri_seq g ?_
  refine tri_seqJ (ι := Nat × Nat × Int × Int) g (fun i => lead b0 = some (i.1, i.2.1) ∧ (i.1 : Int) = i.2.2.1 ∧ (i.2.1 : Int) = i.2.2.2) 0 (fun i => [(0, .c (.v (.string s))), (5, .c (.v (.int .i64 i.2.2.1))), (6, .c (.v (.int .i64 i.2.2.2)))]) (fun _ => []) (fun _ => []) ?_ ?_
  · rintro ⟨n, r0, y, z0⟩ ⟨hld, hy, hz0⟩
    simp only at hld hy hz0
    obtain ⟨hn2, hn4, hr0, hdec⟩ := decL_lead (t := t) hld
    simp only
    refine tri_of g ?_
    refine BIf.dec (fun hsh => ?_) (fun hsh => ?_)
    · have hsh0 : (s.size : Int) < y := hsh
      rw [if_pos (by omega)] at hdec
      exact fun β w' hs => fin (-1) 1 (by rw [hdec]; rfl) (by rw [hdec]; rfl) β w' hs
    · have hsh0 : ¬ (s.size : Int) < y := hsh
      rw [if_neg (by omega)] at hdec
      have hfl : n ≤ (b0 :: t).length := by omega
      have hr256 : r0 < 256 := by omega
      refine loop_rule (ι := Nat × Nat × Int) 0 (fun q => [(0, .c (.v (.string s))), (5, .c (.v (.int .i64 y))), (6, .c (.v (.int .i64 q.2.2))), (7, .c (.v (.int .i64 (q.1 : Int))))]) (fun _ => []) (fun _ => [])
        (fun q => 1 ≤ q.1 ∧ q.1 ≤ n ∧ Nam.tailR (t.take (q.1 - 1)) r0 = some q.2.1 ∧ q.2.1 < 256 * 64 ^ (q.1 - 1) ∧ (q.2.1 : Int) = q.2.2) (fun q => n - q.1) (1, r0, z0) ⟨Nat.le_refl _, by omega, rfl, by simpa using hr256, hz0⟩ (Ent.same ⟨rfl, rfl, rfl, rfl, trivial⟩ rfl) g ?_
      rintro ⟨k, r, z⟩ ⟨hk1, hk2, htl, hrb, hz⟩
      simp only at hk1 hk2 htl hrb hz
      simp only
      refine BIf.dec (fun hks => ?_) (fun hks => ?_)
      · have hks1 : (k : Int) < y := hks
        have hkt : k - 1 < t.length := by simp only [List.length_cons] at hfl; omega
        obtain ⟨x, hx, hxm⟩ := at_lt hkt
        have hcs : s.data.toList[k]? = some x := by
          rw [hs0]
          obtain ⟨k', rfl⟩ : ∃ k', k = k' + 1 := ⟨k - 1, by omega⟩
          simpa using hx
        have hsn : t.take k = t.take (k - 1) ++ [x] := by
          have := List.take_add_one (l := t) (i := k - 1)
          rw [hx, Nat.sub_add_cancel hk1] at this
          exact this
        have hrb2 : r < 33554432 := by
          have : 64 ^ (k - 1) ≤ 64 ^ 2 := Nat.pow_le_pow_right (by decide) (by omega)
          omega
        obtain ⟨m, hm⟩ : ∃ m, x.toNat = m := ⟨_, rfl⟩
        have hm256 : m < 256 := by rw [← hm]; exact x.toNat_lt
        refine ⟨k, x, rfl, hcs, ?_⟩
        obtain ⟨bt, hbt⟩ : ∃ bt, decide (128 ≤ (m : Int) ∧ (m : Int) ≤ 191) = bt := ⟨_, rfl⟩
        refine call_pu (v := .bool bt) (fun β w' hs => by rw [← hbt, ← hm]; exact rtail_c w' (x.toNat : Int)) ?_
        cases bt with
        | true =>
          have hct := of_decide_eq_true hbt
          have hcc : x.toNat / 64 = 2 := by rw [hm]; omega
          refine ⟨((r * 64 : Nat) : Int), by rw [← hz, wrap_i64 (by omega) (by omega)]; omega, ?_⟩
          refine ⟨k, x, rfl, hcs, ?_⟩
          refine ⟨((m % 64 : Nat) : Int), by rw [hm, wrap_u8]; omega, ?_⟩
          refine ⟨((m % 64 : Nat) : Int), wrap_i64 (by omega) (by omega), ?_⟩
          refine ⟨((r * 64 + m % 64 : Nat) : Int), by rw [wrap_i64 (by omega) (by omega)]; omega, ?_⟩
          refine ⟨((k + 1 : Nat) : Int), by rw [wrap_i64 (by omega) (by omega)]; rfl, ?_⟩
          refine ⟨(k + 1, r * 64 + m % 64, ((r * 64 + m % 64 : Nat) : Int)), ⟨by show 1 ≤ k + 1; omega, by show k + 1 ≤ n; omega, ?_, ?_, rfl⟩, by show n - (k + 1) < n - k; omega, Ent.same ⟨rfl, rfl, rfl, rfl, trivial⟩ rfl⟩
          · show Nam.tailR (t.take (k + 1 - 1)) r0 = some (r * 64 + m % 64)
            rw [Nat.add_sub_cancel, hsn, tailR_snoc, htl]
            simp only
            rw [if_pos hcc, hm]
          · show r * 64 + m % 64 < 256 * 64 ^ (k + 1 - 1)
            obtain ⟨k', rfl⟩ : ∃ k', k = k' + 1 := ⟨k - 1, by omega⟩
            simp only [Nat.add_sub_cancel] at hrb ⊢
            rw [Nat.pow_succ]
            omega
        | false =>
          have hct := of_decide_eq_false hbt
          have hcc : ¬ x.toNat / 64 = 2 := fun q => hct (by rw [hm] at q; omega)
          have hnone : Nam.tailR (t.take (n - 1)) r0 = none := by
            refine Nam.tailR_none ⟨x, ?_, hcc⟩
            have h2 : x ∈ t.take k := by rw [hsn]; simp
            exact List.take_subset_take_left t (by omega) h2
          rw [hnone] at hdec
          exact fun β w' hs => fin (-1) 1 (by rw [hdec]; rfl) (by rw [hdec]; rfl) β w' hs
      · have hks1 : ¬ (k : Int) < y := hks
        obtain rfl : k = n := by omega
        rw [htl] at hdec
        simp only at hdec
        by_cases hb : badR k r
        · rw [if_pos hb] at hdec
          unfold badR at hb
          repeat' refine BIf.dec (fun h => ?_) (fun h => ?_)
          all_goals first
            | exact fun β w' hs => fin (-1) 1 (by rw [hdec]; rfl) (by rw [hdec]; rfl) β w' hs
            | (exfalso; omega)
        · rw [if_neg hb] at hdec
          unfold badR at hb
          repeat' refine BIf.dec (fun h => ?_) (fun h => ?_)
          all_goals first
            | exact fun β w' hs => fin z y (by rw [hdec]; exact hz) (by rw [hdec]; exact hy) β w' hs
            | (exfalso; omega)
  · generalize hz : (c : Int) = z
    repeat' refine BIf.dec (fun h => ?_) (fun h => ?_)
    all_goals first
      | (exfalso; omega)
      | exact fun β w' hs => fin z 1 (by rw [decL_low (by omega), ← hz, ← hc]; rfl) (by rw [decL_low (by omega)]; rfl) β w' hs
      | exact fun β w' hs => fin (-1) 1 (by rw [decL_bad (by omega) (by unfold lead; rw [hc, if_neg (by omega), if_neg (by omega), if_neg (by omega)])]; rfl) (by rw [decL_bad (by omega) (by unfold lead; rw [hc, if_neg (by omega), if_neg (by omega), if_neg (by omega)])]; rfl) β w' hs
      | (refine ⟨((c - 192 : Nat) : Int), by rw [wrap_i64 (by omega) (by omega)]; omega, ?_⟩
         exact EntX.of (2, c - 192, 2, ((c - 192 : Nat) : Int)) ⟨by show lead b0 = some (2, c - 192); unfold lead; rw [hc, if_pos (by omega)], rfl, rfl⟩ (Ent.mk' ⟨rfl, rfl, rfl, trivial⟩ rfl (fun β w' hs => hs)))
      | (refine ⟨((c - 224 : Nat) : Int), by rw [wrap_i64 (by omega) (by omega)]; omega, ?_⟩
         exact EntX.of (3, c - 224, 3, ((c - 224 : Nat) : Int)) ⟨by show lead b0 = some (3, c - 224); unfold lead; rw [hc, if_neg (by omega), if_pos (by omega)], rfl, rfl⟩ (Ent.mk' ⟨rfl, rfl, rfl, trivial⟩ rfl (fun β w' hs => hs)))
      | (refine ⟨((c - 240 : Nat) : Int), by rw [wrap_i64 (by omega) (by omega)]; omega, ?_⟩
         exact EntX.of (4, c - 240, 4, ((c - 240 : Nat) : Int)) ⟨by show lead b0 = some (4, c - 240); unfold lead; rw [hc, if_neg (by omega), if_neg (by omega), if_pos (by omega)], rfl, rfl⟩ (Ent.mk' ⟨rfl, rfl, rfl, trivial⟩ rfl (fun β w' hs => hs)))
def signV (x : Rn) : List Value := [.int .i64 (x.1 : Int), .int .i64 x.2]
def signsV (l : List Rn) : List Value := l.flatMap signV
abbrev sgnF (A : Option Addr) (l : List Rn) (c : Nat) : Fact := rowF ty_ostiaryref04_Sign 2 (.slice A l.length c) l.length (signsV l)
theorem signsV_snoc (l : List Rn) (x : Rn) : signsV (l ++ [x]) = signsV l ++ signV x := by simp [signsV]
theorem signV_one (x : Rn) : ∀ u ∈ signV x, u.oneCell' = true := by
  intro u hu
  simp only [signV, List.mem_cons, List.not_mem_nil, or_false] at hu
  rcases hu with rfl | rfl <;> rfl
theorem rsigns_c (w : World) (s : ByteArray) (hl : s.size ≤ 1000000) :
    Con Tryz.prog n_ostiaryref04_Signs #[.string s] w [] fun v Fs => ∃ A c, v = .slice A (runesAt s.data.toList 0).length c ∧ (runesAt s.data.toList 0).length ≤ c ∧ (0 < (runesAt s.data.toList 0).length → ∃ ad, A = some ad) ∧ Fs = [sgnF A (runesAt s.data.toList 0) c] := by
  have g := good_ostiaryref04_Signs w (Un [])
  have hlen : s.data.toList.length = s.size := rfl
  have hml := maxLen_eq
  refine con_of_sx (cx := cx_ostiaryref04_Signs w (Un [])) g b_ostiaryref04_Signs rfl rfl (β := Va.z) [.c (.v (.string s))] 0 [] [sgnF none [] 0] rfl rfl ((Sat.start rfl).nilRow _ _) ?_
  refine loop_rule (ι := List Rn × Nat × Option Addr × Nat) 0 (fun i => [(0, .c (.v (.string s))), (3, .c (.v (.slice i.2.2.1 i.1.length i.2.2.2))), (4, .c (.v (.int .i64 (i.2.1 : Int))))]) (fun _ => []) (fun i => [sgnF i.2.2.1 i.1 i.2.2.2])
    (fun i => runesAt s.data.toList 0 = i.1 ++ runesAt s.data.toList i.2.1 ∧ i.2.1 ≤ s.size ∧ i.1.length ≤ i.2.1 ∧ i.1.length ≤ i.2.2.2) (fun i => s.size - i.2.1) ([], 0, none, 0) ⟨rfl, Nat.zero_le _, Nat.zero_le _, Nat.zero_le _⟩ (Ent.same ⟨rfl, rfl, rfl, trivial⟩ rfl) g ?_
  rintro ⟨pre, i, A1, c1⟩ ⟨hsc, hi, hgi, hgc⟩
  simp only at hsc hi hgi hgc
  simp only
  refine BIf.dec (fun hlt => ?_) (fun hge => ?_)
  · have hlt0 : (i : Int) < s.size := hlt
    have hil : i < s.data.toList.length := by omega
    refine ⟨s.size, i, rfl, rfl, Nat.le_refl _, hi, ?_⟩
    have hd := Nam.decL_size (drop_ne hil)
    rw [List.length_drop] at hd
    rw [runesAt_cons hil] at hsc
    obtain ⟨b0, t, hbt⟩ : ∃ b0 t, s.data.toList.drop i = b0 :: t := by
      cases h : s.data.toList.drop i with
      | nil => exact absurd h (drop_ne hil)
      | cons b t => exact ⟨b, t, rfl⟩
    obtain ⟨o, n, hon⟩ : ∃ o n, Nam.decL (s.data.toList.drop i) = (o, n) := ⟨_, _, rfl⟩
    rw [hon] at hd hsc
    simp only at hd hsc
    obtain ⟨z, hz⟩ : ∃ z, runeI o = z := ⟨_, rfl⟩
    rw [hz] at hsc
    refine call_pu (v := .tuple #[.int .i64 z, .int .i64 (n : Int)]) (fun β w' hs => by
      have h := rfirst_c w' (s.extract i s.size) b0 t (by rw [extract_drop, hbt]) (by rw [ByteArray.size_extract]; omega)
      rw [← hbt, hon, hz] at h
      exact h) ?_
    intro b1
    refine ⟨1, pre.length, pre.length + 1, signsV pre, signV (i, z), signsV (pre ++ [(i, z)]), rfl, fun β w hs => row_rd (hs.get 0 rfl), signV_one _, rfl, (signsV_snoc _ _).symm, by rw [maxLen_eq]; omega, by show (pre.length + 1) * 16 ≤ _; omega, ?_⟩
    intro A' c' q1 q2 _
    refine ⟨((i + n : Nat) : Int), by rw [wrap_i64 (by omega) (by omega)]; rfl, ?_⟩
    have hle : (pre ++ [(i, z)] : List Rn).length = pre.length + 1 := by simp
    refine ⟨(pre ++ [(i, z)], i + n, A', c'), ⟨by show runesAt s.data.toList 0 = pre ++ [(i, z)] ++ runesAt s.data.toList (i + n); rw [hsc]; simp, by show i + n ≤ s.size; omega, by show (pre ++ [(i, z)] : List Rn).length ≤ i + n; omega, by show (pre ++ [(i, z)] : List Rn).length ≤ c'; omega⟩, by show s.size - (i + n) < s.size - i; omega, ?_⟩
    simp only [sgnF, hle]
    exact Ent.mk' ⟨rfl, rfl, rfl, trivial⟩ rfl (fun β w' hs => hs.weaken (List.Sublist.refl _) (List.sublist_cons_self _ _))
  · have hge0 : ¬ (i : Int) < s.size := hge
    rw [runesAt_end (l := s.data.toList) (i := i) (by omega), List.append_nil] at hsc
    intro β w' hs
    rw [hsc]
    refine hs.fin [0] ⟨A1, c1, rfl, hgc, fun h => ?_, rfl⟩
    obtain ⟨ad, h1, _⟩ := (row_rd (hs.get 0 rfl)).2 (by omega)
    exact ⟨ad, h1⟩
theorem quoN {r : Nat} (k : Nat) (h : r < 9223372036854775808) : IntKind.i64.wrap ((r : Int).tdiv (k : Int)) = ((r / k : Nat) : Int) := by
  rw [← Int.ofNat_tdiv]
  have := Nat.div_le_self r k
  generalize r / k = q at this ⊢
  exact wrap_i64 (by omega) (by omega)
theorem quoZ {r : Nat} {z : Int} (hz : (r : Int) = z) (k : Nat) (h : r < 9223372036854775808) : IntKind.i64.wrap (z.tdiv (k : Int)) = ((r / k : Nat) : Int) := by rw [← hz]; exact quoN k h
theorem remZ {r : Nat} {z : Int} (hz : (r : Int) = z) (k : Nat) : z.tmod (k : Int) = ((r % k : Nat) : Int) := by rw [← hz]; exact (Int.ofNat_tmod r k).symm
theorem u8Z {r : Nat} {z : Int} (hz : (r : Int) = z) : IntKind.u8.wrap z = ((UInt8.ofNat r).toNat : Int) := by rw [← hz]; exact wrap_u8b r
theorem remN (r k : Nat) : (r : Int).tmod (k : Int) = ((r % k : Nat) : Int) := (Int.ofNat_tmod r k).symm
theorem addN {k x : Nat} (h : k + x < 9223372036854775808) : IntKind.i64.wrap ((k : Int) + (x : Int)) = ((k + x : Nat) : Int) := by
  rw [wrap_i64 (by omega) (by omega)]; rfl
theorem rbytes_c (w : World) (r : Nat) (z : Int) (hz : (r : Int) = z) (hsg : Nam.sign r = true) :
    Con Tryz.prog n_ostiaryref04_Bytes #[.int .i64 z] w [] fun v Fs => ∃ A c, v = .slice A (rbytesL r).length c ∧ (rbytesL r).length ≤ c ∧ c ≤ maxLen ∧ Fs = [browF ty_uint8 A (rbytesL r) c] := by
  have hs2 := sign_iff.1 hsg
  have hml := maxLen_eq
  obtain ⟨l, hl⟩ : ∃ l, rbytesL r = l := ⟨_, rfl⟩
  rw [hl]
  refine con_of_sx (cx := cx_ostiaryref04_Bytes w (Un [])) (good_ostiaryref04_Bytes w (Un [])) b_ostiaryref04_Bytes rfl rfl (β := Va.z) [.c (.v (.int .i64 z))] 0 [] [] rfl rfl (Sat.start rfl) ?_
  repeat' refine BIf.dec (fun h => ?_) (fun h => ?_)
  all_goals first
    | (exfalso; omega)
    | (have e : l = [UInt8.ofNat r] := by rw [← hl]; unfold rbytesL; rw [if_pos (by omega)]
       subst e
       refine ⟨_, u8Z hz, ?_⟩
       intro b β w' hs
       exact hs.fin [0] ⟨_, 1, rfl, Nat.le_refl 1, by rw [maxLen_eq]; decide, rfl⟩)
    | (have e : l = [UInt8.ofNat (192 + r / 64), UInt8.ofNat (128 + r % 64)] := by rw [← hl]; unfold rbytesL; rw [if_neg (by omega), if_pos (by omega)]
       subst e
       refine ⟨by decide, _, quoZ hz 64 (by omega), _, addN (k := 192) (by omega), _, wrap_u8b _, by decide, _, remZ hz 64, _, addN (k := 128) (by omega), _, wrap_u8b _, ?_⟩
       intro b β w' hs
       exact hs.fin [0] ⟨_, 2, rfl, Nat.le_refl 2, by rw [maxLen_eq]; decide, rfl⟩)
    | (have e : l = [UInt8.ofNat (224 + r / 4096), UInt8.ofNat (128 + r / 64 % 64), UInt8.ofNat (128 + r % 64)] := by rw [← hl]; unfold rbytesL; rw [if_neg (by omega), if_neg (by omega), if_pos (by omega)]
       subst e
       refine ⟨by decide, _, quoZ hz 4096 (by omega), _, addN (k := 224) (by omega), _, wrap_u8b _, by decide, _, quoZ hz 64 (by omega), by decide, _, remN (r / 64) 64, _, addN (k := 128) (by omega), _, wrap_u8b _, by decide, _, remZ hz 64, _, addN (k := 128) (by omega), _, wrap_u8b _, ?_⟩
       intro b β w' hs
       exact hs.fin [0] ⟨_, 3, rfl, Nat.le_refl 3, by rw [maxLen_eq]; decide, rfl⟩)
    | (have e : l = [UInt8.ofNat (240 + r / 262144), UInt8.ofNat (128 + r / 4096 % 64), UInt8.ofNat (128 + r / 64 % 64), UInt8.ofNat (128 + r % 64)] := by rw [← hl]; unfold rbytesL; rw [if_neg (by omega), if_neg (by omega), if_neg (by omega)]
       subst e
       refine ⟨by decide, _, quoZ hz 262144 (by omega), _, addN (k := 240) (by omega), _, wrap_u8b _, by decide, _, quoZ hz 4096 (by omega), by decide, _, remN (r / 4096) 64, _, addN (k := 128) (by omega), _, wrap_u8b _, by decide, _, quoZ hz 64 (by omega), by decide, _, remN (r / 64) 64, _, addN (k := 128) (by omega), _, wrap_u8b _, by decide, _, remZ hz 64, _, addN (k := 128) (by omega), _, wrap_u8b _, ?_⟩
       intro b β w' hs
       exact hs.fin [0] ⟨_, 4, rfl, Nat.le_refl 4, by rw [maxLen_eq]; decide, rfl⟩)
def valV (url : Bool) (c : UInt8) : Int := match valA url c with | some v => (v : Int) | none => -1
structure Alph (s : ByteArray) (url : Bool) : Prop where
  len : s.size = 64
  l62 : s.data.toList[62]? = some (e62 url)
  l63 : s.data.toList[63]? = some (e63 url)
theorem value_c (w : World) (s : ByteArray) (url : Bool) (c : UInt8) (ha : Alph s url) : Pu Tryz.prog n_b64_value #[.string s, .int .u8 c.toNat] w (.int .i64 (valV url c)) := by
  have g := good_b64_value w (Un [])
  have hc := c.toNat_lt
  refine con_of_sx (cx := cx_b64_value w (Un [])) g b_b64_value rfl rfl (β := Va.z) [.c (.v (.string s)), .c (.v (.int .u8 c.toNat))] 0 [] [] rfl rfl (Sat.start rfl) ?_
  obtain ⟨n, hn⟩ : ∃ n : Int, (c.toNat : Int) = n := ⟨_, rfl⟩
  have hv : valV url c = if 65 ≤ n ∧ n ≤ 90 then n - 65 else if 97 ≤ n ∧ n ≤ 122 then n - 97 + 26 else if 48 ≤ n ∧ n ≤ 57 then n - 48 + 52 else if c = e62 url then 62 else if c = e63 url then 63 else -1 := by
    unfold valV valA
    have e1 : (65 ≤ n ∧ n ≤ 90) = (65 ≤ c.toNat ∧ c.toNat ≤ 90) := propext (by omega)
    have e2 : (97 ≤ n ∧ n ≤ 122) = (97 ≤ c.toNat ∧ c.toNat ≤ 122) := propext (by omega)
    have e3 : (48 ≤ n ∧ n ≤ 57) = (48 ≤ c.toNat ∧ c.toNat ≤ 57) := propext (by omega)
    simp only [e1, e2, e3]
    by_cases h1 : 65 ≤ c.toNat ∧ c.toNat ≤ 90
    · simp only [if_pos h1]; omega
    · simp only [if_neg h1]
      by_cases h2 : 97 ≤ c.toNat ∧ c.toNat ≤ 122
      · simp only [if_pos h2]; omega
      · simp only [if_neg h2]
        by_cases h3 : 48 ≤ c.toNat ∧ c.toNat ≤ 57
        · simp only [if_pos h3]; omega
        · simp only [if_neg h3]
          by_cases h4 : c = e62 url
          · simp only [if_pos h4]; rfl
          · simp only [if_neg h4]
            by_cases h5 : c = e63 url
            · simp only [if_pos h5]; rfl
            · simp only [if_neg h5]
  rw [hn]
  generalize valV url c = v at hv ⊢
  have wr : ∀ x : Int, 0 ≤ x → x < 256 → IntKind.u8.wrap x = x := fun x h1 h2 => by rw [wrap_u8]; omega
  by_cases h1 : 65 ≤ n ∧ n ≤ 90
  · rw [if_pos h1] at hv
    refine BIf.dec (fun _ => ?_) (fun h => absurd (show 65 ≤ n by omega) h)
    refine BIf.dec (fun _ => ?_) (fun h => absurd (show n ≤ 90 by omega) h)
    refine ⟨n - 65, by rw [IntKind.wrap_u8]; omega, ?_⟩
    refine ⟨_, wrap_i64 (by omega) (by omega), ?_⟩
    intro β w' hs
    exact hs.fin [] ⟨by rw [hv]; rfl, rfl⟩
  rw [if_neg h1] at hv
  by_cases h2 : 97 ≤ n ∧ n ≤ 122
  · rw [if_pos h2] at hv
    refine BIf.dec (fun _ => ?_) (fun h => absurd (show 65 ≤ n by omega) h)
    refine BIf.dec (fun h => absurd h (show ¬ (n ≤ 90) by omega)) (fun _ => ?_)
    refine BIf.dec (fun _ => ?_) (fun h => absurd (show 97 ≤ n by omega) h)
    refine BIf.dec (fun _ => ?_) (fun h => absurd (show n ≤ 122 by omega) h)
    refine ⟨n - 97, by rw [IntKind.wrap_u8]; omega, ?_⟩
    refine ⟨_, wrap_i64 (by omega) (by omega), ?_⟩
    refine ⟨_, wrap_i64 (by omega) (by omega), ?_⟩
    intro β w' hs
    exact hs.fin [] ⟨by rw [hv]; rfl, rfl⟩
  rw [if_neg h2] at hv
  by_cases h3 : 48 ≤ n ∧ n ≤ 57
  · rw [if_pos h3] at hv
    refine BIf.dec (fun h => absurd h (show ¬ (65 ≤ n) by omega)) (fun _ => ?_)
    refine BIf.dec (fun h => absurd h (show ¬ (97 ≤ n) by omega)) (fun _ => ?_)
    refine BIf.dec (fun _ => ?_) (fun h => absurd (show 48 ≤ n by omega) h)
    refine BIf.dec (fun _ => ?_) (fun h => absurd (show n ≤ 57 by omega) h)
    refine ⟨n - 48, by rw [IntKind.wrap_u8]; omega, ?_⟩
    refine ⟨_, wrap_i64 (by omega) (by omega), ?_⟩
    refine ⟨_, wrap_i64 (by omega) (by omega), ?_⟩
    intro β w' hs
    exact hs.fin [] ⟨by rw [hv]; rfl, rfl⟩
  rw [if_neg h3] at hv
  by_cases k1 : n < 48
  · skip
    refine BIf.dec (fun h => absurd h (show ¬ (65 ≤ n) by omega)) (fun _ => ?_)
    refine BIf.dec (fun h => absurd h (show ¬ (97 ≤ n) by omega)) (fun _ => ?_)
    refine BIf.dec (fun h => absurd h (show ¬ (48 ≤ n) by omega)) (fun _ => ?_)
    refine ⟨62, e62 url, rfl, ha.l62, ?_⟩
    refine BIf.dec (fun q => ?_) (fun q => ?_)
    · have q0 : n = ((e62 url).toNat : Int) := q
      have qc : c = e62 url := UInt8.toNat_inj.1 (by omega)
      intro β w' hs
      exact hs.fin [] ⟨by rw [hv, if_pos qc]; rfl, rfl⟩
    have q0 : ¬ n = ((e62 url).toNat : Int) := q
    have qc : ¬ c = e62 url := fun e => q0 (by rw [← hn, e])
    refine ⟨63, e63 url, rfl, ha.l63, ?_⟩
    refine BIf.dec (fun r => ?_) (fun r => ?_)
    · have r0 : n = ((e63 url).toNat : Int) := r
      have rc : c = e63 url := UInt8.toNat_inj.1 (by omega)
      intro β w' hs
      exact hs.fin [] ⟨by rw [hv, if_neg qc, if_pos rc]; rfl, rfl⟩
    have r0 : ¬ n = ((e63 url).toNat : Int) := r
    have rc : ¬ c = e63 url := fun e => r0 (by rw [← hn, e])
    intro β w' hs
    exact hs.fin [] ⟨by rw [hv, if_neg qc, if_neg rc]; rfl, rfl⟩
  by_cases k2 : n < 65
  · skip
    refine BIf.dec (fun h => absurd h (show ¬ (65 ≤ n) by omega)) (fun _ => ?_)
    refine BIf.dec (fun h => absurd h (show ¬ (97 ≤ n) by omega)) (fun _ => ?_)
    refine BIf.dec (fun _ => ?_) (fun h => absurd (show 48 ≤ n by omega) h)
    refine BIf.dec (fun h => absurd h (show ¬ (n ≤ 57) by omega)) (fun _ => ?_)
    refine ⟨62, e62 url, rfl, ha.l62, ?_⟩
    refine BIf.dec (fun q => ?_) (fun q => ?_)
    · have q0 : n = ((e62 url).toNat : Int) := q
      have qc : c = e62 url := UInt8.toNat_inj.1 (by omega)
      intro β w' hs
      exact hs.fin [] ⟨by rw [hv, if_pos qc]; rfl, rfl⟩
    have q0 : ¬ n = ((e62 url).toNat : Int) := q
    have qc : ¬ c = e62 url := fun e => q0 (by rw [← hn, e])
    refine ⟨63, e63 url, rfl, ha.l63, ?_⟩
    refine BIf.dec (fun r => ?_) (fun r => ?_)
    · have r0 : n = ((e63 url).toNat : Int) := r
      have rc : c = e63 url := UInt8.toNat_inj.1 (by omega)
      intro β w' hs
      exact hs.fin [] ⟨by rw [hv, if_neg qc, if_pos rc]; rfl, rfl⟩
    have r0 : ¬ n = ((e63 url).toNat : Int) := r
    have rc : ¬ c = e63 url := fun e => r0 (by rw [← hn, e])
    intro β w' hs
    exact hs.fin [] ⟨by rw [hv, if_neg qc, if_neg rc]; rfl, rfl⟩
  by_cases k3 : n < 97
  · skip
    refine BIf.dec (fun _ => ?_) (fun h => absurd (show 65 ≤ n by omega) h)
    refine BIf.dec (fun h => absurd h (show ¬ (n ≤ 90) by omega)) (fun _ => ?_)
    refine BIf.dec (fun h => absurd h (show ¬ (97 ≤ n) by omega)) (fun _ => ?_)
    refine BIf.dec (fun _ => ?_) (fun h => absurd (show 48 ≤ n by omega) h)
    refine BIf.dec (fun h => absurd h (show ¬ (n ≤ 57) by omega)) (fun _ => ?_)
    refine ⟨62, e62 url, rfl, ha.l62, ?_⟩
    refine BIf.dec (fun q => ?_) (fun q => ?_)
    · have q0 : n = ((e62 url).toNat : Int) := q
      have qc : c = e62 url := UInt8.toNat_inj.1 (by omega)
      intro β w' hs
      exact hs.fin [] ⟨by rw [hv, if_pos qc]; rfl, rfl⟩
    have q0 : ¬ n = ((e62 url).toNat : Int) := q
    have qc : ¬ c = e62 url := fun e => q0 (by rw [← hn, e])
    refine ⟨63, e63 url, rfl, ha.l63, ?_⟩
    refine BIf.dec (fun r => ?_) (fun r => ?_)
    · have r0 : n = ((e63 url).toNat : Int) := r
      have rc : c = e63 url := UInt8.toNat_inj.1 (by omega)
      intro β w' hs
      exact hs.fin [] ⟨by rw [hv, if_neg qc, if_pos rc]; rfl, rfl⟩
    have r0 : ¬ n = ((e63 url).toNat : Int) := r
    have rc : ¬ c = e63 url := fun e => r0 (by rw [← hn, e])
    intro β w' hs
    exact hs.fin [] ⟨by rw [hv, if_neg qc, if_neg rc]; rfl, rfl⟩
  · skip
    refine BIf.dec (fun _ => ?_) (fun h => absurd (show 65 ≤ n by omega) h)
    refine BIf.dec (fun h => absurd h (show ¬ (n ≤ 90) by omega)) (fun _ => ?_)
    refine BIf.dec (fun _ => ?_) (fun h => absurd (show 97 ≤ n by omega) h)
    refine BIf.dec (fun h => absurd h (show ¬ (n ≤ 122) by omega)) (fun _ => ?_)
    refine BIf.dec (fun _ => ?_) (fun h => absurd (show 48 ≤ n by omega) h)
    refine BIf.dec (fun h => absurd h (show ¬ (n ≤ 57) by omega)) (fun _ => ?_)
    refine ⟨62, e62 url, rfl, ha.l62, ?_⟩
    refine BIf.dec (fun q => ?_) (fun q => ?_)
    · have q0 : n = ((e62 url).toNat : Int) := q
      have qc : c = e62 url := UInt8.toNat_inj.1 (by omega)
      intro β w' hs
      exact hs.fin [] ⟨by rw [hv, if_pos qc]; rfl, rfl⟩
    have q0 : ¬ n = ((e62 url).toNat : Int) := q
    have qc : ¬ c = e62 url := fun e => q0 (by rw [← hn, e])
    refine ⟨63, e63 url, rfl, ha.l63, ?_⟩
    refine BIf.dec (fun r => ?_) (fun r => ?_)
    · have r0 : n = ((e63 url).toNat : Int) := r
      have rc : c = e63 url := UInt8.toNat_inj.1 (by omega)
      intro β w' hs
      exact hs.fin [] ⟨by rw [hv, if_neg qc, if_pos rc]; rfl, rfl⟩
    have r0 : ¬ n = ((e63 url).toNat : Int) := r
    have rc : ¬ c = e63 url := fun e => r0 (by rw [← hn, e])
    intro β w' hs
    exact hs.fin [] ⟨by rw [hv, if_neg qc, if_neg rc]; rfl, rfl⟩
def piecesA (k : Nat) : List UInt8 → List (List UInt8)
  | [] => []
  | c :: r => (c :: r).take (k + 1) :: piecesA k ((c :: r).drop (k + 1))
termination_by l => l.length
decreasing_by simp only [List.length_drop, List.length_cons]; omega
theorem pieces_nil (k : Nat) : piecesA k [] = [] := by rw [piecesA]
theorem pieces_ne (k : Nat) {l : List UInt8} (h : l ≠ []) : piecesA k l = l.take (k + 1) :: piecesA k (l.drop (k + 1)) := by
  cases l with
  | nil => exact absurd rfl h
  | cons c r => rw [piecesA]
theorem pieces_len (k : Nat) : ∀ (m : Nat) (l : List UInt8), l.length ≤ m → (piecesA k l).length ≤ l.length
  | 0, l, h => by
    obtain rfl : l = [] := List.length_eq_zero_iff.1 (by omega)
    rw [pieces_nil]; exact Nat.zero_le _
  | m + 1, l, h => by
    by_cases hl : l = []
    · rw [hl, pieces_nil]; exact Nat.zero_le _
    · have h0 : 0 < l.length := List.length_pos_iff.2 hl
      rw [pieces_ne k hl, List.length_cons]
      have := pieces_len k m (l.drop (k + 1)) (by rw [List.length_drop]; omega)
      rw [List.length_drop] at this
      omega
theorem mkS_take (l : List UInt8) (n : Nat) : (mkS l).extract 0 n = mkS (l.take n) := by
  apply ByteArray.ext
  simp [mkS]
theorem mkS_drop (l : List UInt8) (n : Nat) : (mkS l).extract n (mkS l).size = mkS (l.drop n) := by
  apply ByteArray.ext
  simp [mkS, ByteArray.size]
  rw [List.take_of_length_le (by rw [List.length_drop]; omega)]
theorem mkS_sz (l : List UInt8) : (mkS l).size = l.length := by simp [mkS, ByteArray.size]
theorem mkS_of (s : ByteArray) : mkS s.data.toList = s := by simp [mkS]
def insS (L : List ByteArray) (pre : List ByteArray) (x : ByteArray) (args : Array Value) (X : Fact) : Prop := args = #[.string x] ∧ X = noF ∧ L[pre.length]? = some x
def grpEnd (L : List ByteArray) (J Jx : List ByteArray → Fact → Prop) (Fs : List Fact) : Prop :=
  ∃ f Fs', Fs = f :: Fs' ∧ ((∃ xs, J xs f ∧ xs = L ∧ Fs' = []) ∨ (∃ pre, Jx pre f ∧ Fs' = []))
theorem grp_it (l : Nat) (w : World) (bs bk k : Nat) (s0 : List UInt8) (f0 R : Fact) (J Jx : List ByteArray → Fact → Prop) (kk : Int) (hkk : ((k + 1 : Nat) : Int) = kk) (hk : k ≤ 1000) (hL : s0.length ≤ 1000000) (hJ0 : J [] f0) (hJo : ∀ pre f, J pre f → f.own = true) (hRo : R.own = false) (hY : Yc Tryz.prog l J Jx R (insS ((piecesA k s0).map mkS)))
    (hm : Mem w (f0 :: R :: [bkF bs ty_string [.string (mkS s0)], bkF bk ty_int [.int .i64 kk]])) :
    Con Tryz.prog n_b64_Groups_1 #[.func (.yield l) #[] #[], .pointer (some ⟨bs, 0, none⟩), .pointer (some ⟨bk, 0, none⟩)] w [f0, bkF bs ty_string [.string (mkS s0)], bkF bk ty_int [.int .i64 kk]] (fun _ Fs => grpEnd ((piecesA k s0).map mkS) J Jx Fs) := by
  have g := good_b64_Groups_1 w (Un [f0, bkF bs ty_string [.string (mkS s0)], bkF bk ty_int [.int .i64 kk]]) [bs, bk]
  have hs0 : Sat (cx_b64_Groups_1 w (Un [f0, bkF bs ty_string [.string (mkS s0)], bkF bk ty_int [.int .i64 kk]]) [bs, bk]) (Va.of fun i => [bs, bk].getD i 0) 2 [] (f0 :: R :: [bkF bs ty_string [.string (mkS s0)], bkF bk ty_int [.int .i64 kk]]) w := by
    refine hm.sat rfl (fun f hf ho k hk => ?_) ⟨Nat.le_refl 2, fun i _ => rfl⟩
    simp only [List.mem_cons, List.not_mem_nil, or_false] at hf
    rcases hf with rfl | rfl | rfl | rfl
    · exact ⟨_, by simp, hk⟩
    · rw [hRo] at ho; cases ho
    · exact ⟨bkF bs ty_string [.string (mkS s0)], by simp, hk⟩
    · exact ⟨_, by simp, hk⟩
  have hs1 := (hs0.toBk 3 rfl 1 (by decide) rfl).toBk 2 rfl 0 (by decide) rfl
  refine con_of_sx (cx := cx_b64_Groups_1 w (Un [f0, bkF bs ty_string [.string (mkS s0)], bkF bk ty_int [.int .i64 kk]]) [bs, bk]) g b_b64_Groups_1 rfl rfl (β := Va.of fun i => [bs, bk].getD i 0) [.c (.v (.func (.yield l) #[] #[])), .c (.p 0 0), .c (.p 1 0)] 2 _ _ rfl rfl hs1 ?_
  obtain ⟨L, hLd⟩ : ∃ L, (piecesA k s0).map mkS = L := ⟨_, rfl⟩
  rw [hLd] at hY ⊢
  refine loop_rule (ι := List UInt8 × List ByteArray × Fact) 2 (fun i => [(0, .c (.v (.func (.yield l) #[] #[]))), (1, .c (.p 0 0)), (2, .c (.p 1 0))]) (fun i => [⟨0, ty_string, [.v (.string (mkS i.1))]⟩, ⟨1, ty_int, [.v (.int .i64 kk)]⟩]) (fun i => [i.2.2, R])
    (fun i => J i.2.1 i.2.2 ∧ L = i.2.1 ++ (piecesA k i.1).map mkS ∧ i.1.length ≤ 1000000) (fun i => i.1.length) (s0, [], f0) ⟨hJ0, hLd.symm, hL⟩ (Ent.mk' ⟨rfl, rfl, rfl, trivial⟩ rfl (fun β w' hs => hs)) g ?_
  rintro ⟨r, pre, f⟩ ⟨hJ, hpre, hrl⟩
  simp only at hJ hpre hrl
  have hfo := hJo _ _ hJ
  simp only
  have hsz := mkS_sz r
  obtain ⟨z, hz⟩ : ∃ z : Int, ((mkS r).size : Int) = z := ⟨_, rfl⟩
  by_cases hr : r = []
  · subst hr
    rw [pieces_nil, List.map_nil, List.append_nil] at hpre
    intro β w' hs
    exact (hs.keepB (List.nil_sublist _)).fin [0] ⟨f, _, rfl, .inl ⟨pre, hJ, hpre.symm, rfl⟩⟩ rfl rfl rfl ⟨hfo, trivial⟩
  have hr0 : 0 < r.length := List.length_pos_iff.2 hr
  refine BIf.dec (fun _ => ?_) (fun h => absurd (show (0 : Int) < ((mkS r).size : Int) by omega) h)
  refine BIf.dec (fun _ => ?_) (fun h => absurd (show (0 : Int) < kk by omega) h)
  obtain ⟨m, hm⟩ : ∃ m : Nat, m = min r.length (k + 1) := ⟨_, rfl⟩
  have hmt : r.take m = r.take (k + 1) := by
    rcases Nat.le_total r.length (k + 1) with h | h
    · rw [hm, Nat.min_eq_left h, List.take_length, List.take_of_length_le h]
    · rw [hm, Nat.min_eq_right h]
  have hmd : r.drop m = r.drop (k + 1) := by
    rcases Nat.le_total r.length (k + 1) with h | h
    · rw [hm, Nat.min_eq_left h, List.drop_length, List.drop_of_length_le h]
    · rw [hm, Nat.min_eq_right h]
  refine ⟨(m : Int), by show min _ _ = _; omega, ?_⟩
  refine ⟨m, 0, rfl, rfl, by omega, Nat.zero_le _, ?_⟩
  have hx : (mkS r).extract 0 m = mkS (r.take (k + 1)) := by rw [mkS_take, hmt]
  have hd : (mkS r).extract m (mkS r).size = mkS (r.drop (k + 1)) := by rw [mkS_drop, hmd]
  have hLx : L[pre.length]? = some (mkS (r.take (k + 1))) := by
    rw [hpre, pieces_ne k hr, List.map_cons, List.getElem?_append_right (Nat.le_refl _), Nat.sub_self]
    rfl
  refine yield_ro (X := noF) (x := mkS (r.take (k + 1))) hY 0 1 rfl hJ hfo rfl hRo (by decide) (fun β => ⟨by rw [← hx]; rfl, rfl, hLx⟩) rfl (fun β w _ => ⟨trivial, fun k hk => hk.elim, fun k _ h => h.elim⟩) ?_ ?_
  · intro f2 hfo2 hJ2
    refine ⟨(mkS r).size, m, rfl, rfl, Nat.le_refl _, by omega, ?_⟩
    refine ⟨(r.drop (k + 1), pre ++ [mkS (r.take (k + 1))], f2), ⟨hJ2, ?_, by show (r.drop (k + 1)).length ≤ _; rw [List.length_drop]; omega⟩, by show (r.drop (k + 1)).length < r.length; rw [List.length_drop]; omega, ?_⟩
    · show L = (pre ++ [mkS (r.take (k + 1))]) ++ (piecesA k (r.drop (k + 1))).map mkS
      rw [hpre, pieces_ne k hr, List.map_cons, List.append_assoc]
      rfl
    · simp only [← hd]
      exact Ent.same ⟨rfl, rfl, rfl, trivial⟩ rfl
  · intro f2 hfo2 hJ2 β w' hs
    exact (hs.keepB (List.nil_sublist _)).fin [0] ⟨f2, _, rfl, .inr ⟨_, hJ2, rfl⟩⟩ rfl rfl rfl ⟨hfo2, trivial⟩
theorem groups_c (w : World) (s : ByteArray) (kk : Int) : Con Tryz.prog n_b64_Groups #[.string s, .int .i64 kk] w [] (fun v Fs => ∃ bs bk, v = .func (.func n_b64_Groups_1) #[] #[.pointer (some ⟨bs, 0, none⟩), .pointer (some ⟨bk, 0, none⟩)] ∧ Fs = [bkF bs ty_string [.string s], bkF bk ty_int [.int .i64 kk]]) := by
  refine con_of_sx (cx := cx_b64_Groups w (Un [])) (good_b64_Groups w (Un [])) b_b64_Groups rfl rfl (β := Va.z) [.c (.v (.string s)), .c (.v (.int .i64 kk))] 0 [] [] rfl rfl (Sat.start rfl) ?_
  intro β w' hs
  exact hs.ofBk.ofBk.fin [0, 1] ⟨β 0, β 1, rfl, rfl⟩
theorem valsA_app (url : Bool) : ∀ (a b : List UInt8), valsA url (a ++ b) = match valsA url a, valsA url b with | some x, some y => some (x ++ y) | _, _ => none
  | [], b => by simp only [List.nil_append, valsA]; cases valsA url b <;> rfl
  | c :: r, b => by
    rw [List.cons_append]
    simp only [valsA, valsA_app url r b]
    cases valA url c <;> cases valsA url r <;> cases valsA url b <;> rfl
theorem valsA_len {url : Bool} : ∀ {l : List UInt8} {vs : List Nat}, valsA url l = some vs → vs.length = l.length ∧ ∀ v ∈ vs, v < 64
  | [], vs, h => by
    obtain rfl := Option.some.inj h
    exact ⟨rfl, fun v hv => by cases hv⟩
  | c :: r, vs, h => by
    simp only [valsA] at h
    cases hc : valA url c with
    | none => rw [hc] at h; cases h
    | some v =>
      cases hr : valsA url r with
      | none => rw [hc, hr] at h; cases h
      | some ws =>
        rw [hc, hr] at h
        obtain rfl := Option.some.inj h
        obtain ⟨h1, h2⟩ := valsA_len hr
        refine ⟨by simp [h1], fun x hx => ?_⟩
        rcases List.mem_cons.1 hx with rfl | hx
        · exact valA_lt hc
        · exact h2 x hx
theorem decG_app : ∀ (vs ws : List Nat), vs.length % 4 = 0 → ∃ l, decG vs = some l ∧ decG (vs ++ ws) = (decG ws).map (l ++ ·)
  | [], ws, _ => ⟨[], rfl, by rw [List.nil_append]; cases decG ws <;> rfl⟩
  | [_], _, h => by simp at h
  | [_, _], _, h => by simp at h
  | [_, _, _], _, h => by simp at h
  | a :: b :: c :: d :: r, ws, h => by
    obtain ⟨l, h1, h2⟩ := decG_app r ws (by simp only [List.length_cons] at h; omega)
    refine ⟨_, by simp only [decG, h1]; rfl, ?_⟩
    simp only [List.cons_append, decG, h2]
    cases decG ws <;> simp
def vfold (vs : List Nat) : Nat := vs.foldl (fun n v => n * 64 + v) 0
def bytesN (N n : Nat) : List UInt8 := (List.range n).map fun i => u8n (N / 256 ^ (2 - i))
theorem grp2 {a b : Nat} (ha : a < 64) (hb : b < 64) : decG [a, b] = if (vfold [a, b] * 4096) % 65536 = 0 then some (bytesN (vfold [a, b] * 4096) 1) else none := by
  have e : vfold [a, b] = a * 64 + b := by simp [vfold]
  rw [e]
  have e2 : bytesN ((a * 64 + b) * 4096) 1 = [u8n (a * 4 + b / 16)] := by
    show [u8n ((a * 64 + b) * 4096 / 65536)] = _
    congr 2
    omega
  rw [e2]
  simp only [decG]
  by_cases h : b % 16 = 0
  · rw [if_pos h, if_pos (by omega)]
  · rw [if_neg h, if_neg (by omega)]
theorem u8n_mod {x y : Nat} (h : x % 256 = y % 256) : u8n x = u8n y := by
  unfold u8n
  apply UInt8.toNat_inj.1
  rw [UInt8.toNat_ofNat', UInt8.toNat_ofNat']
  exact h
theorem grp3 {a b c : Nat} (ha : a < 64) (hb : b < 64) (hc : c < 64) : decG [a, b, c] = if (vfold [a, b, c] * 64) % 256 = 0 then some (bytesN (vfold [a, b, c] * 64) 2) else none := by
  have e : vfold [a, b, c] = (a * 64 + b) * 64 + c := by simp [vfold]
  rw [e]
  have e2 : bytesN (((a * 64 + b) * 64 + c) * 64) 2 = [u8n (a * 4 + b / 16), u8n (b % 16 * 16 + c / 4)] := by
    show [u8n (((a * 64 + b) * 64 + c) * 64 / 65536), u8n (((a * 64 + b) * 64 + c) * 64 / 256)] = _
    rw [u8n_mod (x := ((a * 64 + b) * 64 + c) * 64 / 65536) (y := a * 4 + b / 16) (by omega), u8n_mod (x := ((a * 64 + b) * 64 + c) * 64 / 256) (y := b % 16 * 16 + c / 4) (by omega)]
  rw [e2]
  simp only [decG]
  by_cases h : c % 4 = 0
  · rw [if_pos h, if_pos (by omega)]
  · rw [if_neg h, if_neg (by omega)]
theorem grp4 {a b c d : Nat} (ha : a < 64) (hb : b < 64) (hc : c < 64) (hd : d < 64) : decG [a, b, c, d] = some (bytesN (vfold [a, b, c, d]) 3) := by
  have e : vfold [a, b, c, d] = ((a * 64 + b) * 64 + c) * 64 + d := by simp [vfold]
  rw [e]
  have e2 : bytesN (((a * 64 + b) * 64 + c) * 64 + d) 3 = [u8n (a * 4 + b / 16), u8n (b % 16 * 16 + c / 4), u8n (c % 4 * 64 + d)] := by
    show [u8n ((((a * 64 + b) * 64 + c) * 64 + d) / 65536), u8n ((((a * 64 + b) * 64 + c) * 64 + d) / 256), u8n ((((a * 64 + b) * 64 + c) * 64 + d) / 1)] = _
    rw [u8n_mod (x := (((a * 64 + b) * 64 + c) * 64 + d) / 65536) (y := a * 4 + b / 16) (by omega), u8n_mod (x := (((a * 64 + b) * 64 + c) * 64 + d) / 256) (y := b % 16 * 16 + c / 4) (by omega), u8n_mod (x := (((a * 64 + b) * 64 + c) * 64 + d) / 1) (y := c % 4 * 64 + d) (by omega)]
  rw [e2]
  simp [decG]
theorem pieces_at (k : Nat) : ∀ (j : Nat) (l : List UInt8) (x : List UInt8), (piecesA k l)[j]? = some x → x = (l.drop ((k + 1) * j)).take (k + 1) ∧ (k + 1) * j < l.length ∧ ((piecesA k l).take j).flatten = l.take ((k + 1) * j)
  | j, l, x, h => by
    by_cases hl : l = []
    · rw [hl, pieces_nil] at h; simp at h
    · have h0 : 0 < l.length := List.length_pos_iff.2 hl
      rw [pieces_ne k hl] at h ⊢
      cases j with
      | zero =>
        obtain rfl : l.take (k + 1) = x := by simpa using h
        exact ⟨by simp, by simpa using h0, by simp⟩
      | succ j =>
        have h' : (piecesA k (l.drop (k + 1)))[j]? = some x := by simpa using h
        obtain ⟨h1, h2, h3⟩ := pieces_at k j (l.drop (k + 1)) x h'
        rw [List.length_drop] at h2
        refine ⟨?_, by rw [Nat.mul_succ]; omega, ?_⟩
        · rw [h1, List.drop_drop, Nat.mul_succ, Nat.add_comm (k + 1)]
        · rw [List.take_succ_cons, List.flatten_cons, h3, Nat.mul_succ, Nat.add_comm ((k + 1) * j) (k + 1)]
          exact List.take_add.symm
theorem pieces_flat (k : Nat) : ∀ (m : Nat) (l : List UInt8), l.length ≤ m → (piecesA k l).flatten = l
  | 0, l, h => by
    obtain rfl : l = [] := List.length_eq_zero_iff.1 (by omega)
    rw [pieces_nil]; rfl
  | m + 1, l, h => by
    by_cases hl : l = []
    · rw [hl, pieces_nil]; rfl
    · have h0 : 0 < l.length := List.length_pos_iff.2 hl
      rw [pieces_ne k hl, List.flatten_cons, pieces_flat k m _ (by rw [List.length_drop]; omega), List.take_append_drop]
theorem or6_i64 {x y : Nat} (hx : x < 33554432) (hy : y < 64) : bits .or .i64 ((x * 64 : Nat) : Int) (y : Int) = ((x * 64 + y : Nat) : Int) := by
  show IntKind.i64.wrap (((BitVec.ofInt 64 ((x * 64 : Nat) : Int)) ||| (BitVec.ofInt 64 (y : Int))).toNat : Int) = _
  have h1 : (BitVec.ofInt 64 ((x * 64 : Nat) : Int)).toNat = x <<< 6 := by
    rw [BitVec.toNat_ofInt, Nat.shiftLeft_eq]
    omega
  have h2 : (BitVec.ofInt 64 (y : Int)).toNat = y := by
    rw [BitVec.toNat_ofInt]
    omega
  rw [BitVec.toNat_or, h1, h2, ← Nat.shiftLeft_add_eq_or_of_lt (by omega) x, Nat.shiftLeft_eq, wrap_i64 (by omega) (by omega)]
theorem and_i64 {x k : Nat} (hx : x < 33554432) (hk : k ≤ 20) : bits .and .i64 (x : Int) ((2 ^ k - 1 : Nat) : Int) = ((x % 2 ^ k : Nat) : Int) := by
  show IntKind.i64.wrap (((BitVec.ofInt 64 (x : Int)) &&& (BitVec.ofInt 64 ((2 ^ k - 1 : Nat) : Int))).toNat : Int) = _
  have hp : 2 ^ k ≤ 2 ^ 20 := Nat.pow_le_pow_right (by decide) hk
  have h1 : (BitVec.ofInt 64 (x : Int)).toNat = x := by
    rw [BitVec.toNat_ofInt]
    omega
  have h2 : (BitVec.ofInt 64 ((2 ^ k - 1 : Nat) : Int)).toNat = 2 ^ k - 1 := by
    rw [BitVec.toNat_ofInt]
    omega
  have h3 := Nat.mod_lt x (show 0 < 2 ^ k from Nat.pos_of_ne_zero (by simp))
  rw [BitVec.toNat_and, h1, h2, Nat.and_two_pow_sub_one_eq_mod, wrap_i64 (by omega) (by omega)]
theorem valsA_none {url : Bool} {c : UInt8} (hc : valA url c = none) : ∀ {l : List UInt8}, c ∈ l → valsA url l = none
  | x :: r, h => by
    simp only [valsA]
    rcases List.mem_cons.1 h with rfl | h
    · rw [hc]
    · rw [valsA_none hc h]
      cases valA url x <;> rfl
theorem vfold_snoc (ws : List Nat) (v : Nat) : vfold (ws ++ [v]) = vfold ws * 64 + v := by simp [vfold]
theorem vfold_lt : ∀ (k : Nat) (ws : List Nat), ws.length = k → (∀ v ∈ ws, v < 64) → vfold ws < 64 ^ k
  | 0, ws, h, _ => by
    obtain rfl := List.eq_nil_of_length_eq_zero h
    decide
  | k + 1, ws, h, hv => by
    have hne : ws ≠ [] := fun e => by rw [e] at h; cases h
    obtain ⟨us, v, rfl⟩ : ∃ us v, ws = us ++ [v] := ⟨ws.dropLast, ws.getLast hne, (List.dropLast_concat_getLast hne).symm⟩
    have h1 := vfold_lt k us (by rw [List.length_append] at h; simpa using h) (fun x hx => hv x (List.mem_append_left _ hx))
    have h2 := hv v (by simp)
    rw [vfold_snoc, Nat.pow_succ]
    omega
theorem grpZ {ws : List Nat} (h2 : 2 ≤ ws.length) (h4 : ws.length ≤ 4) (hw : ∀ v ∈ ws, v < 64) : decG ws = if (vfold ws * 2 ^ (6 * (4 - ws.length))) % 2 ^ (8 * (4 - ws.length)) = 0 then some (bytesN (vfold ws * 2 ^ (6 * (4 - ws.length))) (ws.length - 1)) else none := by
  match ws, h2, h4, hw with
  | [a, b], _, _, hw => exact grp2 (hw a (by simp)) (hw b (by simp))
  | [a, b, c], _, _, hw => exact grp3 (hw a (by simp)) (hw b (by simp)) (hw c (by simp))
  | [a, b, c, d], _, _, hw =>
    have h := grp4 (hw a (by simp)) (hw b (by simp)) (hw c (by simp)) (hw d (by simp))
    rw [h]
    show _ = if (vfold [a, b, c, d] * 1) % 1 = 0 then some (bytesN (vfold [a, b, c, d] * 1) 3) else none
    rw [Nat.mul_one, if_pos (Nat.mod_one _)]
  | _ :: _ :: _ :: _ :: _ :: _, _, h4, _ => simp at h4
structure DcS where
  out : List UInt8
  A : Option Addr
  c : Nat
  e : Int
structure DcS.Ok (i : DcS) (url : Bool) (L : List ByteArray) (pre : List ByteArray) : Prop where
  eq : pre = L.take pre.length
  vs : ∃ vs, valsA url (pre.map (·.data.toList)).flatten = some vs ∧ ((i.e = 0 ∧ decG vs = some i.out) ∨ (i.e = 4 ∧ decG vs = none))
  len : i.out.length ≤ 3 * pre.length
def decOut (url : Bool) (s : List UInt8) (v : Value) (Fs : List Fact) : Prop := ∃ A l c e, v = .tuple #[.slice A l.length c, .int .i64 e] ∧ ((e = 0 ∧ decS url s = some l) ∨ (e ≠ 0 ∧ decS url s = none)) ∧ l.length ≤ c ∧ Fs = [browF ty_uint8 A l c]
theorem brow_cap {e : Nat} {c : Nat} {A : Option Addr} {l : List UInt8} {w : World} (h : (browF e A l c).p w) : l.length ≤ c := by
  rcases h.2 with ⟨_, h0⟩ | ⟨g, cap, cur, he, _, _, hnc, _⟩
  · omega
  · injection he with _ _ h3
    omega
theorem bytesN_succ (N n : Nat) : bytesN N (n + 1) = bytesN N n ++ [u8n (N / 256 ^ (2 - n))] := by
  unfold bytesN
  rw [List.range_succ, List.map_append]
  rfl
theorem bytesN_len (N n : Nat) : (bytesN N n).length = n := by simp [bytesN]
theorem shr_i64 {X k : Nat} (hk : k ≤ 2) : ((X : Int)).fdiv (2 ^ min (8 * (2 - (k : Int))).toNat IntKind.i64.bits) = ((X / 256 ^ (2 - k) : Nat) : Int) := by
  rw [show (8 * (2 - (k : Int))).toNat = 8 * (2 - k) by omega, show min (8 * (2 - k)) IntKind.i64.bits = 8 * (2 - k) from Nat.min_eq_left (by show _ ≤ 64; omega), show ((2 : Int) ^ (8 * (2 - k))) = ((256 ^ (2 - k) : Nat) : Int) by rw [show (256 : Nat) = 2 ^ 8 from rfl, ← Nat.pow_mul]; simp]
  rw [Int.fdiv_eq_ediv_of_nonneg _ (Int.natCast_nonneg _)]
  rfl
set_option maxHeartbeats 1000000 in
theorem b64dec_c (w : World) (al s : ByteArray) (url : Bool) (ha : Alph al url) (hL : s.size ≤ 1000000) (hs1 : s.size % 4 ≠ 1) : Con Tryz.prog n_b64_decode #[.string al, .string s] w [] (decOut url s.data.toList) := by
  have g := good_b64_decode w (Un [])
  have hml := maxLen_eq
  refine con_of_sx (cx := cx_b64_decode w (Un [])) g b_b64_decode rfl rfl (β := Va.z) [.c (.v (.string al)), .c (.v (.string s))] 0 [] [] rfl rfl (Sat.start rfl) ?_
  refine call_con [] (fun β w' hs => groups_c w' s 4) ?_
  rintro v Fs ⟨bs, bk, rfl, rfl⟩
  obtain ⟨s0, hs0⟩ : ∃ s0, s.data.toList = s0 := ⟨_, rfl⟩
  have hss : s = mkS s0 := by rw [← hs0, mkS_of]
  have hsl : s0.length = s.size := by rw [hss, mkS_sz]
  rw [hss] at hs1
  rw [mkS_sz] at hs1
  rw [hs0]
  obtain ⟨L, hLd⟩ : ∃ L, (piecesA 3 s0).map mkS = L := ⟨_, rfl⟩
  have hLL : L.length ≤ 1000000 := by
    have h := pieces_len 3 _ s0 (Nat.le_refl _)
    rw [← hLd, List.length_map]
    omega
  refine range_rule (α := ByteArray) (ι := DcS) (κ := Unit) g rfl (cv := [.pointer (some ⟨bs, 0, none⟩), .pointer (some ⟨bk, 0, none⟩)]) rfl (by kernel_rfl) 3 (Nat.le_refl 3)
    (fun pre i => i.Ok url L pre) (fun i => [⟨2, ty_api_Errno, [.v (.int .i64 i.e)]⟩, ⟨1, ty_sl_uint8, [.v (.slice i.A i.out.length i.c)]⟩, ⟨0, ty_string, [.v (.string al)]⟩]) (fun i => [browF ty_uint8 i.A i.out i.c]) (fun i => ⟨rfl, trivial⟩)
    (fun e pre _ => e = .exit 0 ∧ decS url s0 = none) (fun _ => [⟨2, ty_api_Errno, [.v (.int .i64 5)]⟩]) (fun _ => []) (fun _ => trivial)
    [bkF bs ty_string [.string s], bkF bk ty_int [.int .i64 4]] [] [] ⟨rfl, rfl, trivial⟩ (fun g h => by cases h) ⟨[], none, 0, 0⟩ ⟨rfl, ⟨[], rfl, .inl ⟨rfl, rfl⟩⟩, Nat.le_refl _⟩
    (fun β w hs => ⟨β, Agr.refl _ _, (hs.nilRow ty_uint8 1).perm [1, 2, 0]⟩) (insS L)
    (fun xs Fs' => xs = L ∧ Fs' = []) (fun _ Fs' => Fs' = [])
    (fun l w f0 R J Jx hJ0 hJo hRo hY hm => by
      rw [hss] at hm
      have h := grp_it l w bs bk 3 s0 f0 R J Jx 4 rfl (by decide) (by omega) hJ0 hJo hRo (by rw [hLd]; exact hY) hm
      rw [hLd, ← hss] at h
      exact h) ?_ ?_ ?_
  · rintro ⟨out, A, c, e⟩ pre x args X W S' lb bs' pn pn' hbs hok ⟨rfl, rfl, hx⟩
    obtain ⟨cs, hcs, rfl⟩ : ∃ cs, (piecesA 3 s0)[pre.length]? = some cs ∧ x = mkS cs := by
      rw [← hLd, List.getElem?_map] at hx
      obtain ⟨cs, h1, h2⟩ := Option.map_eq_some_iff.1 hx
      exact ⟨cs, h1, h2.symm⟩
    obtain ⟨p1, p2, p3⟩ := pieces_at 3 _ _ _ hcs
    have hpf : (pre.map (·.data.toList)).flatten = s0.take (4 * pre.length) := by
      conv => lhs; rw [hok.eq]
      rw [← hLd, ← List.map_take, List.map_map, show ((fun b : ByteArray => b.data.toList) ∘ mkS) = id from funext fun l => by simp [mkS], List.map_id]
      have h := p3
      rw [show pre.length = pre.length from rfl] at h
      exact h
    obtain ⟨vs, hv1, hv2⟩ := hok.vs
    rw [hpf] at hv1
    have hvl := valsA_len hv1
    have hv4 : vs.length % 4 = 0 := by rw [hvl.1, List.length_take]; omega
    have hcl : cs.length = min 4 (s0.length - 4 * pre.length) := by rw [p1, List.length_take, List.length_drop]
    have hnext : (pre.map (·.data.toList) ++ [cs]).flatten = s0.take (4 * pre.length) ++ cs := by rw [List.flatten_append, hpf]; simp
    have hdm : (mkS cs).data.toList = cs := by simp [mkS]
    have hcz := mkS_sz cs
    refine ⟨_, rfl, ?_⟩
    have hc4 : cs.length ≤ 4 := by omega
    have hc2 : 2 ≤ cs.length := by omega
    intro b1
    intro b2
    intro q1
    intro q2
    refine loop_rule (ι := Nat × Nat) 3 (fun j => [(2, .c (.p 0 0)), (6, .c (.p 1 0)), (7, .c (.p 2 0)), (8, .c (.v (.string (mkS cs)))), (9, .c (.v (.int .i64 (j.2 : Int)))), (19, .c (.v (.slice (some ⟨b1, 0, none⟩) (mkS cs).size b2))), (20, .c (.v (.int .i64 ((mkS cs).size : Int)))), (21, .c (.v (.int .i64 (j.1 : Int))))])
      (fun _ => [⟨2, ty_api_Errno, [.v (.int .i64 e)]⟩, ⟨1, ty_sl_uint8, [.v (.slice A out.length c)]⟩, ⟨0, ty_string, [.v (.string al)]⟩]) (fun _ => [rdoF 1 (some ⟨b1, 0, none⟩) (mkS cs).size ((mkS cs).data.toList.map byte), browF ty_uint8 A out c])
      (fun j => j.1 ≤ cs.length ∧ ∃ ws, valsA url (cs.take j.1) = some ws ∧ j.2 = vfold ws) (fun j => cs.length - j.1) (0, 0) ⟨Nat.zero_le _, [], rfl, rfl⟩ (Ent.mk' ⟨rfl, rfl, rfl, rfl, rfl, rfl, rfl, rfl, trivial⟩ rfl (fun β w' hs => hs.perm [0, 2])) (rcx_good g) ?_
    rintro ⟨j, N⟩ ⟨hj, ws, hws, hN⟩
    simp only at hj hws hN
    have hwl := valsA_len hws
    have hNl : N < 16777216 := by
      have h := vfold_lt _ ws rfl hwl.2
      rw [← hN, hwl.1, List.length_take] at h
      exact Nat.lt_of_lt_of_le h (Nat.le_trans (Nat.pow_le_pow_right (by decide) (show min j cs.length ≤ 4 by omega)) (by decide))
    refine BIf.dec (fun hlt => ?_) (fun hge => ?_)
    · have hlt0 : (j : Int) < ((mkS cs).size : Int) := hlt
      obtain ⟨y, hy, hym⟩ := at_lt (show j < cs.length by omega)
      have htk : cs.take (j + 1) = cs.take j ++ [y] := by rw [List.take_add_one, hy]; rfl
      refine ⟨_, j, rfl, rfl, by omega, ?_⟩
      refine ⟨byte y, fun β w' hs => Rd.cell1 (show Rd 1 (some ⟨b1, 0, none⟩) (mkS cs).size ((mkS cs).data.toList.map byte) w' from hs.get 0 rfl) (by rw [hdm, List.getElem?_map, hy]; rfl), ?_⟩
      have hval := fun w' => value_c w' al url y ha
      unfold valV at hval
      cases hvy : valA url y with
      | none =>
        rw [hvy] at hval
        refine call_pu (v := .int .i64 (-1)) (fun β w' hs => hval w') ?_
        refine ⟨(), ⟨rfl, ?_⟩, Ent.mk' trivial rfl (fun β w hs => ((hs.keepB (List.Sublist.cons_cons _ (List.nil_sublist _))).perm []).lower)⟩
        have hym0 : y ∈ s0 := by
          rw [p1] at hym
          exact List.mem_of_mem_drop (List.mem_of_mem_take hym)
        unfold decS
        rw [valsA_none hvy hym0]
        rfl
      | some v =>
        rw [hvy] at hval
        have hv64 := valA_lt hvy
        refine call_pu (v := .int .i64 (v : Int)) (fun β w' hs => hval w') ?_
        refine ⟨by decide, ((N * 64 : Nat) : Int), ?_, ?_⟩
        · rw [show min (6 : Int).toNat IntKind.i64.bits = 6 from rfl, wrap_i64 (by omega) (by omega)]; omega
        refine ⟨((N * 64 + v : Nat) : Int), or6_i64 (by omega) hv64, ?_⟩
        refine ⟨((j + 1 : Nat) : Int), by rw [wrap_i64 (by omega) (by omega)]; rfl, ?_⟩
        refine ⟨(j + 1, N * 64 + v), ⟨by show j + 1 ≤ cs.length; omega, ws ++ [v], ?_, by show N * 64 + v = _; rw [vfold_snoc, ← hN]⟩, by show cs.length - (j + 1) < cs.length - j; omega, Ent.same ⟨rfl, rfl, rfl, rfl, rfl, rfl, rfl, rfl, trivial⟩ rfl⟩
        show valsA url (cs.take (j + 1)) = _
        rw [htk, valsA_app, hws]
        simp only [valsA, hvy]
    · have hge0 : ¬ (j : Int) < ((mkS cs).size : Int) := hge
      have hjc : cs.take j = cs := List.take_of_length_le (by omega)
      rw [hjc] at hws
      have hwlen : ws.length = cs.length := (valsA_len hws).1
      have hw64 := (valsA_len hws).2
      obtain ⟨l0, hd0, hd1⟩ := decG_app vs ws hv4
      obtain ⟨he0, ho0⟩ : e = 0 ∧ out = l0 := by
        rcases hv2 with ⟨q, q'⟩ | ⟨q, q'⟩
        · rw [hd0] at q'
          exact ⟨q, (Option.some.inj q').symm⟩
        · rw [hd0] at q'; cases q'
      subst he0 ho0
      have hvall : valsA url (pre.map (·.data.toList) ++ [cs]).flatten = some (vs ++ ws) := by
        rw [hnext, valsA_app, hv1, hws]
      obtain ⟨X, hX⟩ : ∃ X : Nat, X = N * 2 ^ (6 * (4 - cs.length)) := ⟨_, rfl⟩
      have hgz := grpZ (ws := ws) (by omega) (by omega) hw64
      rw [← hN, hwlen, ← hX] at hgz
      have hXl : X < 16777216 := by
        have h := vfold_lt _ ws rfl hw64
        rw [← hN, hwlen] at h
        rw [hX, show (16777216 : Nat) = 64 ^ cs.length * 2 ^ (6 * (4 - cs.length)) by rw [show (64 : Nat) = 2 ^ 6 from rfl, ← Nat.pow_mul, ← Nat.pow_add, show 6 * cs.length + 6 * (4 - cs.length) = 24 by omega]]
        exact Nat.mul_lt_mul_of_pos_right h (Nat.pow_pos (by decide))
      have hpw : 2 ^ (8 * (4 - cs.length)) ≤ 2 ^ 16 := Nat.pow_le_pow_right (by decide) (by omega)
      have hpw0 : 0 < 2 ^ (8 * (4 - cs.length)) := Nat.pow_pos (by decide)
      refine ⟨(((4 - (mkS cs).size) : Nat) : Int), by rw [wrap_i64 (by omega) (by omega)]; omega, ?_⟩
      refine ⟨_, wrap_i64 (by omega) (by omega), ?_⟩
      refine ⟨by first | decide | omega, ?_⟩
      refine ⟨(X : Int), ?_, ?_⟩
      · rw [show (6 * ((4 - (mkS cs).size : Nat) : Int)).toNat = 6 * (4 - cs.length) by omega, show min (6 * (4 - cs.length)) IntKind.i64.bits = 6 * (4 - cs.length) from Nat.min_eq_left (by show _ ≤ 64; omega)]
        have e : ((N : Int) * 2 ^ (6 * (4 - cs.length))) = (X : Int) := by rw [hX]; simp
        show IntKind.i64.wrap ((N : Int) * 2 ^ (6 * (4 - cs.length))) = _
        rw [e, wrap_i64 (by omega) (by omega)]
      refine ⟨(((4 - (mkS cs).size) : Nat) : Int), by rw [wrap_i64 (by omega) (by omega)]; omega, ?_⟩
      refine ⟨_, wrap_i64 (by omega) (by omega), ?_⟩
      refine ⟨by first | decide | omega, ?_⟩
      refine ⟨((2 ^ (8 * (4 - cs.length)) : Nat) : Int), ?_, ?_⟩
      · rw [show (8 * ((4 - (mkS cs).size : Nat) : Int)).toNat = 8 * (4 - cs.length) by omega, show min (8 * (4 - cs.length)) IntKind.i64.bits = 8 * (4 - cs.length) from Nat.min_eq_left (by show _ ≤ 64; omega)]
        have e : ((1 : Int) * 2 ^ (8 * (4 - cs.length))) = ((2 ^ (8 * (4 - cs.length)) : Nat) : Int) := by simp
        rw [e, wrap_i64 (by omega) (by omega)]
      refine ⟨((2 ^ (8 * (4 - cs.length)) - 1 : Nat) : Int), by rw [wrap_i64 (by omega) (by omega)]; omega, ?_⟩
      refine ⟨((X % 2 ^ (8 * (4 - cs.length)) : Nat) : Int), and_i64 (by omega) (by omega), ?_⟩
      conv => whnf
      generalize hq : decide (((mkS cs).size : Int) < 4) = bq
      cases bq
      · refine ⟨((((mkS cs).size - 1) : Nat) : Int), by rw [wrap_i64 (by omega) (by omega)]; omega, ?_⟩
        have hne : ¬ (((mkS cs).size : Int) < 4) := of_decide_eq_false hq
        have h0 : X % 2 ^ (8 * (4 - cs.length)) = 0 := by rw [show cs.length = 4 by omega]; exact Nat.mod_one _
        rw [if_pos h0] at hgz
        refine loop_rule (ι := Option Addr × Nat × Nat × List UInt8) 3 (fun j => [(2, .c (.p 0 0)), (6, .c (.p 1 0)), (7, .c (.p 2 0)), (9, .c (.v (.int .i64 (X : Int)))), (58, .c (.v (.int .i64 (((mkS cs).size - 1 : Nat) : Int)))), (59, .c (.v (.int .i64 (j.2.2.1 : Int))))])
          (fun j => [⟨2, ty_api_Errno, [.v (.int .i64 0)]⟩, ⟨1, ty_sl_uint8, [.v (.slice j.1 j.2.2.2.length j.2.1)]⟩, ⟨0, ty_string, [.v (.string al)]⟩]) (fun j => [browF ty_uint8 j.1 j.2.2.2 j.2.1])
          (fun j => j.2.2.1 ≤ cs.length - 1 ∧ j.2.2.2 = out ++ bytesN X j.2.2.1) (fun j => cs.length - j.2.2.1) (A, c, 0, out) ⟨Nat.zero_le _, (List.append_nil _).symm⟩ (Ent.mk' ⟨rfl, rfl, rfl, rfl, rfl, rfl, trivial⟩ rfl (fun β w' hs => (hs.keepB (List.Sublist.refl _)).perm [1])) (rcx_good g) ?_
        rintro ⟨A1, c1, k, l1⟩ ⟨hk, hl1⟩
        simp only at hk hl1
        have hl1l : l1.length = out.length + k := by rw [hl1, List.length_append, bytesN_len]
        refine BIf.dec (fun hlt => ?_) (fun hge => ?_)
        · have hlt0 : (k : Int) < (((mkS cs).size - 1 : Nat) : Int) := hlt
          refine draw_rule (rcx_good g) p_b64_decode_21 (by kernel_rfl) [⟨2, ty_api_Errno, [.v (.int .i64 0)]⟩, ⟨1, ty_sl_uint8, [.v (.slice A1 l1.length c1)]⟩, ⟨0, ty_string, [.v (.string al)]⟩] [] (Sub.of (List.Sublist.refl _) (List.nil_sublist _)) ?_
          refine ⟨_, wrap_i64 (by omega) (by omega), ?_⟩
          refine ⟨_, wrap_i64 (by omega) (by omega), ?_⟩
          refine ⟨by first | decide | omega, ?_⟩
          refine ⟨((X / 256 ^ (2 - k) : Nat) : Int), shr_i64 (by omega), ?_⟩
          refine ⟨((u8n (X / 256 ^ (2 - k))).toNat : Int), wrap_u8n _, ?_⟩
          intro b3
          refine ⟨subPerm [], ?_⟩
          have hol := hok.len
          have hol2 : out.length ≤ 3 * pre.length := hol
          have hpl : pre.length < L.length := by
            rcases Nat.lt_or_ge pre.length L.length with h | h
            · exact h
            · rw [List.getElem?_eq_none h] at hx; cases hx
          obtain ⟨l2, hl2⟩ : ∃ l2, l2 = l1 ++ [u8n (X / 256 ^ (2 - k))] := ⟨_, rfl⟩
          have hl2l : l1.length + 1 = l2.length := by rw [hl2, List.length_append]; rfl
          refine ⟨1, l1.length, l2.length, _, [u8n (X / 256 ^ (2 - k))].map byte, l2.map byte, rfl, fun β w' hs => row_rd (hs.get 0 rfl), bytes_one _, hl2l, by rw [hl2, List.map_append], by rw [maxLen_eq]; omega, by show l2.length * 1 ≤ _; omega, ?_⟩
          intro A2 c2 r1 r2 r3
          refine ⟨subPerm [], ?_⟩
          refine ⟨(((k + 1) : Nat) : Int), by rw [wrap_i64 (by omega) (by omega)]; rfl, ?_⟩
          exact ⟨(A2, c2, k + 1, l2), ⟨by show k + 1 ≤ _; omega, by show l2 = _; rw [hl2, hl1, bytesN_succ, List.append_assoc]⟩, by show cs.length - (k + 1) < cs.length - k; omega, Ent.mk' ⟨rfl, rfl, rfl, rfl, rfl, rfl, trivial⟩ rfl (fun β w' hs => hs.perm [1])⟩
        · have hge0 : ¬ (k : Int) < (((mkS cs).size - 1 : Nat) : Int) := hge
          have hkk : k = cs.length - 1 := by omega
          refine ⟨⟨l1, A1, c1, 0⟩, ⟨?_, ?_, ?_⟩, Ent.mk' trivial rfl (fun β w' hs => hs)⟩
          · show pre ++ [mkS cs] = L.take (pre ++ [mkS cs]).length
            rw [List.length_append, List.length_singleton, List.take_add_one, hx, ← hok.eq]
            rfl
          · refine ⟨vs ++ ws, by rw [List.map_append, List.map_singleton, hdm]; exact hvall, ?_⟩
            rw [hd1]
            have hh : ((0 : Int) = 0 ∧ decG ws = some (bytesN X (cs.length - 1))) ∨ ((0 : Int) = 4 ∧ decG ws = none) := (Or.inl (⟨rfl, hgz⟩ : (0 : Int) = 0 ∧ decG ws = some (bytesN X (cs.length - 1))))
            rcases hh with ⟨q1, q2⟩ | ⟨q1, q2⟩
            · exact .inl ⟨q1, by rw [q2, hl1, hkk]; rfl⟩
            · exact .inr ⟨q1, by rw [q2]; rfl⟩
          · have h := hok.len
            show l1.length ≤ 3 * (pre ++ [mkS cs]).length
            rw [hl1l, List.length_append, List.length_singleton]
            have h2 : out.length ≤ 3 * pre.length := h
            omega
      · have hlt4 : ((mkS cs).size : Int) < 4 := of_decide_eq_true hq
        conv => whnf
        generalize hq2 : decide (((X % 2 ^ (8 * (4 - cs.length)) : Nat) : Int) = 0) = bz
        cases bz
        · have he0 : ¬ ((X % 2 ^ (8 * (4 - cs.length)) : Nat) : Int) = 0 := of_decide_eq_false hq2
          rw [if_neg (show ¬ X % 2 ^ (8 * (4 - cs.length)) = 0 by omega)] at hgz
          refine ⟨((((mkS cs).size - 1) : Nat) : Int), by rw [wrap_i64 (by omega) (by omega)]; omega, ?_⟩
          refine loop_rule (ι := Option Addr × Nat × Nat × List UInt8) 3 (fun j => [(2, .c (.p 0 0)), (6, .c (.p 1 0)), (7, .c (.p 2 0)), (9, .c (.v (.int .i64 (X : Int)))), (58, .c (.v (.int .i64 (((mkS cs).size - 1 : Nat) : Int)))), (59, .c (.v (.int .i64 (j.2.2.1 : Int))))])
            (fun j => [⟨2, ty_api_Errno, [.v (.int .i64 4)]⟩, ⟨1, ty_sl_uint8, [.v (.slice j.1 j.2.2.2.length j.2.1)]⟩, ⟨0, ty_string, [.v (.string al)]⟩]) (fun j => [browF ty_uint8 j.1 j.2.2.2 j.2.1])
            (fun j => j.2.2.1 ≤ cs.length - 1 ∧ j.2.2.2 = out ++ bytesN X j.2.2.1) (fun j => cs.length - j.2.2.1) (A, c, 0, out) ⟨Nat.zero_le _, (List.append_nil _).symm⟩ (Ent.mk' ⟨rfl, rfl, rfl, rfl, rfl, rfl, trivial⟩ rfl (fun β w' hs => (hs.keepB (List.Sublist.refl _)).perm [1])) (rcx_good g) ?_
          rintro ⟨A1, c1, k, l1⟩ ⟨hk, hl1⟩
          simp only at hk hl1
          have hl1l : l1.length = out.length + k := by rw [hl1, List.length_append, bytesN_len]
          refine BIf.dec (fun hlt => ?_) (fun hge => ?_)
          · have hlt0 : (k : Int) < (((mkS cs).size - 1 : Nat) : Int) := hlt
            refine draw_rule (rcx_good g) p_b64_decode_21 (by kernel_rfl) [⟨2, ty_api_Errno, [.v (.int .i64 4)]⟩, ⟨1, ty_sl_uint8, [.v (.slice A1 l1.length c1)]⟩, ⟨0, ty_string, [.v (.string al)]⟩] [] (Sub.of (List.Sublist.refl _) (List.nil_sublist _)) ?_
            refine ⟨_, wrap_i64 (by omega) (by omega), ?_⟩
            refine ⟨_, wrap_i64 (by omega) (by omega), ?_⟩
            refine ⟨by first | decide | omega, ?_⟩
            refine ⟨((X / 256 ^ (2 - k) : Nat) : Int), shr_i64 (by omega), ?_⟩
            refine ⟨((u8n (X / 256 ^ (2 - k))).toNat : Int), wrap_u8n _, ?_⟩
            intro b3
            refine ⟨subPerm [], ?_⟩
            have hol := hok.len
            have hol2 : out.length ≤ 3 * pre.length := hol
            have hpl : pre.length < L.length := by
              rcases Nat.lt_or_ge pre.length L.length with h | h
              · exact h
              · rw [List.getElem?_eq_none h] at hx; cases hx
            obtain ⟨l2, hl2⟩ : ∃ l2, l2 = l1 ++ [u8n (X / 256 ^ (2 - k))] := ⟨_, rfl⟩
            have hl2l : l1.length + 1 = l2.length := by rw [hl2, List.length_append]; rfl
            refine ⟨1, l1.length, l2.length, _, [u8n (X / 256 ^ (2 - k))].map byte, l2.map byte, rfl, fun β w' hs => row_rd (hs.get 0 rfl), bytes_one _, hl2l, by rw [hl2, List.map_append], by rw [maxLen_eq]; omega, by show l2.length * 1 ≤ _; omega, ?_⟩
            intro A2 c2 r1 r2 r3
            refine ⟨subPerm [], ?_⟩
            refine ⟨(((k + 1) : Nat) : Int), by rw [wrap_i64 (by omega) (by omega)]; rfl, ?_⟩
            exact ⟨(A2, c2, k + 1, l2), ⟨by show k + 1 ≤ _; omega, by show l2 = _; rw [hl2, hl1, bytesN_succ, List.append_assoc]⟩, by show cs.length - (k + 1) < cs.length - k; omega, Ent.mk' ⟨rfl, rfl, rfl, rfl, rfl, rfl, trivial⟩ rfl (fun β w' hs => hs.perm [1])⟩
          · have hge0 : ¬ (k : Int) < (((mkS cs).size - 1 : Nat) : Int) := hge
            have hkk : k = cs.length - 1 := by omega
            refine ⟨⟨l1, A1, c1, 4⟩, ⟨?_, ?_, ?_⟩, Ent.mk' trivial rfl (fun β w' hs => hs)⟩
            · show pre ++ [mkS cs] = L.take (pre ++ [mkS cs]).length
              rw [List.length_append, List.length_singleton, List.take_add_one, hx, ← hok.eq]
              rfl
            · refine ⟨vs ++ ws, by rw [List.map_append, List.map_singleton, hdm]; exact hvall, ?_⟩
              rw [hd1]
              have hh : ((4 : Int) = 0 ∧ decG ws = some (bytesN X (cs.length - 1))) ∨ ((4 : Int) = 4 ∧ decG ws = none) := (Or.inr (⟨rfl, hgz⟩ : (4 : Int) = 4 ∧ decG ws = none))
              rcases hh with ⟨q1, q2⟩ | ⟨q1, q2⟩
              · exact .inl ⟨q1, by rw [q2, hl1, hkk]; rfl⟩
              · exact .inr ⟨q1, by rw [q2]; rfl⟩
            · have h := hok.len
              show l1.length ≤ 3 * (pre ++ [mkS cs]).length
              rw [hl1l, List.length_append, List.length_singleton]
              have h2 : out.length ≤ 3 * pre.length := h
              omega
        · have he0 : ((X % 2 ^ (8 * (4 - cs.length)) : Nat) : Int) = 0 := of_decide_eq_true hq2
          rw [if_pos (show X % 2 ^ (8 * (4 - cs.length)) = 0 by omega)] at hgz
          refine ⟨((((mkS cs).size - 1) : Nat) : Int), by rw [wrap_i64 (by omega) (by omega)]; omega, ?_⟩
          refine loop_rule (ι := Option Addr × Nat × Nat × List UInt8) 3 (fun j => [(2, .c (.p 0 0)), (6, .c (.p 1 0)), (7, .c (.p 2 0)), (9, .c (.v (.int .i64 (X : Int)))), (58, .c (.v (.int .i64 (((mkS cs).size - 1 : Nat) : Int)))), (59, .c (.v (.int .i64 (j.2.2.1 : Int))))])
            (fun j => [⟨2, ty_api_Errno, [.v (.int .i64 0)]⟩, ⟨1, ty_sl_uint8, [.v (.slice j.1 j.2.2.2.length j.2.1)]⟩, ⟨0, ty_string, [.v (.string al)]⟩]) (fun j => [browF ty_uint8 j.1 j.2.2.2 j.2.1])
            (fun j => j.2.2.1 ≤ cs.length - 1 ∧ j.2.2.2 = out ++ bytesN X j.2.2.1) (fun j => cs.length - j.2.2.1) (A, c, 0, out) ⟨Nat.zero_le _, (List.append_nil _).symm⟩ (Ent.mk' ⟨rfl, rfl, rfl, rfl, rfl, rfl, trivial⟩ rfl (fun β w' hs => (hs.keepB (List.Sublist.refl _)).perm [1])) (rcx_good g) ?_
          rintro ⟨A1, c1, k, l1⟩ ⟨hk, hl1⟩
          simp only at hk hl1
          have hl1l : l1.length = out.length + k := by rw [hl1, List.length_append, bytesN_len]
          refine BIf.dec (fun hlt => ?_) (fun hge => ?_)
          · have hlt0 : (k : Int) < (((mkS cs).size - 1 : Nat) : Int) := hlt
            refine draw_rule (rcx_good g) p_b64_decode_21 (by kernel_rfl) [⟨2, ty_api_Errno, [.v (.int .i64 0)]⟩, ⟨1, ty_sl_uint8, [.v (.slice A1 l1.length c1)]⟩, ⟨0, ty_string, [.v (.string al)]⟩] [] (Sub.of (List.Sublist.refl _) (List.nil_sublist _)) ?_
            refine ⟨_, wrap_i64 (by omega) (by omega), ?_⟩
            refine ⟨_, wrap_i64 (by omega) (by omega), ?_⟩
            refine ⟨by first | decide | omega, ?_⟩
            refine ⟨((X / 256 ^ (2 - k) : Nat) : Int), shr_i64 (by omega), ?_⟩
            refine ⟨((u8n (X / 256 ^ (2 - k))).toNat : Int), wrap_u8n _, ?_⟩
            intro b3
            refine ⟨subPerm [], ?_⟩
            have hol := hok.len
            have hol2 : out.length ≤ 3 * pre.length := hol
            have hpl : pre.length < L.length := by
              rcases Nat.lt_or_ge pre.length L.length with h | h
              · exact h
              · rw [List.getElem?_eq_none h] at hx; cases hx
            obtain ⟨l2, hl2⟩ : ∃ l2, l2 = l1 ++ [u8n (X / 256 ^ (2 - k))] := ⟨_, rfl⟩
            have hl2l : l1.length + 1 = l2.length := by rw [hl2, List.length_append]; rfl
            refine ⟨1, l1.length, l2.length, _, [u8n (X / 256 ^ (2 - k))].map byte, l2.map byte, rfl, fun β w' hs => row_rd (hs.get 0 rfl), bytes_one _, hl2l, by rw [hl2, List.map_append], by rw [maxLen_eq]; omega, by show l2.length * 1 ≤ _; omega, ?_⟩
            intro A2 c2 r1 r2 r3
            refine ⟨subPerm [], ?_⟩
            refine ⟨(((k + 1) : Nat) : Int), by rw [wrap_i64 (by omega) (by omega)]; rfl, ?_⟩
            exact ⟨(A2, c2, k + 1, l2), ⟨by show k + 1 ≤ _; omega, by show l2 = _; rw [hl2, hl1, bytesN_succ, List.append_assoc]⟩, by show cs.length - (k + 1) < cs.length - k; omega, Ent.mk' ⟨rfl, rfl, rfl, rfl, rfl, rfl, trivial⟩ rfl (fun β w' hs => hs.perm [1])⟩
          · have hge0 : ¬ (k : Int) < (((mkS cs).size - 1 : Nat) : Int) := hge
            have hkk : k = cs.length - 1 := by omega
            refine ⟨⟨l1, A1, c1, 0⟩, ⟨?_, ?_, ?_⟩, Ent.mk' trivial rfl (fun β w' hs => hs)⟩
            · show pre ++ [mkS cs] = L.take (pre ++ [mkS cs]).length
              rw [List.length_append, List.length_singleton, List.take_add_one, hx, ← hok.eq]
              rfl
            · refine ⟨vs ++ ws, by rw [List.map_append, List.map_singleton, hdm]; exact hvall, ?_⟩
              rw [hd1]
              have hh : ((0 : Int) = 0 ∧ decG ws = some (bytesN X (cs.length - 1))) ∨ ((0 : Int) = 4 ∧ decG ws = none) := (Or.inl (⟨rfl, hgz⟩ : (0 : Int) = 0 ∧ decG ws = some (bytesN X (cs.length - 1))))
              rcases hh with ⟨q1, q2⟩ | ⟨q1, q2⟩
              · exact .inl ⟨q1, by rw [q2, hl1, hkk]; rfl⟩
              · exact .inr ⟨q1, by rw [q2]; rfl⟩
            · have h := hok.len
              show l1.length ≤ 3 * (pre ++ [mkS cs]).length
              rw [hl1l, List.length_append, List.length_singleton]
              have h2 : out.length ≤ 3 * pre.length := h
              omega
  · rintro xs ⟨out, A, c, e⟩ Fs hok ⟨rfl, rfl⟩
    obtain ⟨vs, hv1, hv2⟩ := hok.vs
    have hfl : (xs.map (·.data.toList)).flatten = s0 := by
      rw [← hLd, List.map_map, show ((fun b : ByteArray => b.data.toList) ∘ mkS) = id from funext fun l => by simp [mkS], List.map_id, pieces_flat 3 _ _ (Nat.le_refl _)]
    rw [hfl] at hv1
    have hds : decS url s0 = decG vs := by unfold decS; rw [hv1]; rfl
    rcases hv2 with ⟨q1, q2⟩ | ⟨q1, q2⟩
    · obtain rfl : e = 0 := q1
      intro β w' hs
      have hcap : out.length ≤ c := brow_cap (show (browF ty_uint8 A out c).p w' from hs.get 0 rfl)
      exact (hs.keepB (List.nil_sublist _)).fin [0] ⟨A, out, c, 0, rfl, .inl ⟨rfl, by rw [hds, q2]⟩, hcap, rfl⟩
    · obtain rfl : e = 4 := q1
      refine draw_rule g p_b64_decode_24 (by kernel_rfl) [⟨2, ty_api_Errno, [.v (.int .i64 4)]⟩] [] (Sub.of (List.sublist_append_left _ _) (List.nil_sublist _)) ?_
      intro β w' hs
      exact ((hs.keepB (List.nil_sublist _)).nilRow ty_uint8 1).fin [0] ⟨none, [], 0, 4, rfl, .inr ⟨by decide, by rw [hds, q2]⟩, Nat.le_refl _, rfl⟩
  · rintro e pre ⟨⟩ Fs ⟨rfl, hno⟩ rfl
    refine draw_rule g p_b64_decode_24 (by kernel_rfl) [⟨2, ty_api_Errno, [.v (.int .i64 5)]⟩] [] (Sub.of (List.Sublist.refl _) (List.nil_sublist _)) ?_
    intro β w' hs
    exact ((hs.keepB (List.nil_sublist _)).nilRow ty_uint8 1).fin [0] ⟨none, [], 0, 5, rfl, .inr ⟨by decide, hno⟩, Nat.le_refl _, rfl⟩
def addT (a b : Nat) : Nat := min (min a 1099511627776 + min b 1099511627776) 1099511627776
theorem tick_c (w : World) (n : Nat) : Pu Tryz.prog n_span_tick #[.int .u64 (n : Int)] w (.int .u64 ((min n 1099511627776 : Nat) : Int)) := by
  have g := good_span_tick w (Un [])
  refine con_of_sx (cx := cx_span_tick w (Un [])) g b_span_tick rfl rfl (β := Va.z) [.c (.v (.int .u64 (n : Int)))] 0 [] [] rfl rfl (Sat.start rfl) ?_
  refine ⟨((min n 1099511627776 : Nat) : Int), by show min (n : Int) 1099511627776 = _; omega, ?_⟩
  intro β w' hs
  exact hs.fin [] ⟨rfl, rfl⟩
theorem spanAdd_c (w : World) (a b : Nat) : Pu Tryz.prog n_span_Add #[.int .u64 (a : Int), .int .u64 (b : Int)] w (.int .u64 ((addT a b : Nat) : Int)) := by
  have g := good_span_Add w (Un [])
  refine con_of_sx (cx := cx_span_Add w (Un [])) g b_span_Add rfl rfl (β := Va.z) [.c (.v (.int .u64 (a : Int))), .c (.v (.int .u64 (b : Int)))] 0 [] [] rfl rfl (Sat.start rfl) ?_
  refine call_pu (fun β w' hs => tick_c w' a) ?_
  refine call_pu (fun β w' hs => tick_c w' b) ?_
  refine ⟨((min a 1099511627776 + min b 1099511627776 : Nat) : Int), by rw [wrap_u64]; omega, ?_⟩
  refine call_pu (fun β w' hs => tick_c w' (min a 1099511627776 + min b 1099511627776)) ?_
  intro β w' hs
  exact hs.fin [] ⟨rfl, rfl⟩
theorem twithin_c (w : World) (n m : Nat) : Pu Tryz.prog n_ticket_within #[.int .u64 (n : Int), .int .u64 (m : Int)] w (.bool (decide (1 ≤ n ∧ n ≤ m))) := by
  have g := good_ticket_within w (Un [])
  refine con_of_sx (cx := cx_ticket_within w (Un [])) g b_ticket_within rfl rfl (β := Va.z) [.c (.v (.int .u64 (n : Int))), .c (.v (.int .u64 (m : Int)))] 0 [] [] rfl rfl (Sat.start rfl) ?_
  refine BIf.dec (fun h1 => ?_) (fun h1 => ?_)
  · have h10 : (n : Int) ≥ 1 := h1
    intro β w' hs
    refine hs.fin [] ⟨?_, rfl⟩
    show Value.bool (decide ((n : Int) ≤ (m : Int))) = _
    congr 1
    exact decide_eq_decide.2 ⟨fun h => ⟨by omega, by omega⟩, fun h => by omega⟩
  · have h10 : ¬ (n : Int) ≥ 1 := h1
    intro β w' hs
    refine hs.fin [] ⟨?_, rfl⟩
    rw [decide_eq_false (fun h => by omega)]
    rfl
theorem be_at : ∀ (k n j : Nat), j < k → (be k n)[j]? = some (UInt8.ofNat (n / 256 ^ (k - 1 - j) % 256))
  | k + 1, n, j, h => by
    rw [be]
    rcases Nat.lt_or_ge j k with q | q
    · rw [List.getElem?_append_left (by rw [be_length]; exact q), be_at k (n / 256) j q, Nat.div_div_eq_div_mul, ← Nat.pow_succ', show k + 1 - 1 - j = (k - 1 - j) + 1 by omega]
    · obtain rfl : j = k := by omega
      rw [List.getElem?_append_right (by rw [be_length]; exact Nat.le_refl _), be_length, Nat.sub_self, show j + 1 - 1 - j = 0 by omega]
      simp
theorem shr8 {n j : Nat} (hj : j ≤ 7) : (n : Int).fdiv (2 ^ min (8 * (j : Int)).toNat IntKind.u64.bits) = ((n / 256 ^ j : Nat) : Int) := by
  rw [show (8 * (j : Int)).toNat = 8 * j by omega, show min (8 * j) IntKind.u64.bits = 8 * j from Nat.min_eq_left (by show _ ≤ 64; omega), show ((2 : Int) ^ (8 * j)) = ((256 ^ j : Nat) : Int) by rw [show (256 : Nat) = 2 ^ 8 from rfl, ← Nat.pow_mul]; simp]
  rw [Int.fdiv_eq_ediv_of_nonneg _ (Int.natCast_nonneg _)]
  rfl
theorem tnum_c (w : World) (n k : Nat) (hn : n < 18446744073709551616) (hk : k ≤ 8) : Con Tryz.prog n_ticket_num #[.int .u64 (n : Int), .int .i64 (k : Int)] w [] fun v Fs => ∃ A c, v = .slice A (be k n).length c ∧ (be k n).length ≤ c ∧ Fs = [browF ty_uint8 A (be k n) c] := by
  have g := good_ticket_num w (Un [])
  have hml := maxLen_eq
  refine con_of_sx (cx := cx_ticket_num w (Un [])) g b_ticket_num rfl rfl (β := Va.z) [.c (.v (.int .u64 (n : Int))), .c (.v (.int .i64 (k : Int)))] 0 [] [] rfl rfl (Sat.start rfl) ?_
  refine ⟨(k : Int) - 1, wrap_i64 (by omega) (by omega), ?_⟩
  refine loop_rule (ι := Nat × Option Addr × Nat) 0 (fun j => [(0, .c (.v (.int .u64 (n : Int)))), (5, .c (.v (.slice j.2.1 ((be k n).take j.1).length j.2.2))), (6, .c (.v (.int .i64 ((k : Int) - 1 - j.1))))]) (fun _ => []) (fun j => [browF ty_uint8 j.2.1 ((be k n).take j.1) j.2.2])
    (fun j => j.1 ≤ k) (fun j => k - j.1) (0, none, 0) (Nat.zero_le _) (Ent.mk' ⟨rfl, rfl, by show some _ = some _; rw [show (k : Int) - 1 - ((0 : Nat) : Int) = (k : Int) - 1 by omega], trivial⟩ rfl (fun β w' hs => hs.nilRow ty_uint8 1)) g ?_
  rintro ⟨j, A, c⟩ hj
  simp only at hj
  have hbl := be_length k n
  have hjl : ((be k n).take j).length = j := by rw [List.length_take, hbl]; omega
  refine BIf.dec (fun hlt => ?_) (fun hge => ?_)
  · have hlt0 : (k : Int) - 1 - j ≥ 0 := hlt
    obtain ⟨i, hi⟩ : ∃ i, k - 1 - j = i := ⟨_, rfl⟩
    have hki : (k : Int) - 1 - j = (i : Int) := by omega
    rw [hki]
    refine ⟨8 * (i : Int), wrap_i64 (by omega) (by omega), ?_⟩
    refine ⟨by omega, ((n / 256 ^ i : Nat) : Int), shr8 (by omega), ?_⟩
    refine ⟨((n / 256 ^ i % 256 : Nat) : Int), by rw [wrap_u8]; omega, ?_⟩
    have hx := be_at k n j (by omega)
    rw [hi] at hx
    obtain ⟨x, hxx⟩ : ∃ x : UInt8, UInt8.ofNat (n / 256 ^ i % 256) = x := ⟨_, rfl⟩
    have hxn : n / 256 ^ i % 256 = x.toNat := by rw [← hxx, ofNat_toNat _ (Nat.mod_lt _ (by decide))]
    rw [hxx] at hx
    rw [hxn]
    have hsn : (be k n).take (j + 1) = (be k n).take j ++ [x] := by rw [List.take_add_one, hx]; rfl
    intro b1
    refine ⟨1, ((be k n).take j).length, ((be k n).take (j + 1)).length, ((be k n).take j).map byte, [byte x], ((be k n).take (j + 1)).map byte, rfl, fun β w' hs => row_rd (hs.get 0 rfl), fun u hu => by obtain rfl := List.mem_singleton.1 hu; rfl, by rw [hsn, List.length_append]; rfl, by rw [hsn, List.map_append]; rfl, by rw [hsn, List.length_append]; show _ + 1 ≤ _; omega, by rw [hsn, List.length_append]; show (_ + 1) * 1 ≤ _; omega, ?_⟩
    intro A' c' _ _ _
    refine ⟨(k : Int) - 1 - ((j + 1 : Nat) : Int), by rw [wrap_i64 (by omega) (by omega)]; omega, ?_⟩
    exact ⟨(j + 1, A', c'), by show j + 1 ≤ k; omega, by show k - (j + 1) < k - j; omega, Ent.mk' ⟨rfl, rfl, rfl, trivial⟩ rfl (fun β w' hs => hs.perm [1])⟩
  · have hge0 : ¬ (k : Int) - 1 - j ≥ 0 := hge
    have hjk : (be k n).take j = be k n := List.take_of_length_le (by omega)
    rw [hjk]
    intro β w' hs
    exact hs.fin [0] ⟨A, c, rfl, brow_cap (hs.get 0 rfl), rfl⟩
def Tk.cells (t : Tk) : List Value := [.int .u64 (t.epoch : Int), .int .u64 (t.serial : Int), .int .u64 (t.fro : Int), .int .u64 (t.til : Int), .int .u64 (t.gen : Int), .string (mkS t.ten), .string (mkS t.usr), .string (mkS t.rol)]
structure Tk.Ok (t : Tk) : Prop where
  e : t.epoch < 18446744073709551616
  s : t.serial < 18446744073709551616
  f : t.fro < 18446744073709551616
  l : t.til < 18446744073709551616
  g : t.gen < 18446744073709551616
  n : t.ten.length ≤ 100000
  u : t.usr.length ≤ 100000
  r : t.rol.length ≤ 100000
theorem mkS_out (l : List UInt8) : (mkS l).data.toList = l := by simp [mkS]
theorem mkS_one {a b : List UInt8} (h : mkS a = mkS b) : a = b := by
  have := congrArg (fun s : ByteArray => s.data.toList) h
  simpa [mkS_out] using this
theorem nameA_mk (l : List UInt8) : nameA (mkS l) = (mkS (sizF l 32).1, (sizF l 32).2) := by unfold nameA; rw [mkS_out]
open Classical in
theorem tkRight_c (w : World) (t : Tk) (hn : NamT w) (ht : t.Ok) : Pu Tryz.prog n_ticket_Ticket_right #[.agg t.cells.toArray] w (.bool (decide t.Right)) := by
  have g := good_ticket_Ticket_right w (Un [])
  have hu : (mkS t.usr).size ≤ 100000 := ht.u
  have hte : (mkS t.ten).size ≤ 100000 := ht.n
  have hro : (mkS t.rol).size ≤ 100000 := ht.r
  refine con_of_sx (cx := cx_ticket_Ticket_right w (Un [])) g b_ticket_Ticket_right rfl rfl (β := Va.z) [.agg (t.cells.map SL.v)] 0 [] [oldF w] rfl rfl (old_sat rfl) ?_
  have no : ¬ t.Right → ∀ {β : Va} {n : Nat} {H : List Bk} {F : List Fact} {w' : World}, Sat (cx_ticket_Ticket_right w (Un [])) β n H F w' → Fin w [] (fun v Fs => v = .bool (decide t.Right) ∧ Fs = []) (.bool false) w' := fun h β n H F w' hs => hs.fin [] ⟨by rw [decide_eq_false h], rfl⟩
  refine call_pu (fun β w' hs => by
    have h := nameA_c w' (mkS t.usr) hu (hn.old (hs.get 0 rfl))
    rw [nameA_mk] at h
    exact h) ?_
  refine BIf.dec (fun h1 => ?_) (fun h1 => ?_)
  rotate_left
  · intro β w' hs
    exact no (fun h => h1 (by have := h.usr; unfold namedT at this; simp only [Bool.and_eq_true, decide_eq_true_iff] at this; exact this.1)) hs
  refine BIf.dec (fun h2 => ?_) (fun h2 => ?_)
  rotate_left
  · intro β w' hs
    exact no (fun h => h2 (by have := h.usr; unfold namedT at this; simp only [Bool.and_eq_true, decide_eq_true_iff] at this; rw [this.2])) hs
  have hnm : namedT t.usr = true := by
    unfold namedT
    rw [Bool.and_eq_true, decide_eq_true_iff, decide_eq_true_iff]
    exact ⟨h1, mkS_one h2⟩
  refine call_pu (v := .bool (plainF t.ten)) (fun β w' hs => by
    have h := plain_c w' (mkS t.ten) hte
    rw [mkS_out] at h
    exact h) ?_
  cases h3 : plainF t.ten with
  | false =>
    intro β w' hs
    exact no (fun h => by rw [h.ten] at h3; cases h3) hs
  | true =>
  refine call_pu (v := .bool (plainF t.rol)) (fun β w' hs => by
    have h := plain_c w' (mkS t.rol) hro
    rw [mkS_out] at h
    exact h) ?_
  cases h4 : plainF t.rol with
  | false =>
    intro β w' hs
    exact no (fun h => by rw [h.rol] at h4; cases h4) hs
  | true =>
  refine call_pu (v := .bool (decide (1 ≤ t.epoch ∧ t.epoch ≤ 4294967295))) (fun β w' hs => twithin_c w' t.epoch 4294967295) ?_
  refine BIf.dec (fun h5 => ?_) (fun h5 => ?_)
  rotate_left
  · intro β w' hs
    exact no (fun h => h5 ⟨h.e1, h.e2⟩) hs
  refine call_pu (v := .bool (decide (1 ≤ t.serial ∧ t.serial ≤ 9007199254740992))) (fun β w' hs => twithin_c w' t.serial 9007199254740992) ?_
  refine BIf.dec (fun h6 => ?_) (fun h6 => ?_)
  rotate_left
  · intro β w' hs
    exact no (fun h => h6 ⟨h.s1, h.s2⟩) hs
  refine call_pu (v := .bool (decide (1 ≤ t.gen ∧ t.gen ≤ 9007199254740992))) (fun β w' hs => twithin_c w' t.gen 9007199254740992) ?_
  refine BIf.dec (fun h7 => ?_) (fun h7 => ?_)
  rotate_left
  · intro β w' hs
    exact no (fun h => h7 ⟨h.g1, h.g2⟩) hs
  refine BIf.dec (fun h8 => ?_) (fun h8 => ?_)
  rotate_left
  · have h80 : ¬ (t.fro : Int) < (t.til : Int) := h8
    intro β w' hs
    exact no (fun h => h80 (by have := h.lt; omega)) hs
  have h80 : (t.fro : Int) < (t.til : Int) := h8
  intro β w' hs
  refine hs.fin [] ⟨?_, rfl⟩
  show Value.bool (decide ((t.til : Int) ≤ 1099511627776)) = _
  congr 1
  exact decide_eq_decide.2 ⟨fun h => ⟨hnm, h3, h4, h5.1, h5.2, h6.1, h6.2, h7.1, h7.2, by omega, by omega⟩, fun h => by have := h.le; omega⟩
end Go.Proofs.YtlhcgofdfhfegaaGreatDoor.Sx

namespace Go.Proofs.YtlhcgofdfhfegaaGreatDoor.Sx
open Go Sha
attribute [local irreducible] Calls
end Go.Proofs.YtlhcgofdfhfegaaGreatDoor.Sx
