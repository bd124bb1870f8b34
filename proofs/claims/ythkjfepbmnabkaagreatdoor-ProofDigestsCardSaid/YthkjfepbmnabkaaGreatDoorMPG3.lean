/- Texts joined: BoxL, Bk1, Hex, Sha1, Sha2, Sha3, Sha4, Sha5, Sha6, Sha7, Sha8, Sha9, Pd0, Pd4, Pd5, Nam1, Nam2, Nam3, Nam4, Nam5, Nam6, Nam7, Nam8, Nam9, RnP, NamP, Rn1, SxTri, Rn2, Rn3, Rn4, Rn5, RoF, StoL, Sto1, Sto2, Mk1, StepG, Bk2, Box1, Box2, Join. -/
import Derived.Test.YthkjfepbmnabkaaGreatDoorMPG2
set_option linter.unusedVariables false
set_option linter.unusedSimpArgs false
/- Boxes, plainly: terms and their prints, handles. -/
namespace Go.Proofs.YthkjfepbmnabkaaGreatDoor.Bx

structure Term where
  kind : Nat
  key : List UInt8
  text : List UInt8
  rounds : Nat
  list : List Nat
  mask : List UInt8

/-! ### prints -/
def vint (n : Nat) : List UInt8 := if h : n < 128 then [UInt8.ofNat n] else UInt8.ofNat (n % 128 + 128) :: vint (n / 128)
termination_by n
decreasing_by omega
theorem vint_lt {n : Nat} (h : n < 128) : vint n = [UInt8.ofNat n] := by rw [vint, dif_pos h]
theorem vint_ge {n : Nat} (h : ¬ n < 128) : vint n = UInt8.ofNat (n % 128 + 128) :: vint (n / 128) := by rw [vint, dif_neg h]
theorem u8_inj {a b : Nat} (ha : a < 256) (hb : b < 256) (h : UInt8.ofNat a = UInt8.ofNat b) : a = b := by
  have := congrArg UInt8.toNat h
  simp only [UInt8.toNat_ofNat'] at this
  omega
theorem vint_inj : ∀ (a b : Nat) (x y : List UInt8), vint a ++ x = vint b ++ y → a = b ∧ x = y := by
  intro a
  induction a using Nat.strongRecOn with
  | _ a ih =>
    intro b x y h
    by_cases ha : a < 128
    · by_cases hb : b < 128
      · rw [vint_lt ha, vint_lt hb] at h
        simp only [List.cons_append, List.nil_append, List.cons.injEq] at h
        exact ⟨u8_inj (by omega) (by omega) h.1, h.2⟩
      · rw [vint_lt ha, vint_ge hb] at h
        simp only [List.cons_append, List.nil_append, List.cons.injEq] at h
        have := u8_inj (by omega) (by omega) h.1
        omega
    · by_cases hb : b < 128
      · rw [vint_ge ha, vint_lt hb] at h
        simp only [List.cons_append, List.nil_append, List.cons.injEq] at h
        have := u8_inj (by omega) (by omega) h.1
        omega
      · rw [vint_ge ha, vint_ge hb] at h
        simp only [List.cons_append, List.cons.injEq] at h
        have h1 := u8_inj (by omega) (by omega) h.1
        obtain ⟨h2, h3⟩ := ih (a / 128) (by omega) (b / 128) x y h.2
        exact ⟨by omega, h3⟩
theorem vints_inj : ∀ (l m : List Nat) (x y : List UInt8), l.length = m.length → l.flatMap vint ++ x = m.flatMap vint ++ y → l = m ∧ x = y
  | [], [], x, y, _, h => ⟨rfl, h⟩
  | [], _ :: _, _, _, hl, _ => by cases hl
  | _ :: _, [], _, _, hl, _ => by cases hl
  | a :: l, b :: m, x, y, hl, h => by
    simp only [List.flatMap_cons, List.append_assoc] at h
    obtain ⟨rfl, h2⟩ := vint_inj a b _ _ h
    obtain ⟨rfl, h3⟩ := vints_inj l m x y (by simpa using hl) h2
    exact ⟨rfl, h3⟩
def print (t : Term) : List UInt8 := [t.kind, t.rounds, t.key.length, t.text.length, t.list.length].flatMap vint ++ t.list.flatMap vint ++ (t.key ++ t.text ++ t.mask)
theorem print_inj {s t : Term} (h : print s = print t) : s = t := by
  obtain ⟨k, a, b, r, l, m⟩ := s
  obtain ⟨k', a', b', r', l', m'⟩ := t
  simp only [print, List.append_assoc] at h
  obtain ⟨h1, h2⟩ := vints_inj [k, r, a.length, b.length, l.length] [k', r', a'.length, b'.length, l'.length] _ _ rfl h
  simp only [List.cons.injEq, and_true] at h1
  obtain ⟨rfl, rfl, h3, h4, h5⟩ := h1
  obtain ⟨rfl, h6⟩ := vints_inj l l' _ _ h5 h2
  obtain ⟨rfl, h7⟩ := List.append_inj h6 h3
  obtain ⟨rfl, rfl⟩ := List.append_inj h7 h4
  rfl

/-! ### handles -/
def front : List UInt8 := [0xf1, 84, 82, 77] ++ List.replicate 24 0
theorem front_len : front.length = 28 := rfl
def be4 (n : Nat) : List UInt8 := [UInt8.ofNat (n / 16777216), UInt8.ofNat (n / 65536), UInt8.ofNat (n / 256), UInt8.ofNat n]
def handle (n : Nat) : List UInt8 := front ++ be4 n
theorem handle_len (n : Nat) : (handle n).length = 32 := rfl
def num : List UInt8 → Nat := List.foldl (fun n b => n * 256 + b.toNat) 0
theorem num_be4 {n : Nat} (h : n < 4294967296) : num (be4 n) = n := by
  simp only [num, be4, List.foldl, UInt8.toNat_ofNat']
  omega
/-! ### boxes -/
open Classical in
/-- Where a term stands. -/
noncomputable def place (t : Term) : List Term → Option Nat
  | [] => none
  | x :: r => if x = t then some 0 else (place t r).map (· + 1)
theorem place_some {t : Term} : ∀ {L : List Term} {i : Nat}, place t L = some i → L[i]? = some t
  | x :: r, i, h => by
    simp only [place] at h
    split at h
    · rename_i q; obtain rfl := Option.some.inj h; simp [q]
    · obtain ⟨j, hj, rfl⟩ := Option.map_eq_some_iff.1 h
      simpa using place_some hj
theorem place_none {t : Term} : ∀ {L : List Term}, place t L = none → t ∉ L
  | [], _ => List.not_mem_nil
  | x :: r, h => by
    simp only [place] at h
    split at h
    · cases h
    · rename_i q
      have h' : place t r = none := by simpa using h
      intro hm
      rcases List.mem_cons.1 hm with rfl | hm
      · exact q rfl
      · exact place_none h' hm
structure Box where
  sym : Bool
  full : Bool
  L : List Term
def noughts : List UInt8 := List.replicate 32 0
open Classical in
/-- A term's handle; the box behind it. -/
noncomputable def Box.tag (b : Box) (t : Term) : List UInt8 × Box := match place t b.L with
  | some i => (handle (i + 1), b)
  | none => if 4096 ≤ b.L.length then (noughts, { b with full := true }) else (handle (b.L.length + 1), { b with L := b.L ++ [t] })

/-! ### tags turned -/
def xorB (a b : List UInt8) : List UInt8 := List.zipWith (· ^^^ ·) a b
/-- A tag as numbers and a mask. -/
def Box.opens (b : Box) (tag : List UInt8) : Option (List Nat × List UInt8) :=
  if tag.length = 32 then
    if b.sym = true ∧ tag.take 28 = front then
      if num (tag.drop 28) < 1 ∨ b.L.length < num (tag.drop 28) then none
      else match b.L[num (tag.drop 28) - 1]? with
        | some t => if t.kind = 4 then some (t.list, t.mask) else some ([num (tag.drop 28)], noughts)
        | none => none
    else some ([], tag)
  else none
theorem opens_raw {b : Box} {tag : List UInt8} (h : tag.length = 32) (hn : ¬ (b.sym = true ∧ tag.take 28 = front)) : b.opens tag = some ([], tag) := by unfold Box.opens; rw [if_pos h, if_neg hn]
theorem opens_in {b : Box} {tag : List UInt8} {n : Nat} {t : Term} (h : tag.length = 32) (hs : b.sym = true) (hf : tag.take 28 = front) (hn : num (tag.drop 28) = n) (ho : ¬ (n < 1 ∨ b.L.length < n)) (ht : b.L[n - 1]? = some t) :
    b.opens tag = if t.kind = 4 then some (t.list, t.mask) else some ([n], noughts) := by
  subst hn; unfold Box.opens; rw [if_pos h, if_pos ⟨hs, hf⟩, if_neg ho, ht]
end Go.Proofs.YthkjfepbmnabkaaGreatDoor.Bx

/- Handles: how they begin, what they are. -/
namespace Go.Proofs.YthkjfepbmnabkaaGreatDoor.Sx
open Go
attribute [local irreducible] Calls

theorem mark_c (w : World) : Con Tryz.prog n_box_mark #[] w [] fun v Fs => ∃ b, v = .slice (some ⟨b, 0, none⟩) 28 28 ∧ Fs = [browF ty_uint8 (some ⟨b, 0, none⟩) Bx.front 28] := by
  have g := good_box_mark w (Un [])
  refine con_of_sx (cx := cx_box_mark w (Un [])) g b_box_mark rfl rfl (β := Va.z) [] 0 [] [] rfl rfl (Sat.start rfl) ?_
  refine ⟨28, 28, rfl, rfl, Nat.le_refl _, by decide, by decide, ?_⟩
  intro b
  intro b2
  refine ⟨_, _, .c (.v (.int .i64 4)), fun β w' ty hs => hs.copyRow g 1 rfl (row_rd (hs.get 0 rfl)) (bytes_one [241, 84, 82, 77]) ty _ rfl, trivial, ?_⟩
  intro β w' hs
  exact hs.fin [1] ⟨b, rfl, rfl⟩

theorem wrap_u8b (x : Nat) : IntKind.u8.wrap (x : Int) = ((UInt8.ofNat x).toNat : Int) := by
  rw [wrap_u8, UInt8.toNat_ofNat']
  omega
theorem shr_nat (n k : Nat) : (n : Int).fdiv (2 ^ k) = ((n / 2 ^ k : Nat) : Int) := by
  have : (2 ^ k : Int) = ((2 ^ k : Nat) : Int) := by push_cast; rfl
  rw [this, Int.fdiv_eq_ediv_of_nonneg _ (Int.natCast_nonneg _)]
  exact (Int.natCast_ediv _ _).symm
theorem handle_c (w : World) (n : Nat) : Con Tryz.prog n_box_Handle #[.int .i64 n] w [] fun v Fs => ∃ A c, v = .slice A 32 c ∧ 32 ≤ c ∧ c ≤ maxLen ∧ Fs = [browF ty_uint8 A (Bx.handle n) c] := by
  have g := good_box_Handle w (Un [])
  refine con_of_sx (cx := cx_box_Handle w (Un [])) g b_box_Handle rfl rfl (β := Va.z) [.c (.v (.int .i64 n))] 0 [] [] rfl rfl (Sat.start rfl) ?_
  refine call_con [] (fun β w' hs => mark_c w') ?_
  rintro v Fs ⟨b, rfl, rfl⟩
  refine ⟨by decide, _, shr_nat n 24, _, wrap_u8b _, by decide, _, shr_nat n 16, _, wrap_u8b _, by decide, _, shr_nat n 8, _, wrap_u8b _, _, wrap_u8b _, ?_⟩
  intro b2
  refine ⟨1, 28, 32, _, (Bx.be4 n).map byte, (Bx.handle n).map byte, rfl, fun β w' hs => row_rd (hs.get 0 rfl), bytes_one (Bx.be4 n), rfl, by rw [Bx.handle, List.map_append], by decide, by decide, ?_⟩
  intro A c h1 h2 h3
  intro β w' hs
  exact hs.fin [1] ⟨A, c, rfl, h1, h2, rfl⟩
end Go.Proofs.YthkjfepbmnabkaaGreatDoor.Sx

/- Bytes as digits. -/
namespace Go.Proofs.YthkjfepbmnabkaaGreatDoor.Sx
open Go
attribute [local irreducible] Calls

def dgs : List UInt8 := [48, 49, 50, 51, 52, 53, 54, 55, 56, 57, 97, 98, 99, 100, 101, 102]
def hex2 (x : UInt8) : List UInt8 := [dgs.getD (x.toNat / 16) 0, dgs.getD (x.toNat % 16) 0]
def hexB (l : List UInt8) : List UInt8 := l.flatMap hex2
theorem hexB_len (l : List UInt8) : (hexB l).length = 2 * l.length := by
  induction l with
  | nil => rfl
  | cons x r ih => simp only [hexB, List.flatMap_cons, List.length_append, List.length_cons] at ih ⊢; rw [ih]; simp [hex2]; omega
theorem hexB_snoc (l : List UInt8) (x : UInt8) : hexB (l ++ [x]) = hexB l ++ [dgs.getD (x.toNat / 16) 0] ++ [dgs.getD (x.toNat % 16) 0] := by simp [hexB, hex2]
theorem dgs_at {k : Nat} (h : k < 16) : dgs[k]? = some (dgs.getD k 0) := by
  have hk : k < dgs.length := h
  simp [hk]
theorem and15 (x : UInt8) : bits .and .u8 (x.toNat : Int) 15 = ((x.toNat % 16 : Nat) : Int) := by
  show IntKind.u8.wrap (((BitVec.ofInt 8 (x.toNat : Int)) &&& (BitVec.ofInt 8 15)).toNat : Int) = _
  have h1 : BitVec.ofInt 8 (x.toNat : Int) = x.toBitVec := by
    apply BitVec.eq_of_toNat_eq
    rw [BitVec.toNat_ofInt]
    have := x.toNat_lt
    have e : x.toBitVec.toNat = x.toNat := rfl
    rw [e]
    omega
  have h2 : (BitVec.ofInt 8 15).toNat = 2 ^ 4 - 1 := by decide
  rw [h1, BitVec.toNat_and, h2, Nat.and_two_pow_sub_one_eq_mod, wrap_u8]
  have e : x.toBitVec.toNat = x.toNat := rfl
  rw [e]
  omega

structure HxS where
  k : Nat
  p : Value
  A : Option Addr
  c : Nat
theorem hex_c (w : World) (A : Option Addr) (l : List UInt8) (c : Nat) (hr : Bs w A l) (hne : l ≠ []) (hn : l.length ≤ 1000000) : Pu Tryz.prog n_b64_Hex #[.slice A l.length c] w (.string ⟨(hexB l).toArray⟩) := by
  have g := good_b64_Hex w (Un [])
  have hl0 : 0 < l.length := List.length_pos_iff.2 hne
  refine con_of_sx (cx := cx_b64_Hex w (Un [])) g b_b64_Hex rfl rfl (β := Va.z) [.c (.v (.slice A l.length c))] 0 [] [bsF A l] rfl rfl ((Sat.start rfl).rd (fun _ h => by cases h) hr) ?_
  refine reify_rule g 0 (fun _ => [.pointer none, .slice none 0 0]) rfl rfl (fun _ => rfl) (fun b => ?_)
  refine loop_rule 1 (fun i : HxS => [(6, .c (.v (.slice A l.length c))), (7, .c (.v (.int .i64 l.length))), (8, .c (.v (.int .i64 i.k))), (3, .c (.v (selfV b)))]) (fun _ => []) (fun i => bldF b i.p i.A (hexB (l.take i.k)) i.c ++ [bsF A l])
    (fun i => i.k ≤ l.length ∧ (i.p = .pointer none ∨ i.p = selfV b)) (fun i => l.length - i.k) ⟨0, .pointer none, none, 0⟩ ⟨Nat.zero_le _, .inl rfl⟩ (Ent.mk' ⟨rfl, rfl, rfl, rfl, trivial⟩ rfl ?_) g ?_
  · intro β w' hs
    exact (hs.nilRow ty_uint8 1).perm [1, 0, 2]
  rintro ⟨k, p, A1, c1⟩ ⟨hk, hp⟩
  simp only at hk hp
  have hx0 := hexB_len (l.take k)
  have htl : (l.take k).length ≤ l.length := by simp; omega
  refine BIf.dec (fun hlt => ?_) (fun hge => ?_)
  · have hlt0 : (k : Int) < l.length := hlt
    have hlt : k < l.length := by omega
    obtain ⟨ad, hA⟩ := Bs.addr hr (by omega)
    have hb := l[k].toNat_lt
    refine ⟨ad, k, hA, rfl, hlt, byte l[k], fun β w hs => Bs.cell (hs.get 2 rfl) hA hlt, ?_⟩
    refine ⟨by decide, ((l[k].toNat / 16 : Nat) : Int), shr_nat _ 4, ?_⟩
    refine ⟨l[k].toNat / 16, _, rfl, dgs_at (by omega), ?_⟩
    refine call_con [0, 1] (fun β w' hs => writeByte_c w' b p A1 (hexB (l.take k)) c1 _ hp (by omega) (hs.mem.take (js := [0, 1]) rfl)) ?_
    rintro v Fs ⟨rfl, A2, c2, rfl⟩
    refine ⟨_, and15 l[k], ?_⟩
    refine ⟨l[k].toNat % 16, _, rfl, dgs_at (by omega), ?_⟩
    refine call_con [0, 1] (fun β w' hs => writeByte_c w' b (selfV b) A2 _ c2 _ (.inr rfl) (by simp only [List.length_append, List.length_cons, List.length_nil]; omega) (hs.mem.take (js := [0, 1]) rfl)) ?_
    rintro v Fs ⟨rfl, A3, c3, rfl⟩
    refine ⟨((k + 1 : Nat) : Int), by rw [wrap_i64 (by omega) (by omega)]; rfl, ?_⟩
    refine ⟨⟨k + 1, selfV b, A3, c3⟩, ⟨hlt, .inr rfl⟩, by show l.length - (k + 1) < l.length - k; omega, ?_⟩
    have e : hexB (l.take (k + 1)) = hexB (l.take k) ++ [dgs.getD (l[k].toNat / 16) 0] ++ [dgs.getD (l[k].toNat % 16) 0] := by rw [take_snoc l k hlt, hexB_snoc]
    refine Ent.mk' ⟨rfl, rfl, rfl, rfl, trivial⟩ rfl ?_
    intro β w' hs
    show Sat _ _ _ _ (bldF b (selfV b) A3 (hexB (l.take (k + 1))) c3 ++ [bsF A l]) _
    rw [e]
    exact hs
  · have hge0 : ¬ (k : Int) < l.length := hge
    have hke : k = l.length := by omega
    subst hke
    have hn2 : hexB (l.take l.length) ≠ [] := by
      intro q
      have := congrArg List.length q
      rw [hx0] at this
      simp at this
      omega
    refine call_con [0, 1] (fun β w' hs => text_c w' b p A1 _ c1 hn2 (hs.mem.take (js := [0, 1]) rfl)) ?_
    rintro v Fs ⟨rfl, rfl⟩
    intro β w' hs
    refine hs.fin [] ⟨?_, rfl⟩
    rw [List.take_length]
    rfl
end Go.Proofs.YthkjfepbmnabkaaGreatDoor.Sx

/- The words' own functions. -/
namespace Go.Proofs.YthkjfepbmnabkaaGreatDoor.Sx
open Go Sha
attribute [local irreducible] Calls

theorem rotl_c (w : World) (x : UInt32) (n : Nat) (h1 : 1 ≤ n) (h2 : n < 32) : Pu Tryz.prog n_math_bits_RotateLeft32 #[u32 x, .int .i64 (-(n : Int))] w (u32 (rotr x n)) := by
  refine pu_of (calls_of_sx (cx := cx_math_bits_RotateLeft32 w None_) (good_math_bits_RotateLeft32 w None_) b_math_bits_RotateLeft32 rfl rfl (β := Va.z) [.c (.v (u32 x)), .c (.v (.int .i64 (-(n : Int))))] 0 [] [] rfl rfl (Sat.start rfl) ?_)
  refine ⟨_, rfl, ?_⟩
  refine ⟨((32 - n : Nat) : Int), ?_, ?_⟩
  · have : ∀ n : _root_.Fin 32, 1 ≤ n.val → bits .and .u64 (IntKind.u64.wrap (-(n.val : Int))) 31 = ((32 - n.val : Nat) : Int) := by decide
    exact this ⟨n, h2⟩ h1
  refine ⟨by omega, _, shl32 x (32 - n) (by omega), ?_⟩
  refine ⟨(n : Int), by show IntKind.u64.wrap _ = _; simp only [IntKind.wrap, IntKind.bits, IntKind.signed]; simp; omega, ?_⟩
  refine ⟨by omega, _, shr32 x n h2, ?_⟩
  refine ⟨_, or32 _ _, ?_⟩
  intro β w' hs
  refine ⟨?_, hs.chg⟩
  rw [← rotl_eq]
  rfl
theorem turn_c (w : World) (x : UInt32) (n : Nat) (h1 : 1 ≤ n) (h2 : n < 32) : Pu Tryz.prog n_ostiaryref01_turn #[u32 x, .int .u64 (n : Int)] w (u32 (rotr x n)) := by
  refine pu_of (calls_of_sx (cx := cx_ostiaryref01_turn w None_) (good_ostiaryref01_turn w None_) b_ostiaryref01_turn rfl rfl (β := Va.z) [.c (.v (u32 x)), .c (.v (.int .u64 (n : Int)))] 0 [] [] rfl rfl (Sat.start rfl) ?_)
  refine ⟨by omega, _, shr32 x n h2, ?_⟩
  refine ⟨((32 - n : Nat) : Int), by show IntKind.u64.wrap _ = _; simp only [IntKind.wrap, IntKind.bits, IntKind.signed]; simp; omega, ?_⟩
  refine ⟨by omega, _, shl32 x (32 - n) (by omega), ?_⟩
  refine ⟨_, or32 _ _, ?_⟩
  intro β w' hs
  exact ⟨rfl, hs.chg⟩
theorem or_add {x y k : Nat} (h : y < 2 ^ k) : 2 ^ k * x ||| y = 2 ^ k * x + y := (Nat.two_pow_add_eq_or_of_lt h x).symm
theorem word_or (a b c d : UInt8) : ((UInt32.ofNat a.toNat <<< UInt32.ofNat 24 ||| UInt32.ofNat b.toNat <<< UInt32.ofNat 16) ||| UInt32.ofNat c.toNat <<< UInt32.ofNat 8) ||| UInt32.ofNat d.toNat = word a b c d := by
  apply UInt32.toNat_inj.1
  have h1 := a.toNat_lt
  have h2 := b.toNat_lt
  have h3 := c.toNat_lt
  have h4 := d.toNat_lt
  have sh : ∀ (x : UInt8) (n : Nat), n ≤ 24 → (UInt32.ofNat x.toNat <<< UInt32.ofNat n).toNat = 2 ^ n * x.toNat := by
    intro x n hn
    have hx := x.toNat_lt
    rw [UInt32.toNat_shiftLeft, UInt32.toNat_ofNat', UInt32.toNat_ofNat', Nat.mod_eq_of_lt (show n < 2 ^ 32 by omega), Nat.mod_eq_of_lt (show n < 32 by omega), Nat.shiftLeft_eq, Nat.mod_eq_of_lt (show x.toNat < 2 ^ 32 by omega), Nat.mul_comm]
    refine Nat.mod_eq_of_lt ?_
    have : 2 ^ n ≤ 2 ^ 24 := Nat.pow_le_pow_right (by omega) hn
    calc 2 ^ n * x.toNat ≤ 2 ^ 24 * x.toNat := Nat.mul_le_mul_right _ this
      _ < 2 ^ 32 := by omega
  unfold word
  simp only [UInt32.toNat_or, sh a 24 (by omega), sh b 16 (by omega), sh c 8 (by omega), UInt32.toNat_ofNat']
  rw [Nat.mod_eq_of_lt (show d.toNat < 2 ^ 32 by omega)]
  rw [or_add (show 2 ^ 16 * b.toNat < 2 ^ 24 by omega)]
  rw [show 2 ^ 24 * a.toNat + 2 ^ 16 * b.toNat = 2 ^ 16 * (256 * a.toNat + b.toNat) by omega, or_add (show 2 ^ 8 * c.toNat < 2 ^ 16 by omega)]
  rw [show 2 ^ 16 * (256 * a.toNat + b.toNat) + 2 ^ 8 * c.toNat = 2 ^ 8 * (256 * (256 * a.toNat + b.toNat) + c.toNat) by omega, or_add (show d.toNat < 2 ^ 8 by omega)]
  omega
theorem word_c (w : World) (A : Option Addr) (l : List UInt8) (c : Nat) (hr : Bs w A l) (x y z u : UInt8) (h0 : l[0]? = some x) (h1 : l[1]? = some y) (h2 : l[2]? = some z) (h3 : l[3]? = some u) :
    Pu Tryz.prog n_sha_word #[.slice A l.length c] w (u32 (word x y z u)) := by
  obtain ⟨k0, e0⟩ := List.getElem?_eq_some_iff.1 h0
  obtain ⟨k1, e1⟩ := List.getElem?_eq_some_iff.1 h1
  obtain ⟨k2, e2⟩ := List.getElem?_eq_some_iff.1 h2
  obtain ⟨k3, e3⟩ := List.getElem?_eq_some_iff.1 h3
  have g := good_sha_word w None_
  obtain ⟨ad, hA⟩ := Bs.addr hr (by omega)
  have cv : ∀ b : UInt8, IntKind.u32.wrap (b.toNat : Int) = ((UInt32.ofNat b.toNat).toNat : Int) := fun b => wrap32_nat _
  refine pu_of (calls_of_sx (cx := cx_sha_word w None_) g b_sha_word rfl rfl (β := Va.z) [.c (.v (.slice A l.length c))] 0 [] [bsF A l] rfl rfl ((Sat.start rfl).rd (fun _ h => by cases h) hr) ?_)
  refine draw_rule g p_sha_word_1 (by kernel_rfl) _ _ Sub.refl ?_
  refine ⟨ad, 0, hA, rfl, k0, byte x, fun β w hs => by rw [← e0]; exact Bs.cell (hs.get 0 rfl : Bs w A _) hA (j := 0) k0, ?_⟩
  refine ⟨_, cv x, by omega, _, shl32 (UInt32.ofNat x.toNat) 24 (by omega), ?_⟩
  refine ⟨ad, 1, hA, rfl, k1, byte y, fun β w hs => by rw [← e1]; exact Bs.cell (hs.get 0 rfl : Bs w A _) hA (j := 1) k1, ?_⟩
  refine ⟨_, cv y, by omega, _, shl32 (UInt32.ofNat y.toNat) 16 (by omega), ?_⟩
  refine ⟨_, or32 _ _, ?_⟩
  refine ⟨ad, 2, hA, rfl, k2, byte z, fun β w hs => by rw [← e2]; exact Bs.cell (hs.get 0 rfl : Bs w A _) hA (j := 2) k2, ?_⟩
  refine ⟨_, cv z, by omega, _, shl32 (UInt32.ofNat z.toNat) 8 (by omega), ?_⟩
  refine ⟨_, or32 _ _, ?_⟩
  refine ⟨ad, 3, hA, rfl, k3, byte u, fun β w hs => by rw [← e3]; exact Bs.cell (hs.get 0 rfl : Bs w A _) hA (j := 3) k3, ?_⟩
  refine ⟨_, cv u, _, or32 _ _, ?_⟩
  intro β w' hs
  refine ⟨?_, hs.chg⟩
  rw [← word_or]
  rfl
end Go.Proofs.YthkjfepbmnabkaaGreatDoor.Sx

/- A block's words. -/
namespace Go.Proofs.YthkjfepbmnabkaaGreatDoor.Sx
open Go Sha
attribute [local irreducible] Calls

def sl32 (x : UInt32) : SL := .v (u32 x)
def arr (n : Nat) (ws : List UInt32) : List SL := (ws ++ List.replicate (n - ws.length) 0).map sl32
theorem arr_len {n : Nat} {ws : List UInt32} (h : ws.length ≤ n) : (arr n ws).length = n := by simp [arr]; omega
theorem arr_get {n : Nat} {ws : List UInt32} {i : Nat} (h : i < ws.length) : (arr n ws)[i]? = some (sl32 (ws.getD i 0)) := by
  simp only [arr, List.getElem?_map]
  rw [List.getElem?_append_left h, List.getElem?_eq_getElem h]
  simp [List.getD, List.getElem?_eq_getElem h]
theorem arr_set {n : Nat} {ws : List UInt32} (h : ws.length < n) (x : UInt32) : (arr n ws).set ws.length (sl32 x) = arr n (ws ++ [x]) := by
  obtain ⟨k, rfl⟩ : ∃ k, n = ws.length + (k + 1) := ⟨n - ws.length - 1, by omega⟩
  simp only [arr, List.length_append, List.length_cons, List.length_nil]
  rw [show ws.length + (k + 1) - ws.length = k + 1 by omega, show ws.length + (k + 1) - (ws.length + (0 + 1)) = k by omega, List.replicate_succ]
  simp
theorem arr_full {n : Nat} {ws : List UInt32} (h : ws.length = n) : arr n ws = ws.map sl32 := by simp [arr, h]
theorem arr_one (ws : List UInt32) : allOne (ws.map sl32) = true := allOne_of fun x hx => by obtain ⟨y, _, rfl⟩ := List.mem_map.1 hx; rfl
theorem arr_val (β : Va) (ws : List UInt32) : (ws.map sl32).map (SL.val β) = ws.map u32 := by rw [List.map_map]; rfl
theorem getD_drop (l : List UInt8) (i j : Nat) (h : i + j < l.length) : (l.drop i)[j]? = some (l.getD (i + j) 0) := by
  rw [List.getElem?_drop, List.getElem?_eq_getElem h]
  simp [List.getD, List.getElem?_eq_getElem h]

theorem spread_c (w : World) (A : Option Addr) (l : List UInt8) (c : Nat) (hr : Bs w A l) (hc : l.length ≤ c) (hl : 64 ≤ l.length) (hm : c ≤ maxLen) :
    Pu Tryz.prog n_sha_spread #[.slice A l.length c] w (.agg ((W l).map u32).toArray) := by
  obtain ⟨ws, hws⟩ : ∃ ws, W l = ws := ⟨_, rfl⟩
  have hwl : ws.length = 64 := by rw [← hws]; exact W_len l
  rw [hws]
  have g := good_sha_spread w None_
  refine pu_of (calls_of_sx (cx := cx_sha_spread w None_) g b_sha_spread rfl rfl (β := Va.z) [.c (.v (.slice A l.length c))] 0 [] [bsF A l] rfl rfl ((Sat.start rfl).rd (fun _ h => by cases h) hr) ?_)
  have e0 : arr 64 [] = ti251.zero.map SL.v := by simp only [arr, List.nil_append, List.length_nil, List.map_replicate]; rfl
  refine loop_rule (ι := Nat) 2 (fun i => [(0, .c (.v (.slice A l.length c))), (2, .c (.p 0 0)), (3, .c (.p 1 0)), (10, .c (.v (.int .i64 i)))]) (fun i => [⟨1, 251, arr 64 (sched l i)⟩, ⟨0, 251, arr 64 []⟩]) (fun _ => [bsF A l])
    (fun i => i ≤ 16) (fun i => 16 - i) 0 (Nat.zero_le _) (Ent.mk' ⟨rfl, rfl, rfl, rfl, trivial⟩ rfl (fun β w' hs => by rw [show sched l 0 = [] from rfl, e0]; exact hs)) g ?_
  intro i hi
  refine BIf.dec (fun hlt => ?_) (fun hge => ?_)
  · have hlt : i < 16 := by omega
    rw [maxLen_eq] at hm
    refine ⟨((4 * i : Nat) : Int), by rw [wrap_i64 (by omega) (by omega)]; omega, ?_⟩
    refine ⟨c, l.length, 4 * i, (l.drop (4 * i)).length, c - 4 * i, _, rfl, rfl, rfl, Nat.le_refl _, hc, by omega, by rw [List.length_drop], rfl, rfl, ?_⟩
    refine call_pu (fun β w' hs => word_c w' _ (l.drop (4 * i)) _ (Bs.cutB (hs.get 0 rfl : Bs w' A l) (j := l.length) hc (by omega) (Nat.le_refl _) (by rw [List.take_of_length_le (by simp)])) _ _ _ _
      (getD_drop l (4 * i) 0 (by omega)) (getD_drop l (4 * i) 1 (by omega)) (getD_drop l (4 * i) 2 (by omega)) (getD_drop l (4 * i) 3 (by omega))) ?_
    refine ⟨i, rfl, by omega, ?_⟩
    have hsl : (sched l i).length = i := sched_len l i
    refine m_true (b := Nat.ble (0 + i * 1 + 1) (arr 64 (sched l i)).length) (by rw [arr_len (by omega), Nat.ble_eq]; omega) ?_
    refine ⟨((i + 1 : Nat) : Int), by rw [wrap_i64 (by omega) (by omega)]; rfl, ?_⟩
    refine ⟨i + 1, by omega, by omega, Ent.mk' ⟨rfl, rfl, rfl, rfl, trivial⟩ rfl (fun β w' hs => ?_)⟩
    have e1 : putAll (arr 64 (sched l i)) (0 + i * 1) [sl32 (wordAt l i)] = arr 64 (sched l (i + 1)) := by
      rw [putAll, putAll, putAt_eq, Nat.zero_add, Nat.mul_one]
      have := arr_set (n := 64) (ws := sched l i) (by omega) (wordAt l i)
      rw [hsl] at this
      rw [this, sched, if_pos hlt]
    rw [← e1]
    exact hs
  · obtain rfl : i = 16 := by omega
    rw [maxLen_eq] at hm
    refine loop_rule (ι := Nat) 2 (fun i => [(0, .c (.v (.slice A l.length c))), (2, .c (.p 0 0)), (3, .c (.p 1 0)), (5, .c (.v (.int .i64 i)))]) (fun i => [⟨1, 251, arr 64 (sched l i)⟩, ⟨0, 251, arr 64 []⟩]) (fun _ => [bsF A l])
      (fun i => 16 ≤ i ∧ i ≤ 64) (fun i => 64 - i) 16 ⟨by omega, by omega⟩ (Ent.same ⟨rfl, rfl, rfl, rfl, trivial⟩ rfl) g ?_
    rintro i ⟨hi1, hi2⟩
    refine BIf.dec (fun hlt => ?_) (fun hge => ?_)
    · have hlt : i < 64 := by omega
      have hsl : (sched l i).length = i := sched_len l i
      have ld : ∀ {k : Nat}, k < i → nth (arr 64 (sched l i)) (0 + k * 1) = some (sl32 ((sched l i).getD k 0)) := fun {k} hk => by
        rw [nth_eq, Nat.zero_add, Nat.mul_one]; exact arr_get (by omega)
      refine draw_rule g p_sha_spread_10 (by kernel_rfl) _ _ Sub.refl ?_
      refine ⟨((i - 15 : Nat) : Int), by rw [wrap_i64 (by omega) (by omega)]; omega, i - 15, rfl, by omega, ?_⟩
      conv => whnf
      generalize hn : nth _ _ = o
      obtain rfl : o = some (sl32 ((sched l i).getD (i - 15) 0)) := hn.symm.trans (ld (by omega))
      clear hn
      refine ⟨((i - 2 : Nat) : Int), by rw [wrap_i64 (by omega) (by omega)]; omega, i - 2, rfl, by omega, ?_⟩
      conv => whnf
      generalize hn : nth _ _ = o
      obtain rfl : o = some (sl32 ((sched l i).getD (i - 2) 0)) := hn.symm.trans (ld (by omega))
      clear hn
      obtain ⟨xa, hxa⟩ : ∃ xa, (sched l i).getD (i - 15) 0 = xa := ⟨_, rfl⟩
      obtain ⟨xb, hxb⟩ : ∃ xb, (sched l i).getD (i - 2) 0 = xb := ⟨_, rfl⟩
      rw [hxa, hxb]
      refine call_pu (fun β w' hs => rotl_c w' xa 7 (by omega) (by omega)) ?_
      refine call_pu (fun β w' hs => rotl_c w' xa 18 (by omega) (by omega)) ?_
      refine ⟨_, xor32 _ _, by omega, _, shr32 xa 3 (by omega), _, xor32 _ _, ?_⟩
      refine call_pu (fun β w' hs => rotl_c w' xb 17 (by omega) (by omega)) ?_
      refine call_pu (fun β w' hs => rotl_c w' xb 19 (by omega) (by omega)) ?_
      refine ⟨_, xor32 _ _, by omega, _, shr32 xb 10 (by omega), _, xor32 _ _, ?_⟩
      refine draw_rule g p_sha_spread_13 (by kernel_rfl) _ _ Sub.refl ?_
      refine ⟨((i - 16 : Nat) : Int), by rw [wrap_i64 (by omega) (by omega)]; omega, i - 16, rfl, by omega, ?_⟩
      conv => whnf
      generalize hn : nth _ _ = o
      obtain rfl : o = some (sl32 ((sched l i).getD (i - 16) 0)) := hn.symm.trans (ld (by omega))
      clear hn
      refine ⟨_, add32 _ _, ?_⟩
      refine ⟨((i - 7 : Nat) : Int), by rw [wrap_i64 (by omega) (by omega)]; omega, i - 7, rfl, by omega, ?_⟩
      conv => whnf
      generalize hn : nth _ _ = o
      obtain rfl : o = some (sl32 ((sched l i).getD (i - 7) 0)) := hn.symm.trans (ld (by omega))
      clear hn
      refine ⟨_, add32 _ _, _, add32 _ _, i, rfl, by omega, ?_⟩
      refine m_true (b := Nat.ble (0 + i * 1 + 1) (arr 64 (sched l i)).length) (by rw [arr_len (by omega), Nat.ble_eq]; omega) ?_
      refine ⟨((i + 1 : Nat) : Int), by rw [wrap_i64 (by omega) (by omega)]; rfl, ?_⟩
      refine ⟨i + 1, ⟨by omega, by omega⟩, by omega, Ent.mk' ⟨rfl, rfl, rfl, rfl, trivial⟩ rfl (fun β w' hs => ?_)⟩
      have e1 : putAll (arr 64 (sched l i)) (0 + i * 1) [sl32 ((sched l i).getD (i - 16) 0 + s0 xa + (sched l i).getD (i - 7) 0 + s1 xb)] = arr 64 (sched l (i + 1)) := by
        rw [putAll, putAll, putAt_eq, Nat.zero_add, Nat.mul_one]
        have := arr_set (n := 64) (ws := sched l i) (by omega) ((sched l i).getD (i - 16) 0 + s0 xa + (sched l i).getD (i - 7) 0 + s1 xb)
        rw [hsl] at this
        rw [this, sched, if_neg (by omega), nxt, hxa, hxb]
      rw [← e1]
      exact hs
    · have hi64 : i = 64 := by omega
      have e2 : arr 64 (sched l i) = ws.map sl32 := by
        rw [← hws, hi64]
        exact arr_full (sched_len l 64)
      clear hi64 hi1 hi2 hge
      rw [e2]
      conv => whnf
      generalize hn : takeAt _ _ _ = o
      obtain rfl : o = some (ws.map sl32) := hn.symm.trans (takeAt_all (by rw [List.length_map, hwl]; rfl))
      clear hn
      conv => whnf
      generalize h1 : Nat.beq _ _ = b1
      generalize h2 : allOne _ = b2
      obtain rfl : b1 = true := h1.symm.trans (by rw [List.length_map, hwl]; rfl)
      obtain rfl : b2 = true := h2.symm.trans (arr_one ws)
      clear h1 h2
      conv => whnf
      generalize h1 : Nat.ble _ _ = b1
      obtain rfl : b1 = true := h1.symm.trans (by rw [List.length_map, hwl]; rfl)
      clear h1
      conv => whnf
      generalize hn : resOf _ _ _ _ = o
      obtain rfl : o = some [.agg (ws.map sl32)] := hn.symm.trans (by
        have hp : putAll (arr 64 []) 0 (ws.map sl32) = ws.map sl32 := putAll_full (by rw [List.length_map, hwl]; rfl)
        show (match takeAt (putAll (arr 64 []) 0 (ws.map sl32)) 0 64 with | some xs => some [SV.agg xs] | none => none) = _
        rw [hp, takeAt_all (by rw [List.length_map, hwl])])
      clear hn
      intro β w' hs
      refine ⟨?_, hs.chg⟩
      show Value.agg ((ws.map sl32).map (SL.val β)).toArray = _
      rw [arr_val]
end Go.Proofs.YthkjfepbmnabkaaGreatDoor.Sx

/- A block's step. -/
namespace Go.Proofs.YthkjfepbmnabkaaGreatDoor.Sx
open Go Sha
attribute [local irreducible] Calls

/-- The table of the rounds' words. -/
def oddF (g : Nat) : Fact := rdF 1 (some ⟨g, 0, none⟩) 64 (K.map u32)
/-- A state's block. -/
def stF (b ty : Nat) (s : S8) : Fact := bkF b ty (s.l.map u32)

theorem rounds_succ (s : S8) (w : List UInt32) (n : Nat) : rounds s w (n + 1) = (rounds s w n).round (K.getD n 0) (w.getD n 0) := rfl
theorem K_len : K.length = 64 := rfl
theorem odd_cell {g : Nat} {w : World} (h : (oddF g).p w) {i : Nat} (hi : i < 64) : w.cell? ((⟨g, 0, none⟩ : Addr).add (i * 1)) = some (u32 (K.getD i 0)) := by
  obtain ⟨_, h2⟩ := h
  obtain ⟨ad, q, hc⟩ := h2 (by omega)
  obtain rfl := Option.some.inj q
  rw [Nat.mul_one]
  refine hc i _ ?_
  rw [List.getElem?_map, List.getElem?_eq_getElem (by rw [K_len]; exact hi)]
  simp [List.getD, List.getElem?_eq_getElem (show i < K.length by rw [K_len]; exact hi)]

def mix (s t : S8) (i : Nat) : List SL := ((s.add t).l.take i ++ s.l.drop i).map sl32
theorem mix_len (s t : S8) : ∀ i, i < 9 → (mix s t i).length = 8
  | 0, _ => rfl | 1, _ => rfl | 2, _ => rfl | 3, _ => rfl | 4, _ => rfl | 5, _ => rfl | 6, _ => rfl | 7, _ => rfl | 8, _ => rfl
  | n + 9, h => by omega
theorem mix_get (s t : S8) : ∀ i, i < 8 → nth (mix s t i) i = some (sl32 (s.l.getD i 0))
  | 0, _ => rfl | 1, _ => rfl | 2, _ => rfl | 3, _ => rfl | 4, _ => rfl | 5, _ => rfl | 6, _ => rfl | 7, _ => rfl
  | n + 8, h => by omega
theorem mix_set (s t : S8) : ∀ i, i < 8 → putAll (mix s t i) i [sl32 (s.l.getD i 0 + t.l.getD i 0)] = mix s t (i + 1)
  | 0, _ => rfl | 1, _ => rfl | 2, _ => rfl | 3, _ => rfl | 4, _ => rfl | 5, _ => rfl | 6, _ => rfl | 7, _ => rfl
  | n + 8, h => by omega
theorem l_get (t : S8) : ∀ i, i < 8 → (t.l.map sl32)[i]? = some (sl32 (t.l.getD i 0))
  | 0, _ => rfl | 1, _ => rfl | 2, _ => rfl | 3, _ => rfl | 4, _ => rfl | 5, _ => rfl | 6, _ => rfl | 7, _ => rfl
  | n + 8, h => by omega
theorem step_c (w : World) (b ty : Nat) (s : S8) (A : Option Addr) (l : List UInt8) (c : Nat) (hm : Mem w [stF b ty s, bsF A l, oddF 2]) (hc : l.length ≤ c) (hl : 64 ≤ l.length) (hcm : c ≤ maxLen) :
    Con Tryz.prog n_sha_state_step #[.pointer (some ⟨b, 0, none⟩), .slice A l.length c] w [stF b ty s] fun v Fs => v = .tuple #[] ∧ Fs = [stF b ty (Sha.step s l)] := by
  obtain ⟨ws, hws⟩ : ∃ ws, W l = ws := ⟨_, rfl⟩
  have hwl : ws.length = 64 := by rw [← hws]; exact W_len l
  have g := good_sha_state_step w (Un [stF b ty s]) (bs := [b])
  have hs0 : Sat (cx_sha_state_step w (Un [stF b ty s]) [b]) (Va.of fun _ => b) 1 [] [stF b ty s, bsF A l, oddF 2] w :=
    hm.sat rfl (ownIn (Gs := [stF b ty s]) (Rs := [bsF A l, oddF 2]) (fun g hg => by
      rcases List.mem_cons.1 hg with rfl | hg
      · rfl
      · obtain rfl := List.mem_singleton.1 hg; rfl)) ⟨Nat.le_refl _, fun i hi => by
        have hi1 : i < 1 := hi
        have hi0 : i = 0 := by omega
        rw [hi0]; rfl⟩
  have hs1 := hs0.toBk 0 rfl 0 Nat.zero_lt_one rfl
  refine con_of_sx (cx := cx_sha_state_step w (Un [stF b ty s]) [b]) g b_sha_state_step rfl rfl (β := Va.of fun _ => b) [.c (.p 0 0), .c (.v (.slice A l.length c))] 1 [⟨0, ty, s.l.map sl32⟩] [bsF A l, oddF 2] rfl rfl (by rw [List.map_map] at hs1; exact hs1) ?_
  refine call_pu (fun β w' hs => spread_c w' A l c (hs.get 0 rfl) hc hl hcm) ?_
  rw [hws]
  have ea : ofValue (.agg (ws.map u32).toArray) = .agg (ws.map sl32) := by simp only [ofValue, List.map_map]; rfl
  rw [ea]
  conv => whnf
  generalize h1 : Nat.beq _ _ = b1
  generalize h2 : allOne _ = b2
  obtain rfl : b1 = true := h1.symm.trans (by rw [List.length_map, hwl]; rfl)
  obtain rfl : b2 = true := h2.symm.trans (arr_one ws)
  clear h1 h2
  conv => whnf
  generalize h1 : Nat.ble _ _ = b1
  obtain rfl : b1 = true := h1.symm.trans (by rw [List.length_map, hwl]; rfl)
  clear h1
  refine draw_rule g p_sha_state_step_1 (by kernel_rfl) _ _ Sub.refl ?_
  refine ⟨0, rfl, by decide, ?_⟩
  refine ⟨1, rfl, by decide, ?_⟩
  refine ⟨2, rfl, by decide, ?_⟩
  refine ⟨3, rfl, by decide, ?_⟩
  refine ⟨4, rfl, by decide, ?_⟩
  refine ⟨5, rfl, by decide, ?_⟩
  refine ⟨6, rfl, by decide, ?_⟩
  refine ⟨7, rfl, by decide, ?_⟩
  have hp : putAll (ti251.zero.map SL.v) 0 (ws.map sl32) = ws.map sl32 := putAll_full (by rw [List.length_map, hwl]; rfl)
  refine loop_rule (ι := Nat) 2 (fun i => [(0, .c (.p 0 0)), (4, .c (.p 1 0)), (5, .c (sl32 (rounds s ws i).a)), (6, .c (sl32 (rounds s ws i).b)), (7, .c (sl32 (rounds s ws i).c)), (8, .c (sl32 (rounds s ws i).d)), (9, .c (sl32 (rounds s ws i).e)), (10, .c (sl32 (rounds s ws i).f)), (11, .c (sl32 (rounds s ws i).g)), (12, .c (sl32 (rounds s ws i).h)), (55, .c (.v (.int .i64 i)))])
    (fun _ => [⟨1, 251, ws.map sl32⟩, ⟨0, ty, s.l.map sl32⟩]) (fun _ => [bsF A l, oddF 2])
    (fun i => i ≤ 64) (fun i => 64 - i) 0 (Nat.zero_le _) (Ent.mk' ⟨rfl, rfl, rfl, rfl, rfl, rfl, rfl, rfl, rfl, rfl, rfl, trivial⟩ rfl (fun β w' hs => by rw [← hp]; exact hs)) g ?_
  intro i hi
  obtain ⟨r, hr⟩ : ∃ r, rounds s ws i = r := ⟨_, rfl⟩
  rw [hr]
  obtain ⟨xa, xb, xc, xd, xe, xf, xg, xh⟩ := r
  refine BIf.dec (fun hlt => ?_) (fun hge => ?_)
  · have hlt : i < 64 := by omega
    refine call_pu (fun β w' hs => rotl_c w' xe 6 (by omega) (by omega)) ?_
    refine call_pu (fun β w' hs => rotl_c w' xe 11 (by omega) (by omega)) ?_
    refine ⟨_, xor32 _ _, ?_⟩
    refine call_pu (fun β w' hs => rotl_c w' xe 25 (by omega) (by omega)) ?_
    refine ⟨_, xor32 _ _, ?_⟩
    refine ⟨_, and32 _ _, _, not32 _, _, and32 _ _, _, xor32 _ _, ?_⟩
    refine draw_rule g p_sha_state_step_7 (by kernel_rfl) _ _ Sub.refl ?_
    refine ⟨_, add32 _ _, _, add32 _ _, i, rfl, hlt, u32 (K.getD i 0), fun β w' hs => odd_cell (hs.get 1 rfl) hlt, _, add32 _ _, i, rfl, hlt, ?_⟩
    conv => whnf
    generalize hn : nth _ _ = o
    obtain rfl : o = some (sl32 (ws.getD i 0)) := hn.symm.trans (by
      show nth (ws.map sl32) (0 + i * 1) = _
      rw [nth_eq, Nat.zero_add, Nat.mul_one, List.getElem?_map, List.getElem?_eq_getElem (by omega)]
      simp [List.getD, List.getElem?_eq_getElem (show i < ws.length by omega)])
    clear hn
    refine ⟨_, add32 _ _, ?_⟩
    refine call_pu (fun β w' hs => rotl_c w' xa 2 (by omega) (by omega)) ?_
    refine call_pu (fun β w' hs => rotl_c w' xa 13 (by omega) (by omega)) ?_
    refine ⟨_, xor32 _ _, ?_⟩
    refine call_pu (fun β w' hs => rotl_c w' xa 22 (by omega) (by omega)) ?_
    refine ⟨_, xor32 _ _, ?_⟩
    refine ⟨_, and32 _ _, _, and32 _ _, _, xor32 _ _, _, and32 _ _, _, xor32 _ _, ?_⟩
    refine ⟨_, add32 _ _, _, add32 _ _, _, add32 _ _, ?_⟩
    refine ⟨((i + 1 : Nat) : Int), by rw [wrap_i64 (by omega) (by omega)]; rfl, ?_⟩
    refine ⟨i + 1, by omega, by omega, Ent.same ?_ rfl⟩
    rw [rounds_succ, hr]
    exact ⟨rfl, rfl, rfl, rfl, rfl, rfl, rfl, rfl, rfl, rfl, rfl, trivial⟩
  · obtain ⟨t, ht⟩ : ∃ t, (⟨xa, xb, xc, xd, xe, xf, xg, xh⟩ : S8) = t := ⟨_, rfl⟩
    have hst : Sha.step s l = s.add t := by
      have : i = 64 := by omega
      rw [Sha.step, hws, ← ht, ← hr, this]
    rw [hst]
    refine loop_rule (ι := Nat) 2 (fun i => [(0, .c (.p 0 0)), (129, .agg [sl32 xa, sl32 xb, sl32 xc, sl32 xd, sl32 xe, sl32 xf, sl32 xg, sl32 xh]), (130, .c (.v (.int .i64 i)))])
      (fun i => [⟨1, 251, ws.map sl32⟩, ⟨0, ty, mix s t i⟩]) (fun _ => [bsF A l, oddF 2])
      (fun i => i ≤ 8) (fun i => 8 - i) 0 (Nat.zero_le _) (Ent.same ⟨rfl, rfl, rfl, trivial⟩ rfl) g ?_
    intro j hj
    refine BIf.dec (fun hlt => ?_) (fun hge => ?_)
    · have hlt : j < 8 := by omega
      refine ⟨j, sl32 (t.l.getD j 0), rfl, hlt, by rw [← ht]; show ((⟨xa, xb, xc, xd, xe, xf, xg, xh⟩ : S8).l.map sl32)[j * 1]? = _; rw [Nat.mul_one]; exact l_get _ j hlt, ?_⟩
      refine draw_rule g p_sha_state_step_15 (by kernel_rfl) [] [bsF A l, oddF 2] (Sub.of (List.nil_sublist _) (List.Sublist.refl _)) ?_
      refine ⟨j, rfl, hlt, ?_⟩
      conv => whnf
      generalize hn : nth _ _ = o
      obtain rfl : o = some (sl32 (s.l.getD j 0)) := hn.symm.trans (by
        show nth (mix s t j) (0 + j * 1) = _
        rw [Nat.zero_add, Nat.mul_one]
        exact mix_get s t j hlt)
      clear hn
      refine ⟨Sub.of (List.nil_sublist _) (List.Sublist.refl _), _, add32 _ _, j, rfl, hlt, ?_⟩
      conv => whnf
      generalize h1 : Nat.ble _ _ = b1
      obtain rfl : b1 = true := h1.symm.trans (by
        show Nat.ble (0 + j * 1 + 1) (mix s t j).length = true
        rw [mix_len s t j (by omega), Nat.ble_eq]; omega)
      clear h1
      refine ⟨Sub.of (List.nil_sublist _) (List.Sublist.refl _), ?_⟩
      refine ⟨((j + 1 : Nat) : Int), by rw [wrap_i64 (by omega) (by omega)]; rfl, ?_⟩
      refine ⟨j + 1, by omega, by omega, Ent.mk' ⟨rfl, rfl, rfl, trivial⟩ rfl (fun β w' hs => ?_)⟩
      have e1 := mix_set s t j hlt
      rw [← e1]
      have e3 : 0 + j * 1 = j := by omega
      have hs2 : Sat (cx_sha_state_step w (Un [stF b ty s]) [b]) β 2 [⟨1, 251, ws.map sl32⟩, ⟨0, ty, putAll (mix s t j) (0 + j * 1) [sl32 (s.l.getD j 0 + t.l.getD j 0)]⟩] [bsF A l, oddF 2] w' := hs
      rw [e3] at hs2
      exact hs2
    · obtain rfl : j = 8 := by omega
      intro β w' hs
      have h1 := hs.weaken (List.sublist_cons_self _ _) (List.Sublist.refl _)
      have h2 := h1.ofBk
      have hb : β 0 = b := h2.fix.2 0 (Nat.zero_lt_one)
      refine h2.fin [0] ⟨rfl, ?_⟩
      show [bkF (β 0) ty ((mix s t 8).map (SL.val β))] = [stF b ty (s.add t)]
      rw [hb]
      rfl
end Go.Proofs.YthkjfepbmnabkaaGreatDoor.Sx

/- A state's bytes; a number's; what stands behind a text. -/
namespace Go.Proofs.YthkjfepbmnabkaaGreatDoor.Sx
open Go Sha
attribute [local irreducible] Calls

theorem u8_of32 (x : UInt32) : IntKind.u8.wrap (x.toNat : Int) = (x.toUInt8.toNat : Int) := by
  rw [show IntKind.u8.wrap (x.toNat : Int) = (x.toNat : Int) % 256 by simp [IntKind.wrap, IntKind.bits, IntKind.signed], UInt32.toNat_toUInt8]
  omega
def outN (s : S8) (i : Nat) : List UInt8 := (s.l.take i).flatMap b4
theorem outN_succ (s : S8) : ∀ i, i < 8 → outN s i ++ b4 (s.l.getD i 0) = outN s (i + 1)
  | 0, _ => rfl | 1, _ => rfl | 2, _ => rfl | 3, _ => rfl | 4, _ => rfl | 5, _ => rfl | 6, _ => rfl | 7, _ => rfl
  | n + 8, h => by omega

theorem stbytes_c (w : World) (b ty : Nat) (s : S8) (hm : Mem w [stF b ty s]) :
    Con Tryz.prog n_sha_state_bytes #[.pointer (some ⟨b, 0, none⟩)] w [stF b ty s] fun v Fs => ∃ A c, v = .slice A 32 c ∧ 32 ≤ c ∧ c ≤ maxLen ∧ Fs = [stF b ty s, browF ty_uint8 A (out s) c] := by
  have g := good_sha_state_bytes w (Un [stF b ty s]) (bs := [b])
  have hs0 : Sat (cx_sha_state_bytes w (Un [stF b ty s]) [b]) (Va.of fun _ => b) 1 [] [stF b ty s] w :=
    hm.sat rfl (ownIn (Gs := [stF b ty s]) (Rs := []) (fun g hg => by cases hg)) ⟨Nat.le_refl _, fun i hi => by
        have hi1 : i < 1 := hi
        have hi0 : i = 0 := by omega
        rw [hi0]; rfl⟩
  have hs1 := hs0.toBk 0 rfl 0 Nat.zero_lt_one rfl
  rw [List.map_map] at hs1
  refine con_of_sx (cx := cx_sha_state_bytes w (Un [stF b ty s]) [b]) g b_sha_state_bytes rfl rfl (β := Va.of fun _ => b) [.c (.p 0 0)] 1 [⟨0, ty, s.l.map sl32⟩] [browF ty_uint8 none [] 0] rfl rfl (hs1.nilRow _ _) ?_
  refine loop_rule (ι := Nat × Option Addr × Nat) 1 (fun i => [(6, .c (.p 0 0)), (7, .c (.v (.int .i64 i.1))), (3, .c (.v (.slice i.2.1 (4 * i.1) i.2.2)))]) (fun _ => [⟨0, ty, s.l.map sl32⟩])
    (fun i => [rowF ty_uint8 1 (.slice i.2.1 (4 * i.1) i.2.2) (4 * i.1) ((outN s i.1).map byte)])
    (fun i => i.1 ≤ 8 ∧ 4 * i.1 ≤ i.2.2 ∧ i.2.2 ≤ maxLen) (fun i => 8 - i.1) (0, none, 0) ⟨Nat.zero_le _, Nat.zero_le _, Nat.zero_le _⟩ (Ent.same ⟨rfl, rfl, rfl, trivial⟩ rfl) g ?_
  rintro ⟨i, A, c⟩ ⟨hi, hc, hcm⟩
  simp only at hi hc hcm
  refine BIf.dec (fun hlt => ?_) (fun hge => ?_)
  · have hlt : i < 8 := by omega
    obtain ⟨x, hx⟩ : ∃ x, s.l.getD i 0 = x := ⟨_, rfl⟩
    refine ⟨i, rfl, hlt, ?_⟩
    conv => whnf
    generalize hn : nth _ _ = o
    obtain rfl : o = some (sl32 x) := hn.symm.trans (by
      show nth (s.l.map sl32) (0 + i * 1) = _
      rw [Nat.zero_add, Nat.mul_one, ← hx, nth_eq]
      exact l_get s i hlt)
    clear hn
    refine ⟨by omega, _, shr32 x 24 (by omega), _, u8_of32 _, by omega, _, shr32 x 16 (by omega), _, u8_of32 _, by omega, _, shr32 x 8 (by omega), _, u8_of32 _, _, u8_of32 _, ?_⟩
    intro b2
    refine ⟨1, 4 * i, 4 * (i + 1), (outN s i).map byte, (b4 x).map byte, _, rfl, fun β w hs => row_rd (hs.get 0 rfl), bytes_one _, by omega, rfl, by rw [maxLen_eq]; omega, by show 4 * (i + 1) * 1 ≤ _; omega, ?_⟩
    intro A' c' h1 h2 _
    refine ⟨((i + 1 : Nat) : Int), by rw [wrap_i64 (by omega) (by omega)]; rfl, ?_⟩
    refine ⟨(i + 1, A', c'), ⟨by show i + 1 ≤ 8; omega, h1, h2⟩, by show 8 - (i + 1) < 8 - i; omega, Ent.mk' ⟨rfl, rfl, rfl, trivial⟩ rfl (fun β w' hs => ?_)⟩
    have e1 := outN_succ s i hlt
    rw [hx] at e1
    have h3 := hs.weaken (List.Sublist.refl _) (List.sublist_cons_self _ _)
    show Sat _ _ _ _ [rowF ty_uint8 1 (.slice A' (4 * (i + 1)) c') (4 * (i + 1)) ((outN s (i + 1)).map byte)] _
    rw [← e1, List.map_append]
    exact h3
  · obtain rfl : i = 8 := by omega
    intro β w' hs
    have h2 := hs.ofBk
    have hb : β 0 = b := h2.fix.2 0 (Nat.zero_lt_one)
    refine h2.fin [0, 1] ⟨A, c, rfl, hc, hcm, ?_⟩
    show [bkF (β 0) ty ((s.l.map sl32).map (SL.val β)), _] = [stF b ty s, _]
    rw [hb]
    rfl

theorem wrap_u8n (x : Nat) : IntKind.u8.wrap (x : Int) = ((UInt8.ofNat x).toNat : Int) := by
  rw [show IntKind.u8.wrap (x : Int) = (x : Int) % 256 by simp [IntKind.wrap, IntKind.bits, IntKind.signed], UInt8.toNat_ofNat']
  omega
theorem wrap_u64' (x : Int) : IntKind.u64.wrap x = x % 18446744073709551616 := by simp [IntKind.wrap, IntKind.bits, IntKind.signed]
theorem longN_succ (n : Nat) : ∀ i, i < 8 → (Sha.long n).take i ++ [UInt8.ofNat (n / 2 ^ (8 * (7 - i)))] = (Sha.long n).take (i + 1)
  | 0, _ => rfl | 1, _ => rfl | 2, _ => rfl | 3, _ => rfl | 4, _ => rfl | 5, _ => rfl | 6, _ => rfl | 7, _ => rfl
  | n + 8, h => by omega
theorem long_c (w : World) (n : Nat) :
    Con Tryz.prog n_sha_long #[.int .u64 n] w [] fun v Fs => ∃ A c, v = .slice A 8 c ∧ 8 ≤ c ∧ c ≤ maxLen ∧ Fs = [browF ty_uint8 A (Sha.long n) c] := by
  have g := good_sha_long w (Un [])
  refine con_of_sx (cx := cx_sha_long w (Un [])) g b_sha_long rfl rfl (β := Va.z) [.c (.v (.int .u64 n))] 0 [] [browF ty_uint8 none [] 0] rfl rfl ((Sat.start rfl).nilRow _ _) ?_
  refine loop_rule (ι := Nat × Option Addr × Nat) 0 (fun i => [(0, .c (.v (.int .u64 n))), (5, .c (.v (.int .i64 i.1))), (3, .c (.v (.slice i.2.1 i.1 i.2.2)))]) (fun _ => [])
    (fun i => [rowF ty_uint8 1 (.slice i.2.1 i.1 i.2.2) i.1 (((Sha.long n).take i.1).map byte)])
    (fun i => i.1 ≤ 8 ∧ i.1 ≤ i.2.2 ∧ i.2.2 ≤ maxLen) (fun i => 8 - i.1) (0, none, 0) ⟨Nat.zero_le _, Nat.zero_le _, Nat.zero_le _⟩ (Ent.same ⟨rfl, rfl, rfl, trivial⟩ rfl) g ?_
  rintro ⟨i, A, c⟩ ⟨hi, hc, hcm⟩
  simp only at hi hc hcm
  refine BIf.dec (fun hlt => ?_) (fun hge => ?_)
  · have hlt : i < 8 := by omega
    refine ⟨((7 - i : Nat) : Int), by rw [wrap_i64 (by omega) (by omega)]; omega, ((8 * (7 - i) : Nat) : Int), by rw [wrap_i64 (by omega) (by omega)]; omega, ?_⟩
    refine ⟨by omega, ((n / 2 ^ (8 * (7 - i)) : Nat) : Int), ?_, _, wrap_u8n _, ?_⟩
    · have h1 : min ((8 * (7 - i) : Nat) : Int).toNat IntKind.u64.bits = 8 * (7 - i) := by show min (8 * (7 - i)) 64 = _; omega
      rw [h1]
      have : (2 ^ (8 * (7 - i)) : Int) = ((2 ^ (8 * (7 - i)) : Nat) : Int) := by push_cast; rfl
      rw [this, Int.fdiv_eq_ediv_of_nonneg _ (Int.natCast_nonneg _)]
      exact (Int.natCast_ediv _ _).symm
    intro b2
    refine ⟨1, i, i + 1, ((Sha.long n).take i).map byte, [UInt8.ofNat (n / 2 ^ (8 * (7 - i)))].map byte, _, rfl, fun β w hs => row_rd (hs.get 0 rfl), bytes_one _, rfl, rfl, by rw [maxLen_eq]; omega, by show (i + 1) * 1 ≤ _; omega, ?_⟩
    intro A' c' h1 h2 _
    refine ⟨((i + 1 : Nat) : Int), by rw [wrap_i64 (by omega) (by omega)]; rfl, ?_⟩
    refine ⟨(i + 1, A', c'), ⟨by show i + 1 ≤ 8; omega, h1, h2⟩, by show 8 - (i + 1) < 8 - i; omega, Ent.mk' ⟨rfl, rfl, rfl, trivial⟩ rfl (fun β w' hs => ?_)⟩
    have h3 := hs.weaken (List.Sublist.refl _) (List.sublist_cons_self _ _)
    show Sat _ _ _ _ [rowF ty_uint8 1 (.slice A' (i + 1) c') (i + 1) (((Sha.long n).take (i + 1)).map byte)] _
    rw [← longN_succ n i hlt, List.map_append]
    exact h3
  · obtain rfl : i = 8 := by omega
    intro β w' hs
    exact hs.fin [0] ⟨A, c, rfl, hc, hcm, rfl⟩

theorem ends_c (w : World) (n : Nat) (hn : n ≤ 140737488355328) :
    Con Tryz.prog n_sha_ends #[.int .u64 n] w [] fun v Fs => ∃ A c, v = .slice A (Sha.ends n).length c ∧ (Sha.ends n).length ≤ c ∧ c ≤ maxLen ∧ Fs = [browF ty_uint8 A (Sha.ends n) c] := by
  have g := good_sha_ends w (Un [])
  have hz : zeros n < 64 := by unfold zeros; omega
  refine con_of_sx (cx := cx_sha_ends w (Un [])) g b_sha_ends rfl rfl (β := Va.z) [.c (.v (.int .u64 n))] 0 [] [] rfl rfl (Sat.start rfl) ?_
  intro b0
  refine loop_rule (ι := Nat × Option Addr × Nat) 0 (fun i => [(0, .c (.v (.int .u64 n))), (3, .c (.v (.slice i.2.1 (i.1 + 1) i.2.2)))]) (fun _ => [])
    (fun i => [rowF ty_uint8 1 (.slice i.2.1 (i.1 + 1) i.2.2) (i.1 + 1) (((0x80 : UInt8) :: List.replicate i.1 0).map byte)])
    (fun i => i.1 ≤ zeros n ∧ i.1 + 1 ≤ i.2.2 ∧ i.2.2 ≤ maxLen) (fun i => zeros n - i.1) (0, some ⟨b0, 0, none⟩, 1) ⟨Nat.zero_le _, Nat.le_refl _, by show 1 ≤ maxLen; decide⟩ (Ent.same ⟨rfl, rfl, trivial⟩ rfl) g ?_
  rintro ⟨i, A, c⟩ ⟨hi, hc, hcm⟩
  simp only at hi hc hcm
  obtain ⟨r, hr⟩ : ∃ r : Nat, (n + (i + 1) + 8) % 64 = r := ⟨_, rfl⟩
  refine ⟨((i + 1 : Nat) : Int), by rw [wrap_u64']; omega, ((n + (i + 1) : Nat) : Int), by rw [wrap_u64']; omega, ((n + (i + 1) + 8 : Nat) : Int), by rw [wrap_u64']; omega, by omega, (r : Int), by rw [Int.tmod_eq_emod_of_nonneg (by omega)]; omega, ?_⟩
  refine BIf.not (BIf.dec (fun h0 => ?_) (fun h0 => ?_))
  · have hiz : i = zeros n := by unfold zeros at *; omega
    refine ⟨((8 * n : Nat) : Int), by rw [wrap_u64']; omega, ?_⟩
    refine call_con [] (fun β w' hs => long_c w' (8 * n)) ?_
    rintro v Fs ⟨A2, c2, rfl, h1, h2, rfl⟩
    have hl : (Sha.ends n).length = i + 1 + 8 := by rw [Sha.ends_len, hiz]; omega
    refine ⟨1, i + 1, (Sha.ends n).length, _, (Sha.long (8 * n)).map byte, (Sha.ends n).map byte, rfl, fun β w hs => row_rd (hs.get 0 rfl), bytes_one _, hl.symm, by rw [← List.map_append, hiz]; rfl, by rw [maxLen_eq, hl]; omega, by show (Sha.ends n).length * 1 ≤ _; omega, ?_⟩
    intro A' c' h3 h4 _
    intro β w' hs
    exact hs.fin [1] ⟨A', c', rfl, h3, h4, rfl⟩
  · have hiz : i < zeros n := by
      rcases Nat.lt_or_ge i (zeros n) with h | h
      · exact h
      · exfalso
        apply h0
        have : i = zeros n := by omega
        subst this
        unfold zeros at hr
        omega
    intro b2
    refine ⟨1, i + 1, i + 1 + 1, ((0x80 : UInt8) :: List.replicate i 0).map byte, [(0 : UInt8)].map byte, _, rfl, fun β w hs => row_rd (hs.get 0 rfl), bytes_one _, rfl, rfl, by rw [maxLen_eq]; omega, by show (i + 1 + 1) * 1 ≤ _; omega, ?_⟩
    intro A' c' h1 h2 _
    refine ⟨(i + 1, A', c'), ⟨hiz, h1, h2⟩, by show zeros n - (i + 1) < zeros n - i; omega, Ent.mk' ⟨rfl, rfl, trivial⟩ rfl (fun β w' hs => ?_)⟩
    have h3 := hs.weaken (List.Sublist.refl _) (List.sublist_cons_self _ _)
    show Sat _ _ _ _ [rowF ty_uint8 1 (.slice A' (i + 1 + 1) c') (i + 1 + 1) (((0x80 : UInt8) :: List.replicate (i + 1) 0).map byte)] _
    rw [List.replicate_succ', ← List.cons_append, List.map_append]
    exact h3
end Go.Proofs.YthkjfepbmnabkaaGreatDoor.Sx

/- A text's blocks. -/
namespace Go.Proofs.YthkjfepbmnabkaaGreatDoor.Sx
open Go Sha
attribute [local irreducible] Calls

theorem clone_c (w : World) (A : Option Addr) (l : List UInt8) (c : Nat) (hr : Bs w A l) (hn : l.length ≤ 140737488355328) :
    Con Tryz.prog n_bytes_Clone #[.slice A l.length c] w [] fun v Fs => ∃ A' c', v = .slice A' l.length c' ∧ l.length ≤ c' ∧ c' ≤ maxLen ∧ Fs = [browF ty_uint8 A' l c'] := by
  refine con_of_sx (cx := cx_bytes_Clone w (Un [])) (good_bytes_Clone w (Un [])) b_bytes_Clone rfl rfl (β := Va.z) [.c (.v (.slice A l.length c))] 0 [] [bsF A l] rfl rfl ((Sat.start rfl).rd (fun _ h => by cases h) hr) ?_
  refine BIf.mk (fun h => ?_) (fun h => ?_)
  · intro β w' hs
    have hA : A = none := by simpa using h
    subst hA
    have hl : l = [] := by
      cases l with
      | nil => rfl
      | cons x r => obtain ⟨ad, q⟩ := Bs.addr hr (by simp); cases q
    subst hl
    exact (hs.nilRow ty_uint8 1).fin [0] ⟨none, 0, rfl, Nat.le_refl _, Nat.zero_le _, rfl⟩
  intro b
  refine ⟨0, 0, l.length, [], l.map byte, _, rfl, fun β w hs => hs.get 1 rfl, bytes_one l, Nat.zero_add _, rfl, by rw [maxLen_eq]; omega, by show l.length * 1 ≤ _; omega, ?_⟩
  intro A' c' h1 h2 h3 β w' hs
  exact hs.fin [0] ⟨A', c', rfl, h1, h2, rfl⟩

def blk (q : List UInt8) (i : Nat) : List UInt8 := (q.drop (64 * i)).take 64
def blks (q : List UInt8) (n : Nat) : List (List UInt8) := (List.range n).map (blk q)
theorem blks_succ (q : List UInt8) (n : Nat) : blks q (n + 1) = blks q n ++ [blk q n] := by simp [blks, List.range_succ]
theorem go_eq : ∀ (n : Nat) (s : S8) (q : List UInt8), go n s q = (blks q n).foldl Sha.step s
  | 0, s, q => rfl
  | n + 1, s, q => by
    rw [go, go_eq n]
    have : blks q (n + 1) = q.take 64 :: blks (q.drop 64) n := by
      simp only [blks, List.range_succ_eq_map, List.map_cons, List.map_map]
      congr 1
      refine List.map_congr_left fun i _ => ?_
      simp only [Function.comp, blk, List.drop_drop]
      rw [show 64 * (i + 1) = 64 + 64 * i by omega]
    rw [this, List.foldl_cons]

def insB (x : List UInt8) (args : Array Value) (X : Fact) : Prop := x.length = 64 ∧ ∃ B, args = #[.slice B 64 64] ∧ X = bsF B x

theorem blocks_it (l : Nat) (w : World) (bx : Nat) (A : Option Addr) (p : List UInt8) (c : Nat) (f0 R : Fact) (J Jx : List (List UInt8) → Fact → Prop) (hJ0 : J [] f0) (hJo : ∀ pre f, J pre f → f.own = true) (hRo : R.own = false) (hY : Yc Tryz.prog l J Jx R (fun _ => insB))
    (hp : p.length ≤ 70368744177664) (hm : Mem w (f0 :: R :: [bkF bx ty_sl_uint8 [.slice A p.length c], bsF A p])) :
    Con Tryz.prog n_sha_Blocks_1 #[.func (.yield l) #[] #[], .pointer (some ⟨bx, 0, none⟩)] w [f0, bkF bx ty_sl_uint8 [.slice A p.length c]]
      (fun _ Fs => ∃ f Fs', Fs = f :: Fs' ∧ ((∃ xs, J xs f ∧ xs = blks (p ++ ends p.length) ((p ++ ends p.length).length / 64) ∧ Fs' = []) ∨ (∃ pre, Jx pre f ∧ Fs' = []))) := by
  have g := good_sha_Blocks_1 w (Un [f0, bkF bx ty_sl_uint8 [.slice A p.length c]]) [bx]
  have hs0 : Sat (cx_sha_Blocks_1 w (Un [f0, bkF bx ty_sl_uint8 [.slice A p.length c]]) [bx]) (Va.of fun _ => bx) 1 [] (f0 :: R :: [bkF bx ty_sl_uint8 [.slice A p.length c], bsF A p]) w := by
    refine hm.sat rfl (fun f hf ho k hk => ?_) ⟨Nat.le_refl 1, fun i hi => by obtain rfl : i = 0 := Nat.lt_one_iff.1 hi; rfl⟩
    simp only [List.mem_cons, List.not_mem_nil, or_false] at hf
    rcases hf with rfl | rfl | rfl | rfl
    · exact ⟨_, by simp, hk⟩
    · rw [hRo] at ho; cases ho
    · exact ⟨_, by simp, hk⟩
    · cases ho
  have hs1 := hs0.toBk 2 rfl 0 Nat.zero_lt_one rfl
  have hf0 := hJo _ _ hJ0
  refine con_of_sx (cx := cx_sha_Blocks_1 w (Un [f0, bkF bx ty_sl_uint8 [.slice A p.length c]]) [bx]) g b_sha_Blocks_1 rfl rfl (β := Va.of fun _ => bx) [.c (.v (.func (.yield l) #[] #[])), .c (.p 0 0)] 1 [⟨0, ty_sl_uint8, [.v (.slice A p.length c)]⟩] [f0, R, bsF A p] rfl rfl hs1 ?_
  refine draw_rule g p_sha_Blocks_1_0 (by kernel_rfl) [⟨0, ty_sl_uint8, [.v (.slice A p.length c)]⟩] [f0, R, bsF A p] Sub.refl ?_
  refine ⟨((p.length : Nat) : Int), by rw [wrap_u64']; omega, ?_⟩
  refine call_con [] (fun β w' hs => clone_c w' A p c (hs.get 2 rfl) (by omega)) ?_
  rintro v Fs ⟨A1, c1, rfl, h1, h2, rfl⟩
  refine ⟨Sub.dropF 1 rfl, ?_⟩
  refine call_con [] (fun β w' hs => ends_c w' p.length (by omega)) ?_
  rintro v Fs ⟨A2, c2, rfl, h3, h4, rfl⟩
  refine ⟨Sub.dropF 2 rfl, ?_⟩
  obtain ⟨q, hq⟩ : ∃ q, p ++ ends p.length = q := ⟨_, rfl⟩
  have hql : q.length = p.length + (ends p.length).length := by rw [← hq, List.length_append]
  have hel : (ends p.length).length < 73 := by rw [Sha.ends_len]; unfold zeros; omega
  have hqm : q.length % 64 = 0 := by rw [← hq]; exact Sha.pad_mod p
  rw [hq]
  refine ⟨1, p.length, q.length, _, (ends p.length).map byte, q.map byte, rfl, fun β w hs => row_rd (hs.get 0 rfl), bytes_one _, hql.symm, by rw [← hq, List.map_append], by rw [maxLen_eq]; omega, by show q.length * 1 ≤ _; omega, ?_⟩
  intro A3 c3 h5 h6 _
  refine ⟨Sub.dropF 2 rfl, ?_⟩
  refine loop_rule (ι := Nat × Option Addr × Nat × Fact) 1 (fun i => [(0, .c (.v (.func (.yield l) #[] #[]))), (3, .c (.v (.slice i.2.1 (q.length - 64 * i.1) i.2.2.1)))]) (fun _ => [⟨0, ty_sl_uint8, [.v (.slice A p.length c)]⟩])
    (fun i => [browF ty_uint8 A3 q c3, i.2.2.2, R])
    (fun i => 64 * i.1 ≤ q.length ∧ q.length - 64 * i.1 ≤ i.2.2.1 ∧ i.2.2.1 ≤ maxLen ∧ J (blks q i.1) i.2.2.2 ∧ (∀ w, Bs w A3 q → Bs w i.2.1 (q.drop (64 * i.1))) ∧ (∀ ad, i.2.1 = some ad → ∃ ad3, A3 = some ad3 ∧ ad.block = ad3.block)) (fun i => q.length - 64 * i.1) (0, A3, c3, f0)
    ⟨Nat.zero_le _, h5, h6, hJ0, fun w h => h, fun ad h => ⟨ad, h, rfl⟩⟩ (Ent.mk' ⟨rfl, rfl, trivial⟩ rfl (fun β w' hs => hs.weaken (List.Sublist.refl _) (List.Sublist.cons _ (List.Sublist.cons_cons _ (List.Sublist.cons_cons _ (List.Sublist.cons_cons _ (List.nil_sublist _))))))) g ?_
  rintro ⟨i, B, cap, f⟩ ⟨hi, hcap, hcm, hJ, hB, hBD⟩
  simp only at hi hcap hcm hJ hB hBD
  have hfo := hJo _ _ hJ
  obtain ⟨m, hm⟩ : ∃ m, q.length - 64 * i = m := ⟨_, rfl⟩
  have hmc : m ≤ cap := by omega
  rw [hm]
  have hdl : (q.drop (64 * i)).length = m := by rw [List.length_drop]; omega
  refine BIf.dec (fun h0 => ?_) (fun h0 => ?_)
  · have hm64 : 64 ≤ m := by omega
    have hbl : (blk q i).length = 64 := by unfold blk; rw [List.length_take, hdl]; omega
    refine ⟨64, 64, 0, 64, 64, _, rfl, rfl, rfl, by show 64 ≤ cap; omega, by omega, by omega, rfl, rfl, rfl, ?_⟩
    have hcutD : ∀ k, (bsF (cutA B 64 0 1) (blk q i)).D k → (browF ty_uint8 A3 q c3).D k := by
      rintro k ⟨_, ad, had, rfl⟩
      simp only [cutA] at had
      rw [if_neg (by decide)] at had
      cases B with
      | none => cases had
      | some ad0 =>
        obtain rfl : ad0.add (0 * 1) = ad := by simpa using had
        obtain ⟨ad3, h7, h8⟩ := hBD ad0 rfl
        subst h7
        have : (ad0.add (0 * 1)).block = ad0.block := by unfold Addr.add; split <;> rfl
        show some ad3.block = some (ad0.add (0 * 1)).block
        rw [this, h8]
    refine yield_ro (x := blk q i) (X := bsF (cutA B 64 0 1) (blk q i)) hY 1 2 rfl hJ hfo rfl hRo (by decide) (fun β => ⟨hbl, _, rfl, rfl⟩) rfl (fun β w' hs => ⟨?_, fun k hk => hs.getLt 0 rfl k (hcutD k hk), fun k hk hk' => ?_⟩) ?_ ?_
    · have h7 := Bs.cut (hB w' (row_rd (hs.get 0 rfl))) (c := cap) (m := 64) (i := 0) (j := 64) (by omega) (.inr (Nat.le_refl _)) (by omega) (by omega) (by omega)
      have h8 : Rd 1 (cutA B 64 0 1) (blk q i).length ((blk q i).map byte) w' := by rw [hbl]; exact h7
      exact h8
    · exact hs.apart (i := 1) (j := 0) rfl rfl (by decide) (.inr rfl) k hk (hcutD k hk')
    · intro f2 hfo2 hJ2
      refine ⟨cap, m, 64, m - 64, cap - 64, _, rfl, rfl, rfl, Nat.le_refl _, hmc, hm64, rfl, rfl, rfl, ?_⟩
      refine ⟨(i + 1, cutA B cap 64 1, cap - 64, f2), ⟨by show 64 * (i + 1) ≤ _; omega, by show q.length - 64 * (i + 1) ≤ cap - 64; omega, by show cap - 64 ≤ _; omega, by show J (blks q (i + 1)) f2; rw [blks_succ]; exact hJ2, fun w' h => ?_, fun ad had => ?_⟩, by show q.length - 64 * (i + 1) < m; omega, Ent.mk' ⟨rfl, ?_, trivial⟩ rfl (fun β w' hs => ?_)⟩
      · have h7 := Bs.cutB (hB w' h) (c := cap) (i := 64) (j := m) (m := q.drop (64 * (i + 1))) (by omega) hm64 (by omega) (by
          rw [List.drop_drop, show 64 * i + 64 = 64 * (i + 1) by omega, List.take_of_length_le]
          rw [List.length_drop]; omega)
        exact h7
      · have had' : cutA B cap 64 1 = some ad := had
        unfold cutA at had'
        split at had'
        · exact hBD ad had'
        · cases B with
          | none => cases had'
          | some ad0 =>
            obtain rfl : ad0.add (64 * 1) = ad := by simpa using had'
            obtain ⟨ad3, h7, h8⟩ := hBD ad0 rfl
            refine ⟨ad3, h7, ?_⟩
            rw [← h8]
            unfold Addr.add; split <;> rfl
      · show _ = some (SV.c (.v (.slice _ (q.length - 64 * (i + 1)) _)))
        rw [show q.length - 64 * (i + 1) = m - 64 by omega]
        rfl
      · exact (hs.keepB (List.Sublist.refl _)).perm [1, 0, 2]
    · intro f2 hfo2 hJ2 β w' hs
      exact hs.fin [0] ⟨f2, [], rfl, .inr ⟨_, hJ2, rfl⟩⟩ rfl rfl rfl ⟨hfo2, trivial⟩
  · have hi2 : i = q.length / 64 := by omega
    intro β w' hs
    exact hs.fin [1] ⟨f, [], rfl, .inl ⟨_, hJ, by rw [hi2], rfl⟩⟩ rfl rfl rfl ⟨hfo, trivial⟩
end Go.Proofs.YthkjfepbmnabkaaGreatDoor.Sx

/- The sum of a text. -/
namespace Go.Proofs.YthkjfepbmnabkaaGreatDoor.Sx
open Go Sha
attribute [local irreducible] Calls

theorem rd_sub_row {e size k n c : Nat} {A : Option Addr} {xs ys : List Value} : ∀ g, (rdF size A k xs).D g → (rowF e size (.slice A n c) n ys).D g := by
  rintro g ⟨_, ad, rfl, rfl⟩
  rfl
/-- The last one is only read. -/
theorem Mem.lastRd {w : World} {f R X : Fact} {e c : Nat} {A : Option Addr} {l : List UInt8} (h : Mem w [f, R, X, browF e A l c]) : Mem w [f, R, X, bsF A l] := by
  have hp : Bs w A l := row_rd (h.fact (browF e A l c) (by simp))
  refine ⟨fun g hg => ?_, fun g hg k hk => ?_, ?_⟩
  · simp only [List.mem_cons, List.not_mem_nil, or_false] at hg
    rcases hg with rfl | rfl | rfl | rfl
    · exact h.fact _ (by simp)
    · exact h.fact _ (by simp)
    · exact h.fact _ (by simp)
    · exact hp
  · simp only [List.mem_cons, List.not_mem_nil, or_false] at hg
    rcases hg with rfl | rfl | rfl | rfl
    · exact h.flt g (by simp) k hk
    · exact h.flt g (by simp) k hk
    · exact h.flt g (by simp) k hk
    · exact h.flt (browF e A l c) (by simp) k (rd_sub_row k hk)
  · obtain ⟨h1, h2⟩ := List.pairwise_cons.1 h.sepf
    obtain ⟨h3, h4⟩ := List.pairwise_cons.1 h2
    obtain ⟨h5, _⟩ := List.pairwise_cons.1 h4
    refine List.pairwise_cons.2 ⟨fun g hg ho => ?_, List.pairwise_cons.2 ⟨fun g hg ho => ?_, List.pairwise_cons.2 ⟨fun g hg ho => ?_, List.pairwise_singleton _ _⟩⟩⟩
    · simp only [List.mem_cons, List.not_mem_nil, or_false] at hg
      rcases hg with rfl | rfl | rfl
      · exact h1 _ (by simp) ho
      · exact h1 _ (by simp) ho
      · exact fun k hk q => h1 (browF e A l c) (by simp) (.inr rfl) k hk (rd_sub_row k q)
    · simp only [List.mem_cons, List.not_mem_nil, or_false] at hg
      rcases hg with rfl | rfl
      · exact h3 _ (by simp) ho
      · exact fun k hk q => h3 (browF e A l c) (by simp) (.inr rfl) k hk (rd_sub_row k q)
    · obtain rfl := List.mem_singleton.1 hg
      exact fun k hk q => h5 (browF e A l c) (by simp) (.inr rfl) k hk (rd_sub_row k q)
theorem Blocks_c (w : World) (A : Option Addr) (n c : Nat) : Con Tryz.prog n_sha_Blocks #[.slice A n c] w [] (fun v Fs => ∃ bx, v = .func (.func n_sha_Blocks_1) #[] #[.pointer (some ⟨bx, 0, none⟩)] ∧ Fs = [bkF bx ty_sl_uint8 [.slice A n c]]) := by
  refine con_of_sx (cx := cx_sha_Blocks w (Un [])) (good_sha_Blocks w (Un [])) b_sha_Blocks rfl rfl (β := Va.z) [.c (.v (.slice A n c))] 0 [] [] rfl rfl (Sat.start rfl) ?_
  intro β w' hs
  exact hs.ofBk.fin [0] ⟨β 0, rfl, rfl⟩
/-- One part. -/
theorem join1_c (w : World) (P A : Option Addr) (cP c : Nat) (l : List UInt8) (hP : Rd 1 P 1 [.slice A l.length c] w) (hr : Bs w A l) (hn : l.length ≤ 140737488355328) :
    Con Tryz.prog n_bytes_Join #[.slice P 1 cP, .slice none 0 0] w [] fun v Fs => ∃ A' c', v = .slice A' l.length c' ∧ l.length ≤ c' ∧ c' ≤ maxLen ∧ Fs = [browF ty_uint8 A' l c'] := by
  have hs0 : Sat (cx_bytes_Join w (Un [])) Va.z 0 [] [oldF w] w := old_sat rfl
  refine con_of_sx (cx := cx_bytes_Join w (Un [])) (good_bytes_Join w (Un [])) b_bytes_Join rfl rfl (β := Va.z) [.c (.v (.slice P 1 cP)), .c (.v (.slice none 0 0))] 0 [] [browF ty_uint8 none [] 0, oldF w] rfl rfl (hs0.nilRow _ _) ?_
  obtain ⟨ad, rfl, hc⟩ := hP.2 (by decide)
  refine ⟨ad, 0, rfl, rfl, by decide, .slice A l.length c, fun β w' hs => ?_, ?_⟩
  · have h1 : Rd 1 (some ad) 1 [.slice A l.length c] w' := hP.old (hs.get 1 rfl)
    obtain ⟨ad', h2, h3⟩ := h1.2 (by decide)
    obtain rfl := Option.some.inj h2
    exact h3 0 _ rfl
  refine ⟨0, 0, l.length, [], l.map byte, _, rfl, fun β w' hs => hr.old (hs.get 1 rfl), bytes_one l, Nat.zero_add _, rfl, by rw [maxLen_eq]; omega, by show l.length * 1 ≤ _; omega, ?_⟩
  intro A' c' h1 h2 h3 β w' hs
  exact hs.fin [0] ⟨A', c', rfl, h1, h2, rfl⟩

theorem step64_c (w : World) (b ty : Nat) (s : S8) (A : Option Addr) (x : List UInt8) (hx : x.length = 64) (hm : Mem w [stF b ty s, bsF A x, oddF 2]) :
    Con Tryz.prog n_sha_state_step #[.pointer (some ⟨b, 0, none⟩), .slice A 64 64] w [stF b ty s] fun v Fs => v = .tuple #[] ∧ Fs = [stF b ty (Sha.step s x)] := by
  have := step_c w b ty s A x 64 hm (by omega) (by omega) (by decide)
  rw [hx] at this
  exact this

/-- The tables that are read. -/
def firstF (g : Nat) : Fact := rdF 1 (some ⟨g, 0, none⟩) 8 (Sha.first.l.map u32)
theorem sum1_c (w : World) (P A : Option Addr) (cP c : Nat) (l : List UInt8) (hP : Rd 1 P 1 [.slice A l.length c] w) (hr : Bs w A l) (hn : l.length ≤ 70368744177664) (h1 : (oddF 2).p w) (h0 : (firstF 0).p w) :
    Con Tryz.prog n_sha_Sum #[.slice P 1 cP] w [] fun v Fs => ∃ A' c', v = .slice A' 32 c' ∧ 32 ≤ c' ∧ c' ≤ maxLen ∧ Fs = [browF ty_uint8 A' (Sha.sum l) c'] := by
  have g := good_sha_Sum w (Un [])
  have hs0 : Sat (cx_sha_Sum w (Un [])) Va.z 0 [] [oldF w] w := old_sat rfl
  have hs1 : Sat (cx_sha_Sum w (Un [])) Va.z 0 [] [oddF 2, oldF w] w := hs0.sub 0 rfl rfl _ rfl h1 (rd_lt h1)
  refine con_of_sx (cx := cx_sha_Sum w (Un [])) g b_sha_Sum rfl rfl (β := Va.z) [.c (.v (.slice P 1 cP))] 0 [] [oddF 2, oldF w] rfl rfl hs1 ?_
  refine ⟨Sha.first.l.map u32, rfl, fun β w' hs j u hu => ?_, ?_⟩
  · have h2 : Rd 1 (some ⟨0, 0, none⟩) 8 (Sha.first.l.map u32) w' := Rd.old h0 (hs.get 1 rfl)
    obtain ⟨ad, h3, h4⟩ := h2.2 (by decide)
    obtain rfl := Option.some.inj h3
    exact h4 j u hu
  refine call_con [] (fun β w' hs => join1_c w' P A cP c l (hP.old (hs.get 1 rfl)) (hr.old (hs.get 1 rfl)) (by omega)) ?_
  rintro v Fs ⟨A1, c1, rfl, h2, h3, rfl⟩
  refine call_con [] (fun β w' hs => Blocks_c w' A1 l.length c1) ?_
  rintro v Fs ⟨bx, rfl, rfl⟩
  refine reify_rule g 0 (fun _ => Sha.first.l.map u32) rfl rfl (fun _ => rfl) (fun sb => ?_)
  obtain ⟨q, hq⟩ : ∃ q, l ++ ends l.length = q := ⟨_, rfl⟩
  have hsum : Sha.sum l = out ((blks q (q.length / 64)).foldl Sha.step Sha.first) := by rw [← go_eq, ← hq]; rfl
  rw [hsum]
  refine range_rule (α := List UInt8) (ι := S8) (κ := S8) g rfl (cv := [.pointer (some ⟨bx, 0, none⟩)]) rfl (by kernel_rfl) 1 (Nat.le_refl 1)
    (fun pre s => s = pre.foldl Sha.step Sha.first) (fun _ => []) (fun s => [stF sb 212 s]) (fun _ => ⟨rfl, trivial⟩)
    (fun _ _ _ => False) (fun _ => []) (fun _ => []) (fun _ => trivial)
    [bkF bx ty_sl_uint8 [.slice A1 l.length c1]] [browF ty_uint8 A1 l c1] [oddF 2] ⟨rfl, trivial⟩ (fun g hg => by obtain rfl := List.mem_singleton.1 hg; rfl)
    Sha.first rfl (fun β w' hs => ⟨β, Agr.refl _ _, hs.perm [1, 2, 0, 3]⟩) (fun _ => insB)
    (fun xs Fs' => xs = blks q (q.length / 64) ∧ Fs' = []) (fun _ Fs' => Fs' = [])
    (fun l' w' f0 R J Jx hJ0 hJo hRo hY hm => (blocks_it l' w' bx A1 l c1 f0 R J Jx hJ0 hJo hRo hY hn hm.lastRd).mono fun _ Fs h => by rw [hq] at h; exact h) ?_ ?_ ?_
  · rintro s pre x args X W S l' bs pn pn' hbs hpre ⟨hx, B, rfl, rfl⟩
    refine ⟨_, rfl, ?_⟩
    refine call_con [1] (fun β w' hs => step64_c w' sb 212 s B x hx (hs.mem.take (js := [1, 0, 2]) rfl)) ?_
    rintro v Fs ⟨rfl, rfl⟩
    refine ⟨Sha.step s x, by show Sha.step s x = (pre ++ [x]).foldl Sha.step Sha.first; rw [List.foldl_append, hpre]; rfl, Ent.mk' trivial rfl (fun β w' hs => ?_)⟩
    exact hs.weaken (List.Sublist.refl _) (List.Sublist.cons_cons _ (List.nil_sublist _))
  · rintro xs s Fs hpre ⟨rfl, rfl⟩
    refine call_con [0] (fun β w' hs => stbytes_c w' sb 212 s (hs.mem.take (js := [0]) rfl)) ?_
    rintro v Fs ⟨A3, c3, rfl, h5, h6, rfl⟩
    intro β w' hs
    refine hs.fin [1] ⟨A3, c3, rfl, h5, h6, ?_⟩
    rw [← hpre]
    rfl
  · rintro e pre s Fs h _
    exact h.elim
end Go.Proofs.YthkjfepbmnabkaaGreatDoor.Sx

/- The document's words for sums. -/
namespace Go.Proofs.YthkjfepbmnabkaaGreatDoor.Sx
open Go Sha
attribute [local irreducible] Calls

def stV (s : S8) : Value := .agg (s.l.map u32).toArray
theorem be4 (x : UInt32) : be 4 x.toNat = b4 x := by
  have hx := x.toNat_lt
  simp only [be, b4, List.nil_append, List.cons_append]
  have e : ∀ n, n < 256 → ∀ y : UInt8, y.toNat = n → UInt8.ofNat n = y := fun n _ y h => by rw [← h, UInt8.ofNat_toNat]
  have h1 : ∀ k : Nat, k < 32 → (x >>> UInt32.ofNat k).toNat = x.toNat / 2 ^ k := fun k hk => by
    rw [UInt32.toNat_shiftRight, UInt32.toNat_ofNat', Nat.mod_eq_of_lt (show k < 2 ^ 32 by omega), Nat.mod_eq_of_lt hk, Nat.shiftRight_eq_div_pow]
  congr 1
  · exact e _ (by omega) _ (by rw [UInt32.toNat_toUInt8, show (24 : UInt32) = UInt32.ofNat 24 from rfl, h1 24 (by omega)] <;> omega)
  congr 1
  · exact e _ (by omega) _ (by rw [UInt32.toNat_toUInt8, show (16 : UInt32) = UInt32.ofNat 16 from rfl, h1 16 (by omega)] <;> omega)
  congr 1
  · exact e _ (by omega) _ (by rw [UInt32.toNat_toUInt8, show (8 : UInt32) = UInt32.ofNat 8 from rfl, h1 8 (by omega)] <;> omega)
  congr 1
  exact e _ (by omega) _ (by rw [UInt32.toNat_toUInt8])
theorem ofNat_mod (n : Nat) : UInt8.ofNat (n % 256) = UInt8.ofNat n := by
  apply UInt8.toNat_inj.1
  rw [UInt8.toNat_ofNat', UInt8.toNat_ofNat']
  omega
theorem be8 (n : Nat) : be 8 n = Sha.long n := by
  simp only [be, Sha.long, List.nil_append, List.cons_append, ofNat_mod, List.map_cons, List.map_nil, Nat.div_div_eq_div_mul]
  simp

theorem first_c (w : World) : Pu Tryz.prog n_ostiaryref01_First #[] w (stV Sha.first) := by
  refine pu_of (calls_of_sx (cx := cx_ostiaryref01_First w None_) (good_ostiaryref01_First w None_) b_ostiaryref01_First rfl rfl (β := Va.z) [] 0 [] [] rfl rfl (Sat.start rfl) ?_)
  intro β w' hs
  exact ⟨rfl, hs.chg⟩

theorem be_con (w : World) (n k : Nat) (hn : n < 18446744073709551616) (hk : k ≤ 4096) :
    Con Tryz.prog n_ostiaryref01_Bytes #[.int .u64 n, .int .i64 k] w [] fun v Fs => ∃ A c, v = .slice A (be k n).length c ∧ (be k n).length ≤ c ∧ c ≤ maxLen ∧ Fs = [browF ty_uint8 A (be k n) c] := con_row (bytes_c w n k hn hk)
theorem tail_c (w : World) (n : Nat) (hn : n ≤ 140737488355328) :
    Con Tryz.prog n_ostiaryref01_Tail #[.int .u64 n] w [] fun v Fs => ∃ A c, v = .slice A (Sha.ends n).length c ∧ (Sha.ends n).length ≤ c ∧ c ≤ maxLen ∧ Fs = [browF ty_uint8 A (Sha.ends n) c] := by
  have g := good_ostiaryref01_Tail w (Un [])
  have hz : zeros n < 64 := by unfold zeros; omega
  refine con_of_sx (cx := cx_ostiaryref01_Tail w (Un [])) g b_ostiaryref01_Tail rfl rfl (β := Va.z) [.c (.v (.int .u64 n))] 0 [] [] rfl rfl (Sat.start rfl) ?_
  intro b0
  refine ⟨by decide, ((n % 64 : Nat) : Int), by rw [Int.tmod_eq_emod_of_nonneg (by omega)]; omega, ((n % 64 + 1 : Nat) : Int), by rw [wrap_u64']; omega, ?_⟩
  refine loop_rule (ι := Nat × Option Addr × Nat) 0 (fun i => [(0, .c (.v (.int .u64 n))), (4, .c (.v (.int .u64 ((n % 64 + 1 + i.1 : Nat) : Int)))), (3, .c (.v (.slice i.2.1 (i.1 + 1) i.2.2)))]) (fun _ => [])
    (fun i => [rowF ty_uint8 1 (.slice i.2.1 (i.1 + 1) i.2.2) (i.1 + 1) (((0x80 : UInt8) :: List.replicate i.1 0).map byte)])
    (fun i => i.1 ≤ zeros n ∧ i.1 + 1 ≤ i.2.2 ∧ i.2.2 ≤ maxLen) (fun i => zeros n - i.1) (0, some ⟨b0, 0, none⟩, 1) ⟨Nat.zero_le _, Nat.le_refl _, by show 1 ≤ maxLen; decide⟩ (Ent.same ⟨rfl, rfl, rfl, trivial⟩ rfl) g ?_
  rintro ⟨i, A, c⟩ ⟨hi, hc, hcm⟩
  simp only at hi hc hcm
  obtain ⟨r, hr⟩ : ∃ r : Nat, (n % 64 + 1 + i) % 64 = r := ⟨_, rfl⟩
  refine ⟨by decide, (r : Int), by dsimp only; rw [Int.tmod_eq_emod_of_nonneg (by omega)]; omega, ?_⟩
  refine BIf.not (BIf.dec (fun h0 => ?_) (fun h0 => ?_))
  · have hiz : i = zeros n := by unfold zeros at *; omega
    refine ⟨((8 * n : Nat) : Int), by rw [wrap_u64']; omega, ?_⟩
    refine call_con [] (fun β w' hs => be_con w' (8 * n) 8 (by omega) (by omega)) ?_
    rintro v Fs ⟨A2, c2, rfl, h1, h2, rfl⟩
    have hl : (Sha.ends n).length = i + 1 + 8 := by rw [Sha.ends_len, hiz]; omega
    refine ⟨1, i + 1, (Sha.ends n).length, _, (be 8 (8 * n)).map byte, (Sha.ends n).map byte, rfl, fun β w hs => row_rd (hs.get 0 rfl), bytes_one _, by rw [be_length]; exact hl.symm, by rw [← List.map_append, be8, hiz]; rfl, by rw [maxLen_eq, hl]; omega, by show (Sha.ends n).length * 1 ≤ _; omega, ?_⟩
    intro A' c' h3 h4 _
    intro β w' hs
    exact hs.fin [1] ⟨A', c', rfl, h3, h4, rfl⟩
  · have hiz : i < zeros n := by
      rcases Nat.lt_or_ge i (zeros n) with h | h
      · exact h
      · exfalso
        apply h0
        have : i = zeros n := by omega
        subst this
        unfold zeros at hr
        omega
    intro b2
    refine ⟨1, i + 1, i + 1 + 1, ((0x80 : UInt8) :: List.replicate i 0).map byte, [(0 : UInt8)].map byte, _, rfl, fun β w hs => row_rd (hs.get 0 rfl), bytes_one _, rfl, rfl, by rw [maxLen_eq]; omega, by show (i + 1 + 1) * 1 ≤ _; omega, ?_⟩
    intro A' c' h1 h2 _
    refine ⟨((n % 64 + 1 + (i + 1) : Nat) : Int), by dsimp only; rw [wrap_u64']; omega, ?_⟩
    refine ⟨(i + 1, A', c'), ⟨hiz, h1, h2⟩, by show zeros n - (i + 1) < zeros n - i; omega, Ent.mk' ⟨rfl, rfl, rfl, trivial⟩ rfl (fun β w' hs => ?_)⟩
    have h3 := hs.weaken (List.Sublist.refl _) (List.sublist_cons_self _ _)
    show Sat _ _ _ _ [rowF ty_uint8 1 (.slice A' (i + 1 + 1) c') (i + 1 + 1) (((0x80 : UInt8) :: List.replicate (i + 1) 0).map byte)] _
    rw [List.replicate_succ', ← List.cons_append, List.map_append]
    exact h3

theorem out_c (w : World) (s : S8) :
    Con Tryz.prog n_ostiaryref01_Out #[stV s] w [] fun v Fs => ∃ A c, v = .slice A 32 c ∧ 32 ≤ c ∧ c ≤ maxLen ∧ Fs = [browF ty_uint8 A (out s) c] := by
  have g := good_ostiaryref01_Out w (Un [])
  refine con_of_sx (cx := cx_ostiaryref01_Out w (Un [])) g b_ostiaryref01_Out rfl rfl (β := Va.z) [.agg (s.l.map sl32)] 0 [] [browF ty_uint8 none [] 0] rfl rfl ((Sat.start rfl).nilRow _ _) ?_
  refine loop_rule (ι := Nat × Option Addr × Nat) 1 (fun i => [(6, .agg (s.l.map sl32)), (7, .c (.v (.int .i64 i.1))), (3, .c (.v (.slice i.2.1 (4 * i.1) i.2.2)))]) (fun _ => [⟨0, 184, s.l.map sl32⟩])
    (fun i => [rowF ty_uint8 1 (.slice i.2.1 (4 * i.1) i.2.2) (4 * i.1) ((outN s i.1).map byte)])
    (fun i => i.1 ≤ 8 ∧ 4 * i.1 ≤ i.2.2 ∧ i.2.2 ≤ maxLen) (fun i => 8 - i.1) (0, none, 0) ⟨Nat.zero_le _, Nat.zero_le _, Nat.zero_le _⟩ (Ent.same ⟨rfl, rfl, rfl, trivial⟩ rfl) g ?_
  rintro ⟨i, A, c⟩ ⟨hi, hc, hcm⟩
  simp only at hi hc hcm
  refine BIf.dec (fun hlt => ?_) (fun hge => ?_)
  · have hlt : i < 8 := by omega
    obtain ⟨x, hx⟩ : ∃ x, s.l.getD i 0 = x := ⟨_, rfl⟩
    have hxl := x.toNat_lt
    refine ⟨i, sl32 x, rfl, hlt, by show (s.l.map sl32)[i * 1]? = _; rw [Nat.mul_one, ← hx]; exact l_get s i hlt, ?_⟩
    refine ⟨(x.toNat : Int), by rw [wrap_u64']; omega, ?_⟩
    refine call_con [] (fun β w' hs => be_con w' x.toNat 4 (by omega) (by omega)) ?_
    rintro v Fs ⟨A2, c2, rfl, h1, h2, rfl⟩
    refine ⟨1, 4 * i, 4 * (i + 1), (outN s i).map byte, (b4 x).map byte, _, rfl, fun β w hs => by rw [← be4]; exact row_rd (hs.get 0 rfl), bytes_one _, by rw [be_length]; omega, rfl, by rw [maxLen_eq]; omega, by show 4 * (i + 1) * 1 ≤ _; omega, ?_⟩
    intro A' c' h3 h4 _
    refine ⟨((i + 1 : Nat) : Int), by rw [wrap_i64 (by omega) (by omega)]; rfl, ?_⟩
    refine ⟨(i + 1, A', c'), ⟨by show i + 1 ≤ 8; omega, h3, h4⟩, by show 8 - (i + 1) < 8 - i; omega, Ent.mk' ⟨rfl, rfl, rfl, trivial⟩ rfl (fun β w' hs => ?_)⟩
    have e1 := outN_succ s i hlt
    rw [hx] at e1
    have h5 := hs.weaken (List.Sublist.refl _) (List.sublist_cons_self _ _)
    show Sat _ _ _ _ [rowF ty_uint8 1 (.slice A' (4 * (i + 1)) c') (4 * (i + 1)) ((outN s (i + 1)).map byte)] _
    rw [← e1, List.map_append]
    exact h5
  · obtain rfl : i = 8 := by omega
    intro β w' hs
    exact (hs.keepB (List.nil_sublist _)).fin [0] ⟨A, c, rfl, hc, hcm, rfl⟩
end Go.Proofs.YthkjfepbmnabkaaGreatDoor.Sx

/- The document's step. -/
namespace Go.Proofs.YthkjfepbmnabkaaGreatDoor.Sx
open Go Sha
attribute [local irreducible] Calls

theorem take4 (l : List UInt8) (k : Nat) (h : k + 4 ≤ l.length) : (l.drop k).take 4 = [l.getD k 0, l.getD (k + 1) 0, l.getD (k + 2) 0, l.getD (k + 3) 0] := by
  refine List.ext_getElem? fun j => ?_
  rw [List.getElem?_take]
  have g : ∀ j, j < 4 → (l.drop k)[j]? = some (l.getD (k + j) 0) := fun j hj => getD_drop l k j (by omega)
  match j with
  | 0 => simpa using g 0 (by omega)
  | 1 => simpa using g 1 (by omega)
  | 2 => simpa using g 2 (by omega)
  | 3 => simpa using g 3 (by omega)
  | n + 4 => simp; omega
theorem numB4 (a b c d : UInt8) : IntKind.u32.wrap (numB [a, b, c, d] : Int) = ((word a b c d).toNat : Int) := by
  have h1 := a.toNat_lt
  have h2 := b.toNat_lt
  have h3 := c.toNat_lt
  have h4 := d.toNat_lt
  have : numB [a, b, c, d] = a.toNat * 16777216 + b.toNat * 65536 + c.toNat * 256 + d.toNat := by
    simp only [numB, List.foldl_cons, List.foldl_nil]
    omega
  rw [this, wrap32_nat]
  rfl
theorem nxt_ac (a b c d : UInt32) : ((d + c) + b) + a = a + b + c + d := by ac_rfl

theorem odd_cell3 {g : Nat} {w : World} (h : (oddF g).p w) {i : Nat} (hi : i < 64) : w.cell? ((⟨g, 0, none⟩ : Addr).add (i * 1)) = some (u32 (K.getD i 0)) := odd_cell h hi
theorem rstep_c (w : World) (s : S8) (A : Option Addr) (l : List UInt8) (c : Nat) (hr : Bs w A l) (hk : (oddF 3).p w) (hc : l.length ≤ c) (hl : 64 ≤ l.length) (hm : c ≤ maxLen) :
    Pu Tryz.prog n_ostiaryref01_Step #[stV s, .slice A l.length c] w (stV (Sha.step s l)) := by
  have g := good_ostiaryref01_Step w (Un [])
  obtain ⟨ws, hws⟩ : ∃ ws, W l = ws := ⟨_, rfl⟩
  have hwl : ws.length = 64 := by rw [← hws]; exact W_len l
  have hst0 : Sha.step s l = s.add (rounds s ws 64) := by rw [Sha.step, hws]
  rw [hst0]
  have hs0 : Sat (cx_ostiaryref01_Step w (Un [])) Va.z 0 [] [oldF w] w := old_sat rfl
  have hs1 : Sat (cx_ostiaryref01_Step w (Un [])) Va.z 0 [] [bsF A l, oddF 3, oldF w] w := (hs0.sub 0 rfl rfl (oddF 3) rfl hk (rd_lt hk)).sub 1 rfl rfl (bsF A l) rfl hr (rd_lt hr)
  rw [maxLen_eq] at hm
  refine con_of_sx (cx := cx_ostiaryref01_Step w (Un [])) g b_ostiaryref01_Step rfl rfl (β := Va.z) [.agg (s.l.map sl32), .c (.v (.slice A l.length c))] 0 [] [bsF A l, oddF 3, oldF w] rfl rfl hs1 ?_
  have e0 : arr 64 [] = ti251.zero.map SL.v := by simp only [arr, List.nil_append, List.length_nil, List.map_replicate]; rfl
  refine loop_rule (ι := Nat) 3 (fun i => [(1, .c (.v (.slice A l.length c))), (2, .c (.p 0 0)), (4, .c (.p 1 0)), (5, .c (.p 2 0)), (6, .c (.v (.int .i64 i)))]) (fun i => [⟨2, 251, arr 64 (sched l i)⟩, ⟨1, 184, ti184.zero.map SL.v⟩, ⟨0, 184, s.l.map sl32⟩]) (fun _ => [bsF A l, oddF 3, oldF w])
    (fun i => i ≤ 64) (fun i => 64 - i) 0 (Nat.zero_le _) (Ent.mk' ⟨rfl, rfl, rfl, rfl, rfl, trivial⟩ rfl (fun β w' hs => by rw [show sched l 0 = [] from rfl, e0]; exact hs)) g ?_
  intro i hi
  refine BIf.dec (fun hlt => ?_) (fun hge => ?_)
  · have hlt : i < 64 := by omega
    have hsl : (sched l i).length = i := sched_len l i
    have ld : ∀ {k : Nat}, k < i → nth (arr 64 (sched l i)) (0 + k * 1) = some (sl32 ((sched l i).getD k 0)) := fun {k} hk => by
      rw [nth_eq, Nat.zero_add, Nat.mul_one]; exact arr_get (by omega)
    have fin : ∀ (x : UInt32), (if i < 16 then wordAt l i else nxt (sched l i) i) = x → putAll (arr 64 (sched l i)) (0 + i * 1) [sl32 x] = arr 64 (sched l (i + 1)) := fun x hx => by
      rw [putAll, putAll, putAt_eq, Nat.zero_add, Nat.mul_one]
      have := arr_set (n := 64) (ws := sched l i) (by omega) x
      rw [hsl] at this
      rw [this, sched, hx]
    have ble : Nat.ble (0 + i * 1 + 1) (arr 64 (sched l i)).length = true := by rw [arr_len (by omega), Nat.ble_eq]; omega
    refine BIf.dec (fun h16 => ?_) (fun h16 => ?_)
    · have h16 : i < 16 := by omega
      refine ⟨((4 * i : Nat) : Int), by rw [wrap_i64 (by omega) (by omega)]; omega, ((4 * i : Nat) : Int), by rw [wrap_i64 (by omega) (by omega)]; omega, ((4 * i + 4 : Nat) : Int), by rw [wrap_i64 (by omega) (by omega)]; omega, ?_⟩
      refine ⟨c, 4 * i + 4, 4 * i, 4, c - 4 * i, _, rfl, rfl, rfl, Nat.le_refl _, by omega, by omega, by omega, rfl, rfl, ?_⟩
      refine call_pu (fun β w' hs => pu_of (num_c w' (cutA A c (4 * i) 1) [l.getD (4 * i) 0, l.getD (4 * i + 1) 0, l.getD (4 * i + 2) 0, l.getD (4 * i + 3) 0] (c - 4 * i) ?_ (by show 4 ≤ lim; decide))) ?_
      · have h7 := Bs.cut (hs.get 0 rfl : Bs w' A l) (c := c) (m := c) (i := 4 * i) (j := 4 * i + 4) hc (.inl rfl) (by omega) (by omega) (Nat.le_refl _)
        rw [show 4 * i + 4 - 4 * i = 4 by omega, take4 l (4 * i) (by omega)] at h7
        exact h7
      refine ⟨_, numB4 _ _ _ _, i, rfl, by omega, ?_⟩
      conv => whnf
      generalize h1 : Nat.ble _ _ = b1
      obtain rfl : b1 = true := h1.symm.trans ble
      clear h1
      refine ⟨((i + 1 : Nat) : Int), by rw [wrap_i64 (by omega) (by omega)]; rfl, ?_⟩
      refine ⟨i + 1, by omega, by omega, Ent.mk' ⟨rfl, rfl, rfl, rfl, rfl, trivial⟩ rfl (fun β w' hs => ?_)⟩
      rw [← fin _ (if_pos h16)]
      exact hs
    · have h16 : ¬ i < 16 := by omega
      obtain ⟨xa, hxa⟩ : ∃ xa, (sched l i).getD (i - 15) 0 = xa := ⟨_, rfl⟩
      obtain ⟨xb, hxb⟩ : ∃ xb, (sched l i).getD (i - 2) 0 = xb := ⟨_, rfl⟩
      refine draw_rule g p_ostiaryref01_Step_7 (by kernel_rfl) _ _ Sub.refl ?_
      refine ⟨((i - 15 : Nat) : Int), by rw [wrap_i64 (by omega) (by omega)]; omega, i - 15, rfl, by omega, ?_⟩
      conv => whnf
      generalize hn : nth _ _ = o
      obtain rfl : o = some (sl32 xa) := hn.symm.trans (by rw [← hxa]; exact ld (by omega))
      clear hn
      refine ⟨((i - 15 : Nat) : Int), by rw [wrap_i64 (by omega) (by omega)]; omega, i - 15, rfl, by omega, ?_⟩
      conv => whnf
      generalize hn : nth _ _ = o
      obtain rfl : o = some (sl32 xa) := hn.symm.trans (by rw [← hxa]; exact ld (by omega))
      clear hn
      refine ⟨((i - 15 : Nat) : Int), by rw [wrap_i64 (by omega) (by omega)]; omega, i - 15, rfl, by omega, ?_⟩
      conv => whnf
      generalize hn : nth _ _ = o
      obtain rfl : o = some (sl32 xa) := hn.symm.trans (by rw [← hxa]; exact ld (by omega))
      clear hn
      refine ⟨by omega, _, shr32 xa 3 (by omega), ?_⟩
      refine call_pu (fun β w' hs => turn_c w' xa 7 (by omega) (by omega)) ?_
      refine ⟨Sub.refl, ?_⟩
      refine call_pu (fun β w' hs => turn_c w' xa 18 (by omega) (by omega)) ?_
      refine ⟨Sub.refl, _, xor32 _ _, _, xor32 _ _, ?_⟩
      refine draw_rule g p_ostiaryref01_Step_8 (by kernel_rfl) _ _ Sub.refl ?_
      refine ⟨((i - 2 : Nat) : Int), by rw [wrap_i64 (by omega) (by omega)]; omega, i - 2, rfl, by omega, ?_⟩
      conv => whnf
      generalize hn : nth _ _ = o
      obtain rfl : o = some (sl32 xb) := hn.symm.trans (by rw [← hxb]; exact ld (by omega))
      clear hn
      refine ⟨((i - 2 : Nat) : Int), by rw [wrap_i64 (by omega) (by omega)]; omega, i - 2, rfl, by omega, ?_⟩
      conv => whnf
      generalize hn : nth _ _ = o
      obtain rfl : o = some (sl32 xb) := hn.symm.trans (by rw [← hxb]; exact ld (by omega))
      clear hn
      refine ⟨((i - 2 : Nat) : Int), by rw [wrap_i64 (by omega) (by omega)]; omega, i - 2, rfl, by omega, ?_⟩
      conv => whnf
      generalize hn : nth _ _ = o
      obtain rfl : o = some (sl32 xb) := hn.symm.trans (by rw [← hxb]; exact ld (by omega))
      clear hn
      refine ⟨by omega, _, shr32 xb 10 (by omega), ?_⟩
      refine call_pu (fun β w' hs => turn_c w' xb 17 (by omega) (by omega)) ?_
      refine ⟨Sub.refl, ?_⟩
      refine call_pu (fun β w' hs => turn_c w' xb 19 (by omega) (by omega)) ?_
      refine ⟨Sub.refl, _, xor32 _ _, _, xor32 _ _, ?_⟩
      refine draw_rule g p_ostiaryref01_Step_9 (by kernel_rfl) _ _ Sub.refl ?_
      refine ⟨((i - 7 : Nat) : Int), by rw [wrap_i64 (by omega) (by omega)]; omega, i - 7, rfl, by omega, ?_⟩
      conv => whnf
      generalize hn : nth _ _ = o
      obtain rfl : o = some (sl32 ((sched l i).getD (i - 7) 0)) := hn.symm.trans (ld (by omega))
      clear hn
      refine ⟨_, add32 _ _, _, add32 _ _, ?_⟩
      refine ⟨((i - 16 : Nat) : Int), by rw [wrap_i64 (by omega) (by omega)]; omega, i - 16, rfl, by omega, ?_⟩
      conv => whnf
      generalize hn : nth _ _ = o
      obtain rfl : o = some (sl32 ((sched l i).getD (i - 16) 0)) := hn.symm.trans (ld (by omega))
      clear hn
      refine ⟨_, add32 _ _, i, rfl, by omega, ?_⟩
      conv => whnf
      generalize h1 : Nat.ble _ _ = b1
      obtain rfl : b1 = true := h1.symm.trans ble
      clear h1
      refine ⟨((i + 1 : Nat) : Int), by rw [wrap_i64 (by omega) (by omega)]; rfl, ?_⟩
      refine ⟨i + 1, by omega, by omega, Ent.mk' ⟨rfl, rfl, rfl, rfl, rfl, trivial⟩ rfl (fun β w' hs => ?_)⟩
      rw [← fin (((s1 xb + (sched l i).getD (i - 7) 0) + s0 xa) + (sched l i).getD (i - 16) 0) (by rw [if_neg h16, nxt, hxa, hxb, nxt_ac])]
      exact hs
  · have e2 : arr 64 (sched l i) = ws.map sl32 := by
      have hi64 : i = 64 := by omega
      rw [← hws, hi64]
      exact arr_full (sched_len l 64)
    clear hge hi
    rw [e2]
    clear e2
    have ldw : ∀ {k : Nat}, k < 64 → nth (ws.map sl32) (0 + k * 1) = some (sl32 (ws.getD k 0)) := fun {k} hk => by
      rw [nth_eq, Nat.zero_add, Nat.mul_one, List.getElem?_map, List.getElem?_eq_getElem (by omega)]
      simp [List.getD, List.getElem?_eq_getElem (show k < ws.length by omega)]
    refine loop_rule (ι := Nat) 4 (fun i => [(2, .c (.p 0 0)), (4, .c (.p 1 0)), (5, .c (.p 2 0)), (9, .c (.p 3 0)), (10, .c (.v (.int .i64 i)))]) (fun i => [⟨3, 184, (rounds s ws i).l.map sl32⟩, ⟨2, 251, ws.map sl32⟩, ⟨1, 184, ti184.zero.map SL.v⟩, ⟨0, 184, s.l.map sl32⟩]) (fun _ => [bsF A l, oddF 3, oldF w])
      (fun i => i ≤ 64) (fun i => 64 - i) 0 (Nat.zero_le _) (Ent.same ⟨rfl, rfl, rfl, rfl, rfl, trivial⟩ rfl) g ?_
    intro j hj
    obtain ⟨r, hr⟩ : ∃ r, rounds s ws j = r := ⟨_, rfl⟩
    rw [hr]
    obtain ⟨xa, xb, xc, xd, xe, xf, xg, xh⟩ := r
    refine BIf.dec (fun hlt => ?_) (fun hge => ?_)
    · have hlt : j < 64 := by omega
      refine ⟨4, rfl, by decide, ?_⟩
      refine draw_rule g p_ostiaryref01_Step_15 (by kernel_rfl) _ _ Sub.refl ?_
      refine ⟨7, rfl, by decide, 5, rfl, by decide, _, and32 _ _, _, not32 _, 6, rfl, by decide, _, and32 _ _, _, xor32 _ _, ?_⟩
      refine ⟨j, rfl, hlt, u32 (K.getD j 0), fun β w' hs => odd_cell3 (hs.get 1 rfl) hlt, j, rfl, hlt, ?_⟩
      conv => whnf
      generalize hn : nth _ _ = o
      obtain rfl : o = some (sl32 (ws.getD j 0)) := hn.symm.trans (ldw hlt)
      clear hn
      refine call_pu (fun β w' hs => turn_c w' xe 6 (by omega) (by omega)) ?_
      refine ⟨Sub.refl, ?_⟩
      refine call_pu (fun β w' hs => turn_c w' xe 11 (by omega) (by omega)) ?_
      refine ⟨Sub.refl, _, xor32 _ _, ?_⟩
      refine call_pu (fun β w' hs => turn_c w' xe 25 (by omega) (by omega)) ?_
      refine ⟨Sub.refl, _, xor32 _ _, _, add32 _ _, _, add32 _ _, _, add32 _ _, _, add32 _ _, ?_⟩
      refine ⟨0, rfl, by decide, ?_⟩
      refine draw_rule g p_ostiaryref01_Step_17 (by kernel_rfl) _ _ Sub.refl ?_
      refine ⟨1, rfl, by decide, _, and32 _ _, 2, rfl, by decide, _, and32 _ _, _, xor32 _ _, 1, rfl, by decide, 2, rfl, by decide, _, and32 _ _, _, xor32 _ _, ?_⟩
      refine call_pu (fun β w' hs => turn_c w' xa 2 (by omega) (by omega)) ?_
      refine ⟨Sub.refl, ?_⟩
      refine call_pu (fun β w' hs => turn_c w' xa 13 (by omega) (by omega)) ?_
      refine ⟨Sub.refl, _, xor32 _ _, ?_⟩
      refine call_pu (fun β w' hs => turn_c w' xa 22 (by omega) (by omega)) ?_
      refine ⟨Sub.refl, _, xor32 _ _, _, add32 _ _, ?_⟩
      refine ⟨_, add32 _ _, 0, rfl, by decide, 1, rfl, by decide, 2, rfl, by decide, 3, rfl, by decide, _, add32 _ _, 4, rfl, by decide, 5, rfl, by decide, 6, rfl, by decide, ?_⟩
      refine ⟨((j + 1 : Nat) : Int), by rw [wrap_i64 (by omega) (by omega)]; rfl, ?_⟩
      refine ⟨j + 1, by omega, by omega, Ent.mk' ⟨rfl, rfl, rfl, rfl, rfl, trivial⟩ rfl (fun β w' hs => ?_)⟩
      have e1 : (rounds s ws (j + 1)).l.map sl32 = (⟨(⟨xa, xb, xc, xd, xe, xf, xg, xh⟩ : S8).x (K.getD j 0) (ws.getD j 0) + ((⟨xa, xb, xc, xd, xe, xf, xg, xh⟩ : S8).y + (⟨xa, xb, xc, xd, xe, xf, xg, xh⟩ : S8).z), xa, xb, xc, xd + (⟨xa, xb, xc, xd, xe, xf, xg, xh⟩ : S8).x (K.getD j 0) (ws.getD j 0), xe, xf, xg⟩ : S8).l.map sl32 := by
        rw [rounds_succ, hr, S8.round, UInt32.add_assoc]
      rw [e1]
      exact hs
    · obtain ⟨t, ht⟩ : ∃ t, (⟨xa, xb, xc, xd, xe, xf, xg, xh⟩ : S8) = t := ⟨_, rfl⟩
      have hst : rounds s ws 64 = t := by
        have : j = 64 := by omega
        rw [← ht, ← hr, this]
      rw [hst, ht]
      clear hst ht hr hge hj
      refine loop_rule (ι := Nat) 4 (fun i => [(2, .c (.p 0 0)), (4, .c (.p 1 0)), (9, .c (.p 3 0)), (165, .c (.v (.int .i64 i)))]) (fun i => [⟨3, 184, t.l.map sl32⟩, ⟨2, 251, ws.map sl32⟩, ⟨1, 184, ti184.zero.map SL.v⟩, ⟨0, 184, mix s t i⟩]) (fun _ => [bsF A l, oddF 3, oldF w])
        (fun i => i ≤ 8) (fun i => 8 - i) 0 (Nat.zero_le _) (Ent.same ⟨rfl, rfl, rfl, rfl, trivial⟩ rfl) g ?_
      intro j hj
      refine BIf.dec (fun hlt => ?_) (fun hge => ?_)
      · have hlt : j < 8 := by omega
        refine draw_rule g p_ostiaryref01_Step_22 (by kernel_rfl) _ _ Sub.refl ?_
        refine ⟨j, rfl, hlt, ?_⟩
        conv => whnf
        generalize hn : nth _ _ = o
        obtain rfl : o = some (sl32 (s.l.getD j 0)) := hn.symm.trans (by
          show nth (mix s t j) (0 + j * 1) = _
          rw [Nat.zero_add, Nat.mul_one]
          exact mix_get s t j hlt)
        clear hn
        refine ⟨j, rfl, hlt, ?_⟩
        conv => whnf
        generalize hn : nth _ _ = o
        obtain rfl : o = some (sl32 (t.l.getD j 0)) := hn.symm.trans (by
          show nth (t.l.map sl32) (0 + j * 1) = _
          rw [Nat.zero_add, Nat.mul_one, nth_eq]
          exact l_get t j hlt)
        clear hn
        refine ⟨_, add32 _ _, j, rfl, hlt, ?_⟩
        conv => whnf
        generalize h1 : Nat.ble _ _ = b1
        obtain rfl : b1 = true := h1.symm.trans (by
          show Nat.ble (0 + j * 1 + 1) (mix s t j).length = true
          rw [mix_len s t j (by omega), Nat.ble_eq]; omega)
        clear h1
        refine ⟨((j + 1 : Nat) : Int), by rw [wrap_i64 (by omega) (by omega)]; rfl, ?_⟩
        refine ⟨j + 1, by omega, by omega, Ent.mk' ⟨rfl, rfl, rfl, rfl, trivial⟩ rfl (fun β w' hs => ?_)⟩
        have e3 : 0 + j * 1 = j := by omega
        rw [← mix_set s t j hlt]
        have hs2 : Sat (cx_ostiaryref01_Step w (Un [])) β 4 [⟨3, 184, t.l.map sl32⟩, ⟨2, 251, ws.map sl32⟩, ⟨1, 184, ti184.zero.map SL.v⟩, ⟨0, 184, putAll (mix s t j) (0 + j * 1) [sl32 (s.l.getD j 0 + t.l.getD j 0)]⟩] [bsF A l, oddF 3, oldF w] w' := hs
        rw [e3] at hs2
        exact hs2
      · obtain rfl : j = 8 := by omega
        intro β w' hs
        exact hs.fin [] ⟨rfl, rfl⟩
end Go.Proofs.YthkjfepbmnabkaaGreatDoor.Sx

/- The document's sum. -/
namespace Go.Proofs.YthkjfepbmnabkaaGreatDoor.Sx
open Go Sha
attribute [local irreducible] Calls

theorem rstep64_c (w : World) (s : S8) (A : Option Addr) (x : List UInt8) (c : Nat) (hx : x.length = 64) (hr : Bs w A x) (hk : (oddF 3).p w) (hc : 64 ≤ c) (hm : c ≤ maxLen) :
    Pu Tryz.prog n_ostiaryref01_Step #[stV s, .slice A 64 c] w (stV (Sha.step s x)) := by
  have := rstep_c w s A x c hr hk (by omega) (by omega) hm
  rw [hx] at this
  exact this
theorem rgo_c (w : World) (s : S8) (A : Option Addr) (l : List UInt8) (c : Nat) (hr : Bs w A l) (hk : (oddF 3).p w) (hc : l.length ≤ c) (hm : c ≤ maxLen) :
    Con Tryz.prog n_ostiaryref01_Go #[stV s, .slice A l.length c] w [] fun v Fs => ∃ A' n' c', v = .tuple #[stV (go (l.length / 64) s l), .slice A' n' c'] ∧ Fs = [] := by
  have g := good_ostiaryref01_Go w (Un [])
  rw [go_eq]
  have hs0 : Sat (cx_ostiaryref01_Go w (Un [])) Va.z 0 [] [oldF w] w := old_sat rfl
  have hs1 : Sat (cx_ostiaryref01_Go w (Un [])) Va.z 0 [] [bsF A l, oddF 3, oldF w] w := (hs0.sub 0 rfl rfl (oddF 3) rfl hk (rd_lt hk)).sub 1 rfl rfl (bsF A l) rfl hr (rd_lt hr)
  have hm' := hm
  rw [maxLen_eq] at hm'
  refine con_of_sx (cx := cx_ostiaryref01_Go w (Un [])) g b_ostiaryref01_Go rfl rfl (β := Va.z) [.agg (s.l.map sl32), .c (.v (.slice A l.length c))] 0 [] [bsF A l, oddF 3, oldF w] rfl rfl hs1 ?_
  refine loop_rule (ι := Nat × Option Addr × Nat) 2 (fun i => [(1, .c (.v (.slice i.2.1 (l.length - 64 * i.1) i.2.2))), (2, .c (.p 0 0)), (4, .c (.p 1 0))]) (fun i => [⟨1, 184, ti184.zero.map SL.v⟩, ⟨0, 184, ((blks l i.1).foldl Sha.step s).l.map sl32⟩]) (fun _ => [bsF A l, oddF 3, oldF w])
    (fun i => 64 * i.1 ≤ l.length ∧ l.length - 64 * i.1 ≤ i.2.2 ∧ i.2.2 ≤ 9223372036854775807 ∧ (∀ w, Bs w A l → Bs w i.2.1 (l.drop (64 * i.1)))) (fun i => l.length - 64 * i.1) (0, A, c)
    ⟨Nat.zero_le _, hc, hm', fun w h => h⟩ (Ent.same ⟨rfl, rfl, rfl, trivial⟩ rfl) g ?_
  rintro ⟨i, B, cap⟩ ⟨hi, hcap, hcm, hB⟩
  simp only at hi hcap hcm hB
  obtain ⟨m, hm2⟩ : ∃ m, l.length - 64 * i = m := ⟨_, rfl⟩
  have hmc : m ≤ cap := by omega
  rw [hm2]
  have hdl : (l.drop (64 * i)).length = m := by rw [List.length_drop]; omega
  obtain ⟨st, hst⟩ : ∃ st, (blks l i).foldl Sha.step s = st := ⟨_, rfl⟩
  rw [hst]
  refine BIf.dec (fun h0 => ?_) (fun h0 => ?_)
  · have hm64 : 64 ≤ m := by omega
    have hbl : (blk l i).length = 64 := by unfold blk; rw [List.length_take, hdl]; omega
    have hS : ∀ {H : List Bk} {n : Nat}, Sub (cx_ostiaryref01_Go w (Un [])) n H [bsF A l, oddF 3, oldF w] [] [bsF A l, oddF 3, oldF w] := fun {H n} => Sub.of (List.nil_sublist _) (List.Sublist.refl _)
    refine draw_rule g p_ostiaryref01_Go_2 (by kernel_rfl) [] [bsF A l, oddF 3, oldF w] hS ?_
    refine ⟨cap, 64, 0, 64, cap, _, rfl, rfl, rfl, Nat.le_refl _, by show 64 ≤ cap; omega, by omega, rfl, rfl, rfl, ?_⟩
    refine ⟨cap, m, 64, m - 64, cap - 64, _, rfl, rfl, rfl, Nat.le_refl _, hmc, hm64, rfl, rfl, rfl, ?_⟩
    refine ⟨hS, ?_⟩
    refine call_pu (fun β w' hs => rstep64_c w' st (cutA B cap 0 1) (blk l i) cap hbl ?_ (hs.get 1 rfl) (by omega) (by rw [maxLen_eq]; exact hcm)) ?_
    · have h7 := Bs.cut (hB w' (hs.get 0 rfl)) (c := cap) (m := cap) (i := 0) (j := 64) (by omega) (.inl rfl) (by omega) (by omega) (by omega)
      have h8 : Rd 1 (cutA B cap 0 1) (blk l i).length ((blk l i).map byte) w' := by rw [hbl]; exact h7
      exact h8
    refine ⟨hS, ?_⟩
    refine ⟨hS, ?_⟩
    refine ⟨(i + 1, cutA B cap 64 1, cap - 64), ⟨by show 64 * (i + 1) ≤ _; omega, by show l.length - 64 * (i + 1) ≤ cap - 64; omega, by show cap - 64 ≤ _; omega, fun w' h => ?_⟩, by show l.length - 64 * (i + 1) < m; omega, Ent.mk' ⟨?_, rfl, rfl, trivial⟩ rfl (fun β w' hs => ?_)⟩
    · have h7 := Bs.cutB (hB w' h) (c := cap) (i := 64) (j := m) (m := l.drop (64 * (i + 1))) (by omega) hm64 (by omega) (by
        rw [List.drop_drop, show 64 * i + 64 = 64 * (i + 1) by omega, List.take_of_length_le]
        rw [List.length_drop]; omega)
      exact h7
    · show _ = some (SV.c (.v (.slice _ (l.length - 64 * (i + 1)) _)))
      rw [show l.length - 64 * (i + 1) = m - 64 by omega]
      rfl
    · rw [blks_succ, List.foldl_append, hst]
      exact hs
  · have hi2 : i = l.length / 64 := by omega
    intro β w' hs
    rw [← hi2, hst]
    exact hs.fin [] ⟨B, m, cap, rfl, rfl⟩

theorem rsum_c (w : World) (A : Option Addr) (l : List UInt8) (c : Nat) (hr : Bs w A l) (hk : (oddF 3).p w) (hn : l.length ≤ 70368744177664) :
    Con Tryz.prog n_ostiaryref01_Sum #[.slice A l.length c] w [] fun v Fs => ∃ A' c', v = .slice A' 32 c' ∧ 32 ≤ c' ∧ c' ≤ maxLen ∧ Fs = [browF ty_uint8 A' (Sha.sum l) c'] := by
  have g := good_ostiaryref01_Sum w (Un [])
  have hs0 : Sat (cx_ostiaryref01_Sum w (Un [])) Va.z 0 [] [oldF w] w := old_sat rfl
  have hs1 : Sat (cx_ostiaryref01_Sum w (Un [])) Va.z 0 [] [bsF A l, oddF 3, oldF w] w := (hs0.sub 0 rfl rfl (oddF 3) rfl hk (rd_lt hk)).sub 1 rfl rfl (bsF A l) rfl hr (rd_lt hr)
  refine con_of_sx (cx := cx_ostiaryref01_Sum w (Un [])) g b_ostiaryref01_Sum rfl rfl (β := Va.z) [.c (.v (.slice A l.length c))] 0 [] [bsF A l, oddF 3, oldF w] rfl rfl hs1 ?_
  obtain ⟨q, hq⟩ : ∃ q, l ++ ends l.length = q := ⟨_, rfl⟩
  have hql : q.length = l.length + (ends l.length).length := by rw [← hq, List.length_append]
  have hel : (ends l.length).length < 73 := by rw [Sha.ends_len]; unfold zeros; omega
  have hsum : Sha.sum l = out (go (q.length / 64) Sha.first q) := by rw [← hq]; rfl
  rw [hsum]
  refine call_pu (fun β w' hs => first_c w') ?_
  intro b
  refine ⟨0, 0, l.length, [], l.map byte, _, rfl, fun β w' hs => hs.get 1 rfl, bytes_one l, Nat.zero_add _, rfl, by rw [maxLen_eq]; omega, by show l.length * 1 ≤ _; omega, ?_⟩
  intro A1 c1 h1 h2 _
  refine ⟨(l.length : Int), by rw [wrap_u64']; omega, ?_⟩
  refine call_con [] (fun β w' hs => tail_c w' l.length (by omega)) ?_
  rintro v Fs ⟨A2, c2, rfl, h3, h4, rfl⟩
  refine ⟨1, l.length, q.length, _, (ends l.length).map byte, q.map byte, rfl, fun β w hs => row_rd (hs.get 0 rfl), bytes_one _, hql.symm, by rw [← hq, List.map_append]; rfl, by rw [maxLen_eq]; omega, by show q.length * 1 ≤ _; omega, ?_⟩
  intro A3 c3 h5 h6 _
  refine call_con [] (fun β w' hs => rgo_c w' Sha.first A3 q c3 (row_rd (hs.get 1 rfl)) (hs.get 3 rfl) h5 h6) ?_
  rintro v Fs ⟨A4, n4, c4, rfl, rfl⟩
  generalize go (q.length / 64) Sha.first q = st
  refine call_con [] (fun β w' hs => out_c w' st) ?_
  rintro v Fs ⟨A5, c5, rfl, h7, h8, rfl⟩
  intro β w' hs
  exact (hs.keepB (List.nil_sublist _)).fin [0] ⟨A5, c5, rfl, h7, h8, rfl⟩
end Go.Proofs.YthkjfepbmnabkaaGreatDoor.Sx

/- Texts as bytes. -/
namespace Go.Proofs.YthkjfepbmnabkaaGreatDoor.Sx
open Go Sha
attribute [local irreducible] Calls

def bl_ (s : ByteArray) : List UInt8 := s.data.toList
end Go.Proofs.YthkjfepbmnabkaaGreatDoor.Sx

/- Secrets compared; texts cut; bytes compared. -/
namespace Go.Proofs.YthkjfepbmnabkaaGreatDoor.Sx
open Go Sha
attribute [local irreducible] Calls

theorem cutText_c (w : World) (s : ByteArray) (k : Nat) (hs : s.size ≤ maxLen) (hk : k ≤ 1000) : Pu Tryz.prog n_ostiaryref01_CutText #[.string s, .int .i64 k] w (.string (s.extract 0 (min s.size k))) := by
  refine pu_of (calls_of_sx (cx := cx_ostiaryref01_CutText w None_) (good_ostiaryref01_CutText w None_) b_ostiaryref01_CutText rfl rfl (β := Va.z) [.c (.v (.string s)), .c (.v (.int .i64 k))] 0 [] [] rfl rfl (Sat.start rfl) ?_)
  refine ⟨((min s.size k : Nat) : Int), by dsimp only; omega, ?_⟩
  refine ⟨min s.size k, 0, rfl, rfl, by omega, Nat.zero_le _, ?_⟩
  intro β w' hs
  exact ⟨rfl, hs.chg⟩

/-- A secret as it lies in memory. -/
structure SecA where
  A0 : Option Addr
  A1 : Option Addr
  A2 : Option Addr
  A3 : Option Addr
  c0 : Nat
  c1 : Nat
  c2 : Nat
  c3 : Nat
  s0 : List UInt8
  s1 : List UInt8
  s2 : List UInt8
  s3 : List UInt8
  it : Int
def SecA.val (x : SecA) : Value := .agg #[.slice x.A0 x.s0.length x.c0, .int .i64 x.it, .slice x.A1 x.s1.length x.c1, .slice x.A2 x.s2.length x.c2, .slice x.A3 x.s3.length x.c3]
def SecA.cells (x : SecA) : List SL := [.v (.slice x.A0 x.s0.length x.c0), .v (.int .i64 x.it), .v (.slice x.A1 x.s1.length x.c1), .v (.slice x.A2 x.s2.length x.c2), .v (.slice x.A3 x.s3.length x.c3)]
structure SecA.Rd (x : SecA) (w : World) : Prop where
  h0 : Bs w x.A0 x.s0
  h1 : Bs w x.A1 x.s1
  h2 : Bs w x.A2 x.s2
  h3 : Bs w x.A3 x.s3

theorem salted_c (w : World) (A : Option Addr) (n c : Nat) (i : Int) : Pu Tryz.prog n_ostiaryref14_salted #[.slice A n c, .int .i64 i] w (.bool (decide (0 < n ∧ n ≤ 32 ∧ 0 < i ∧ i ≤ 64))) := by
  refine pu_of (calls_of_sx (cx := cx_ostiaryref14_salted w None_) (good_ostiaryref14_salted w None_) b_ostiaryref14_salted rfl rfl (β := Va.z) [.c (.v (.slice A n c)), .c (.v (.int .i64 i))] 0 [] [] rfl rfl (Sat.start rfl) ?_)
  refine BIf.dec (fun q0 => ?_) (fun q0 => ?_)
  · refine BIf.dec (fun q1 => ?_) (fun q1 => ?_)
    · refine BIf.dec (fun q2 => ?_) (fun q2 => ?_)
      · intro β w' hs
        refine ⟨?_, hs.chg⟩
        show Value.bool (decide (i ≤ 64)) = _
        congr 1
        exact decide_eq_decide.2 ⟨fun h => ⟨by omega, by omega, q2, h⟩, fun h => h.2.2.2⟩
      · intro β w' hs
        refine ⟨?_, hs.chg⟩
        show Value.bool false = _
        congr 1
        exact (decide_eq_false (fun h => q2 h.2.2.1)).symm
    · intro β w' hs
      refine ⟨?_, hs.chg⟩
      show Value.bool false = _
      congr 1
      exact (decide_eq_false (fun h => q1 (by have := h.2.1; omega))).symm
  · intro β w' hs
    refine ⟨?_, hs.chg⟩
    show Value.bool false = _
    congr 1
    exact (decide_eq_false (fun h => q0 (by have := h.1; omega))).symm

end Go.Proofs.YthkjfepbmnabkaaGreatDoor.Sx

/- Bytes compared without haste. -/
namespace Go.Proofs.YthkjfepbmnabkaaGreatDoor.Sx
open Go Sha
attribute [local irreducible] Calls

theorem ofInt8 (a : UInt8) : BitVec.ofInt 8 (a.toNat : Int) = a.toBitVec := by
  apply BitVec.eq_of_toNat_eq
  rw [BitVec.toNat_ofInt]
  have := a.toNat_lt
  have e : a.toBitVec.toNat = a.toNat := rfl
  rw [e]
  omega
theorem back8 (x : BitVec 8) : IntKind.u8.wrap (x.toNat : Int) = ((UInt8.ofBitVec x).toNat : Int) := by
  rw [wrap_u8]
  have := x.isLt
  have e : (UInt8.ofBitVec x).toNat = x.toNat := rfl
  rw [e]
  omega
theorem xor8 (a b : UInt8) : bits .xor .u8 (a.toNat : Int) (b.toNat : Int) = ((a ^^^ b).toNat : Int) := by
  show IntKind.u8.wrap (((BitVec.ofInt 8 (a.toNat : Int)) ^^^ (BitVec.ofInt 8 (b.toNat : Int))).toNat : Int) = _
  rw [ofInt8, ofInt8, back8]
  rfl
theorem or8 (a b : UInt8) : bits .or .u8 (a.toNat : Int) (b.toNat : Int) = ((a ||| b).toNat : Int) := by
  show IntKind.u8.wrap (((BitVec.ofInt 8 (a.toNat : Int)) ||| (BitVec.ofInt 8 (b.toNat : Int))).toNat : Int) = _
  rw [ofInt8, ofInt8, back8]
  rfl

end Go.Proofs.YthkjfepbmnabkaaGreatDoor.Sx

/- Signs: the program's decoding. -/
namespace Go.Proofs.YthkjfepbmnabkaaGreatDoor.Sx
open Go
attribute [local irreducible] Calls

theorem and8 (a b : UInt8) : bits .and .u8 (a.toNat : Int) (b.toNat : Int) = ((a &&& b).toNat : Int) := by
  show IntKind.u8.wrap (((BitVec.ofInt 8 (a.toNat : Int)) &&& (BitVec.ofInt 8 (b.toNat : Int))).toNat : Int) = _
  rw [ofInt8, ofInt8, back8]
  rfl
theorem andNot8 (a b : UInt8) : bits .andNot .u8 (a.toNat : Int) (b.toNat : Int) = ((a &&& ~~~b).toNat : Int) := by
  show IntKind.u8.wrap (((BitVec.ofInt 8 (a.toNat : Int)) &&& ~~~(BitVec.ofInt 8 (b.toNat : Int))).toNat : Int) = _
  rw [ofInt8, ofInt8, back8]
  rfl
theorem wrap_i32 {x : Int} (h1 : -2147483648 ≤ x) (h2 : x ≤ 2147483647) : IntKind.i32.wrap x = x := by
  simp only [IntKind.wrap, IntKind.bits, IntKind.signed]
  simp
  omega
theorem cont_eq (b : UInt8) : ((b &&& ~~~63).toNat : Int) = 128 ↔ b.toNat / 64 = 2 := by
  have h : ∀ n : _root_.Fin 256, (((UInt8.ofNat n.1) &&& ~~~63).toNat = 128 ↔ (UInt8.ofNat n.1).toNat / 64 = 2) := by decide +kernel
  have h2 : (b &&& ~~~63).toNat = 128 ↔ b.toNat / 64 = 2 := Nam.u8_all (p := fun b => (b &&& ~~~63).toNat = 128 ↔ b.toNat / 64 = 2) h b
  omega
theorem low_eq (b : UInt8) : (b &&& 63).toNat = b.toNat % 64 := by
  have h : ∀ n : _root_.Fin 256, ((UInt8.ofNat n.1) &&& 63).toNat = (UInt8.ofNat n.1).toNat % 64 := by decide +kernel
  exact Nam.u8_all (p := fun b => (b &&& 63).toNat = b.toNat % 64) h b
theorem shl6_i32 {x : Nat} (hx : x < 33554432) : IntKind.i32.wrap ((x : Int) * 2 ^ (min (6 : Int).toNat IntKind.i32.bits)) = ((x * 64 : Nat) : Int) := by
  have h1 : min (6 : Int).toNat IntKind.i32.bits = 6 := rfl
  rw [h1, wrap_i32 (by omega) (by omega)]
  omega
theorem or6_i32 {x y : Nat} (hx : x < 33554432) (hy : y < 64) : bits .or .i32 ((x * 64 : Nat) : Int) (y : Int) = ((x * 64 + y : Nat) : Int) := by
  show IntKind.i32.wrap (((BitVec.ofInt 32 ((x * 64 : Nat) : Int)) ||| (BitVec.ofInt 32 (y : Int))).toNat : Int) = _
  have h1 : (BitVec.ofInt 32 ((x * 64 : Nat) : Int)).toNat = x <<< 6 := by
    rw [BitVec.toNat_ofInt, Nat.shiftLeft_eq]
    omega
  have h2 : (BitVec.ofInt 32 (y : Int)).toNat = y := by
    rw [BitVec.toNat_ofInt]
    omega
  rw [BitVec.toNat_or, h1, h2, ← Nat.shiftLeft_add_eq_or_of_lt (by omega) x, Nat.shiftLeft_eq, wrap_i32 (by omega) (by omega)]
theorem sign_c (w : World) (z : Int) (r : Nat) (hz : z = (r : Int)) : Pu Tryz.prog n_name_sign #[.int .i32 z] w (.bool (Nam.sign r)) := by
  refine con_of_sx (cx := cx_name_sign w (Un [])) (good_name_sign w (Un [])) b_name_sign rfl rfl (β := Va.z) [.c (.v (.int .i32 z))] 0 [] [] rfl rfl (Sat.start rfl) ?_
  have fin : ∀ (b : Bool), b = Nam.sign r → ∀ {n : Nat} {H : List Bk} {F : List Fact} (β : Va) (w' : World), Sat (cx_name_sign w (Un [])) β n H F w' → Fin w [] (fun u Fs => u = .bool (Nam.sign r) ∧ Fs = []) (.bool b) w' := by
    rintro b rfl n H F β w' hs
    exact (hs.keepB (List.nil_sublist _)).fin [] ⟨rfl, rfl⟩
  refine BIf.dec (fun h0 => ?_) (fun h0 => ?_)
  · refine BIf.dec (fun h1 => ?_) (fun h1 => ?_)
    · have h1' : z ≤ 1114111 := h1
      refine BIf.dec (fun h2 => ?_) (fun h2 => ?_)
      · have h2' : z < 55296 := h2
        refine fin true ?_
        unfold Nam.sign
        rw [decide_eq_true (by omega : r ≤ 1114111), decide_eq_true (by omega : r < 55296)]; rfl
      · have h2' : ¬ z < 55296 := h2
        refine fin (decide ((57343 : Int) < z)) ?_
        unfold Nam.sign
        rw [decide_eq_true (by omega : r ≤ 1114111), decide_eq_false (by omega : ¬ r < 55296), Bool.true_and, Bool.false_or]
        exact decide_eq_decide.2 (by omega)
    · have h1' : ¬ z ≤ 1114111 := h1
      refine fin false ?_
      unfold Nam.sign
      rw [decide_eq_false (by omega : ¬ r ≤ 1114111)]; rfl
  · have h0' : ¬ (0 : Int) ≤ z := h0
    omega
end Go.Proofs.YthkjfepbmnabkaaGreatDoor.Sx

/- Signs: decoded. -/
namespace Go.Proofs.YthkjfepbmnabkaaGreatDoor.Sx
open Go
attribute [local irreducible] Calls

def formV (f : Nam.Fm) : List Value := [.int .i64 (f.size : Int), byte f.mask, byte f.lead, .int .i32 (f.least : Int)]
def formCells : List Value := Nam.fms.flatMap formV
/-- The table of forms. -/
def Forms (g : Nat) (w : World) : Prop := Rd 16 (some ⟨g, 0, none⟩) 1 formCells w
theorem Forms.old {g : Nat} {W w : World} (h : Forms g W) (ho : (oldF W).p w) : Forms g w := Rd.old h ho
def runeI : Option Nat → Int
  | some r => (r : Int)
  | none => -1
theorem form_at : ∀ {i : Nat} {f : Nam.Fm}, Nam.fms[i]? = some f → ((formCells.map SL.v).drop (i * 4)).take 4 = (formV f).map SL.v
  | 0, f, h => by cases h; rfl
  | 1, f, h => by cases h; rfl
  | 2, f, h => by cases h; rfl
  | 3, f, h => by cases h; rfl
  | n + 4, f, h => by simp [Nam.fms] at h
theorem tailR_snoc (b : UInt8) : ∀ (l : List UInt8) (r : Nat), Nam.tailR (l ++ [b]) r = match Nam.tailR l r with
    | some q => if b.toNat / 64 = 2 then some (q * 64 + b.toNat % 64) else none
    | none => none
  | [], r => rfl
  | x :: t, r => by
    simp only [List.cons_append, Nam.tailR]
    split
    · exact tailR_snoc b t _
    · rfl
theorem form_size {f : Nam.Fm} (h : f ∈ Nam.fms) : 1 ≤ f.size ∧ f.size ≤ 4 ∧ f.least ≤ 65536 := by
  simp only [Nam.fms, List.mem_cons, List.not_mem_nil, or_false] at h
  rcases h with rfl | rfl | rfl | rfl <;> decide
theorem decode_c (w : World) (s : ByteArray) (b0 : UInt8) (t : List UInt8) (hs0 : s.data.toList = b0 :: t) (hsz : s.size ≤ maxLen) (hf : Forms 7 w) :
    Pu Tryz.prog n_name_decode #[.string s] w (.tuple #[.int .i32 (runeI (Nam.decL (b0 :: t)).1), .int .i64 ((Nam.decL (b0 :: t)).2 : Int)]) := by
  have g := good_name_decode w (Un [])
  have hlen : s.size = (b0 :: t).length := by rw [← hs0]; rfl
  have hml := maxLen_eq
  refine con_of_sx (cx := cx_name_decode w (Un [])) g b_name_decode rfl rfl (β := Va.z) [.c (.v (.string s))] 0 [] [oldF w] rfl rfl (old_sat rfl) ?_
  refine ⟨formCells, rfl, fun β w' hs => ?_, ?_⟩
  · intro j u hu
    obtain ⟨ad, q, hc⟩ := (Forms.old hf (hs.get 0 rfl)).2 (by decide)
    cases q
    exact hc j u hu
  have bad : Nam.decL (b0 :: t) = (none, 1) → ∀ {n : Nat} {H : List Bk} {F : List Fact} (β : Va) (w' : World), Sat (cx_name_decode w (Un [])) β n H F w' → Fin w [] (fun u Fs => u = .tuple #[.int .i32 (runeI (Nam.decL (b0 :: t)).1), .int .i64 ((Nam.decL (b0 :: t)).2 : Int)] ∧ Fs = []) (.tuple #[.int .i32 (-1), .int .i64 1]) w' := by
    intro h n H F β w' hs
    rw [h]
    exact (hs.keepB (List.nil_sublist _)).fin [] ⟨rfl, rfl⟩
  refine loop_rule 0 (fun i : Nat => [(0, .c (.v (.string s))), (8, .agg (formCells.map SL.v)), (9, .c (.v (.int .i64 (i : Int))))]) (fun _ => []) (fun _ => [oldF w])
    (fun i => i ≤ 4 ∧ ∀ f ∈ Nam.fms.take i, Nam.fits f (b0 :: t) = false) (fun i => 4 - i) 0 ⟨Nat.zero_le _, fun f h => by cases h⟩ (Ent.same ⟨rfl, rfl, rfl, trivial⟩ rfl) g ?_
  rintro i ⟨hi, hno⟩
  have next : ∀ {f : Nam.Fm}, Nam.fms[i]? = some f → Nam.fits f (b0 :: t) = false → ∀ f ∈ Nam.fms.take (i + 1), Nam.fits f (b0 :: t) = false := by
    intro f hfi hff f' hf'
    rw [List.take_add_one, hfi] at hf'
    rcases List.mem_append.1 hf' with q | q
    · exact hno f' q
    · obtain rfl : f' = f := by simpa using q
      exact hff
  refine BIf.dec (fun hlt => ?_) (fun hge => ?_)
  · have hlt0 : (i : Int) < 4 := hlt
    have hi4 : i < Nam.fms.length := by show i < 4; omega
    obtain ⟨f, hfi, hfm⟩ := at_lt hi4
    have hfs := form_size hfm
    refine ⟨i, (formV f).map SL.v, rfl, by omega, form_at hfi, ?_⟩
    have hS : ∀ {n : Nat} {F : List Fact}, Sub (cx_name_decode w (Un [])) n [⟨0, ty_name_form, (formV f).map SL.v⟩] F [⟨0, ty_name_form, (formV f).map SL.v⟩] [] := fun {n F} => Sub.of (List.Sublist.refl _) (List.nil_sublist _)
    have hb0 : s.data.toList[0]? = some b0 := by rw [hs0]; rfl
    refine draw_rule g p_name_decode_4 (by kernel_rfl) [⟨0, ty_name_form, (formV f).map SL.v⟩] [] hS ?_
    refine ⟨0, b0, rfl, hb0, ?_⟩
    refine ⟨_, and8 b0 f.mask, ?_⟩
    refine BIf.not (BIf.dec (fun hm => ?_) (fun hm => ?_))
    · have hm1 : ((b0 &&& f.mask).toNat : Int) = (f.lead.toNat : Int) := hm
      have hm2 : b0 &&& f.mask = f.lead := UInt8.toNat_inj.1 (by omega)
      refine BIf.dec (fun hsh => ?_) (fun hsh => ?_)
      · have hsh1 : (s.size : Int) < (f.size : Int) := hsh
        have hff : Nam.fits f (b0 :: t) = false := by
          simp only [Nam.fits, hm2, decide_true, Bool.true_and]
          exact decide_eq_false (by omega)
        refine ⟨((i + 1 : Nat) : Int), by rw [wrap_i64 (by omega) (by omega)]; rfl, ?_⟩
        exact ⟨i + 1, ⟨by omega, next hfi hff⟩, by omega, Ent.mk' ⟨rfl, rfl, rfl, trivial⟩ rfl (fun β w hs => (hs.keepB (List.nil_sublist _)).lower)⟩
      · have hsh1 : ¬ (s.size : Int) < (f.size : Int) := hsh
        have hfl : f.size ≤ (b0 :: t).length := by omega
        have hdec : Nam.decL (b0 :: t) = match Nam.tryF f (b0 :: t) with | some r => (some r, f.size) | none => (none, 1) := by
          unfold Nam.decL
          rw [Nam.find_form hfm hm2, if_pos hfl]
          rfl
        refine draw_rule g p_name_decode_5 (by kernel_rfl) [⟨0, ty_name_form, (formV f).map SL.v⟩] [] hS ?_
        refine ⟨0, b0, rfl, hb0, ?_⟩
        refine ⟨_, andNot8 b0 f.mask, ?_⟩
        obtain ⟨r0, hr0⟩ : ∃ r0, (b0 &&& ~~~f.mask).toNat = r0 := ⟨_, rfl⟩
        have hr0l : r0 < 256 := by rw [← hr0]; exact UInt8.toNat_lt _
        refine ⟨(r0 : Int), by rw [hr0]; exact wrap_i32 (by omega) (by omega), ?_⟩
        have hbad : Nam.tryF f (b0 :: t) = none → Nam.decL (b0 :: t) = (none, 1) := fun h => by rw [hdec, h]
        refine loop_rule (ι := Nat × Nat) 1 (fun q => [(0, .c (.v (.string s))), (5, .c (.p 0 0)), (6, .c (.v (.int .i32 (q.2 : Int)))), (7, .c (.v (.int .i64 (q.1 : Int))))]) (fun _ => [⟨0, ty_name_form, (formV f).map SL.v⟩]) (fun _ => [oldF w])
          (fun q => 1 ≤ q.1 ∧ q.1 ≤ f.size ∧ Nam.tailR (t.take (q.1 - 1)) r0 = some q.2 ∧ q.2 < 256 * 64 ^ (q.1 - 1)) (fun q => f.size - q.1) (1, r0) ⟨Nat.le_refl _, hfs.1, rfl, by simpa using hr0l⟩ (Ent.same ⟨rfl, rfl, rfl, rfl, trivial⟩ rfl) g ?_
        rintro ⟨k, r⟩ ⟨hk1, hk2, htl, hrb⟩
        simp only at hk1 hk2 htl hrb
        simp only
        refine BIf.dec (fun hks => ?_) (fun hks => ?_)
        · have hks1 : (k : Int) < (f.size : Int) := hks
          have hkt : k - 1 < t.length := by simp only [List.length_cons] at hfl; omega
          obtain ⟨c, hc, _⟩ := at_lt hkt
          have hcs : s.data.toList[k]? = some c := by
            rw [hs0]
            obtain ⟨k', rfl⟩ : ∃ k', k = k' + 1 := ⟨k - 1, by omega⟩
            simpa using hc
          have hsn : t.take k = t.take (k - 1) ++ [c] := by
            have := List.take_add_one (l := t) (i := k - 1)
            rw [hc, Nat.sub_add_cancel hk1] at this
            exact this
          have hrb2 : r < 33554432 := by
            have : 64 ^ (k - 1) ≤ 64 ^ 2 := Nat.pow_le_pow_right (by decide) (by omega)
            omega
          refine ⟨k, c, rfl, hcs, ?_⟩
          refine ⟨_, andNot8 c 63, ?_⟩
          refine BIf.not (BIf.dec (fun hct => ?_) (fun hct => ?_))
          · have hcc : c.toNat / 64 = 2 := (cont_eq c).1 hct
            refine ⟨by decide, _, shl6_i32 hrb2, ?_⟩
            refine ⟨k, c, rfl, hcs, ?_⟩
            refine ⟨_, and8 c 63, ?_⟩
            refine ⟨((c.toNat % 64 : Nat) : Int), by rw [low_eq]; exact wrap_i32 (by omega) (by omega), ?_⟩
            refine ⟨_, or6_i32 hrb2 (Nat.mod_lt _ (by decide)), ?_⟩
            refine ⟨((k + 1 : Nat) : Int), by rw [wrap_i64 (by omega) (by omega)]; rfl, ?_⟩
            refine ⟨(k + 1, r * 64 + c.toNat % 64), ⟨by show 1 ≤ k + 1; omega, by show k + 1 ≤ f.size; omega, ?_, ?_⟩, by show f.size - (k + 1) < f.size - k; omega, Ent.same ⟨rfl, rfl, rfl, rfl, trivial⟩ rfl⟩
            · show Nam.tailR (t.take (k + 1 - 1)) r0 = some (r * 64 + c.toNat % 64)
              rw [Nat.add_sub_cancel, hsn, tailR_snoc, htl]
              simp only
              rw [if_pos hcc]
            · show r * 64 + c.toNat % 64 < 256 * 64 ^ (k + 1 - 1)
              obtain ⟨k', rfl⟩ : ∃ k', k = k' + 1 := ⟨k - 1, by omega⟩
              simp only [Nat.add_sub_cancel] at hrb ⊢
              rw [Nat.pow_succ]
              omega
          · have hcc : ¬ c.toNat / 64 = 2 := fun q => hct ((cont_eq c).2 q)
            exact bad (hbad (by
              simp only [Nam.tryF]
              rw [Nam.tailR_none]
              refine ⟨c, ?_, hcc⟩
              have h2 : c ∈ t.take k := by rw [hsn]; simp
              exact List.take_subset_take_left t (by omega) h2))
        · have hks1 : ¬ (k : Int) < (f.size : Int) := hks
          obtain rfl : k = f.size := by omega
          have hmid : Nam.tryF f (b0 :: t) = if f.least ≤ r ∧ Nam.sign r = true then some r else none := by
            simp only [Nam.tryF, hr0, htl]
          refine BIf.dec (fun hls => ?_) (fun hls => ?_)
          · have hls1 : (f.least : Int) ≤ (r : Int) := hls
            refine call_pu (fun β w' hs => sign_c w' (r : Int) r rfl) ?_
            cases hsg : Nam.sign r with
            | true =>
              rw [if_pos ⟨by omega, hsg⟩] at hmid
              rw [hmid] at hdec
              refine draw_rule g p_name_decode_12 (by kernel_rfl) [⟨0, ty_name_form, (formV f).map SL.v⟩] [] hS ?_
              intro β w' hs
              rw [hdec]
              exact (hs.keepB (List.nil_sublist _)).fin [] ⟨rfl, rfl⟩
            | false => exact bad (hbad (by rw [hmid, if_neg (fun q => by rw [hsg] at q; cases q.2)]))
          · have hls1 : ¬ (f.least : Int) ≤ (r : Int) := hls
            exact bad (hbad (by rw [hmid, if_neg (fun q => hls1 (by have := q.1; omega))]))
    · have hm1 : ¬ ((b0 &&& f.mask).toNat : Int) = (f.lead.toNat : Int) := hm
      have hff : Nam.fits f (b0 :: t) = false := by
        simp only [Nam.fits]
        rw [decide_eq_false (fun q => hm1 (by rw [q]))]
        rfl
      refine ⟨((i + 1 : Nat) : Int), by rw [wrap_i64 (by omega) (by omega)]; rfl, ?_⟩
      exact ⟨i + 1, ⟨by omega, next hfi hff⟩, by omega, Ent.mk' ⟨rfl, rfl, rfl, trivial⟩ rfl (fun β w hs => (hs.keepB (List.nil_sublist _)).lower)⟩
  · have hge0 : ¬ (i : Int) < 4 := hge
    have hi4 : i = 4 := by omega
    subst hi4
    refine bad ?_
    unfold Nam.decL
    rw [List.find?_eq_none.2 (fun f hf q => by rw [hno f hf] at q; cases q)]
end Go.Proofs.YthkjfepbmnabkaaGreatDoor.Sx

/- Signs: spans; the iterator of a text's signs; is it rightly written? -/
namespace Go.Proofs.YthkjfepbmnabkaaGreatDoor.Sx
open Go
attribute [local irreducible] Calls

abbrev Sp := Int × Int
def spanV (x : Sp) : List Value := [.int .i32 x.1, .int .i32 x.2]
def inSp (z : Int) (l : List Sp) : Bool := l.any fun p => decide (p.1 ≤ z) && decide (z ≤ p.2)
theorem within_c (w : World) (z : Int) (A : Option Addr) (l : List Sp) (c : Nat) (hr : Rd 2 A l.length (l.flatMap spanV) w) (hn : l.length ≤ 1000) :
    Pu Tryz.prog n_name_within #[.int .i32 z, .slice A l.length c] w (.bool (inSp z l)) := by
  have g := good_name_within w (Un [])
  refine con_of_sx (cx := cx_name_within w (Un [])) g b_name_within rfl rfl (β := Va.z) [.c (.v (.int .i32 z)), .c (.v (.slice A l.length c))] 0 [] [oldF w] rfl rfl (old_sat rfl) ?_
  refine loop_rule 0 (fun k : Nat => [(0, .c (.v (.int .i32 z))), (7, .c (.v (.slice A l.length c))), (8, .c (.v (.int .i64 l.length))), (9, .c (.v (.int .i64 (k : Int))))]) (fun _ => []) (fun _ => [oldF w])
    (fun k => k ≤ l.length ∧ inSp z (l.take k) = false) (fun k => l.length - k) 0 ⟨Nat.zero_le _, rfl⟩ (Ent.same ⟨rfl, rfl, rfl, rfl, trivial⟩ rfl) g ?_
  rintro k ⟨hk, hno⟩
  refine BIf.dec (fun hlt => ?_) (fun hge => ?_)
  · have hlt0 : (k : Int) < l.length := hlt
    have hkl : k < l.length := by omega
    obtain ⟨x, hx, hxm⟩ := at_lt hkl
    obtain ⟨ad, hA, _⟩ := hr.2 (by omega)
    have hsn : inSp z (l.take (k + 1)) = (decide (x.1 ≤ z) && decide (z ≤ x.2)) := by
      rw [List.take_add_one, hx]
      unfold inSp at hno ⊢
      rw [List.any_append, hno]
      simp
    have next : inSp z (l.take (k + 1)) = false → Ent (cx_name_within w (Un [])) 1 [(0, .c (.v (.int .i32 z))), (7, .c (.v (.slice A l.length c))), (8, .c (.v (.int .i64 l.length))), (9, .c (.v (.int .i64 ((k + 1 : Nat) : Int))))] [] [oldF w] 0 [(0, .c (.v (.int .i32 z))), (7, .c (.v (.slice A l.length c))), (8, .c (.v (.int .i64 l.length))), (9, .c (.v (.int .i64 ((k + 1 : Nat) : Int))))] [] [oldF w] := fun _ => Ent.mk' ⟨rfl, rfl, rfl, rfl, trivial⟩ rfl (fun β w hs => hs.lower)
    refine ⟨ad, k, hA, rfl, hkl, spanV x, rfl, fun β w' hs => ?_, ?_⟩
    · have h := Rd.old hr (hs.get 0 rfl)
      obtain ⟨hil, hie⟩ := List.getElem?_eq_some_iff.1 hx
      have h2 := Rd.elem (f := spanV) (fun _ => rfl) h hA hil
      rw [hie] at h2
      exact h2
    · refine BIf.dec (fun h1 => ?_) (fun h1 => ?_)
      · have h1' : x.1 ≤ z := h1
        refine BIf.dec (fun h2 => ?_) (fun h2 => ?_)
        · have h2' : z ≤ x.2 := h2
          intro β w' hs
          refine (hs.keepB (List.nil_sublist _)).fin [] ⟨?_, rfl⟩
          show Value.bool true = _
          congr 1
          refine (List.any_eq_true.2 ⟨x, hxm, ?_⟩).symm
          rw [decide_eq_true h1', decide_eq_true h2']
          rfl
        · have h2' : ¬ z ≤ x.2 := h2
          refine ⟨((k + 1 : Nat) : Int), by rw [wrap_i64 (by omega) (by omega)]; rfl, ?_⟩
          exact ⟨k + 1, ⟨hkl, by rw [hsn, decide_eq_false h2', Bool.and_false]⟩, by omega, Ent.mk' ⟨rfl, rfl, rfl, rfl, trivial⟩ rfl (fun β w hs => (hs.keepB (List.nil_sublist _)).lower)⟩
      · have h1' : ¬ x.1 ≤ z := h1
        refine ⟨((k + 1 : Nat) : Int), by rw [wrap_i64 (by omega) (by omega)]; rfl, ?_⟩
        exact ⟨k + 1, ⟨hkl, by rw [hsn, decide_eq_false h1', Bool.false_and]⟩, by omega, Ent.mk' ⟨rfl, rfl, rfl, rfl, trivial⟩ rfl (fun β w hs => (hs.keepB (List.nil_sublist _)).lower)⟩
  · have hge0 : ¬ (k : Int) < l.length := hge
    obtain rfl : k = l.length := by omega
    rw [List.take_length] at hno
    intro β w' hs
    refine hs.fin [] ⟨?_, rfl⟩
    rw [hno]
    rfl

/-! ### a text's signs, one by one -/
abbrev Rn := Nat × Int
/-- Where each sign stands, and which it is. -/
def runesAt (l : List UInt8) (i : Nat) : List Rn := if h : i < l.length then (i, runeI (Nam.decL (l.drop i)).1) :: runesAt l (i + max 1 (Nam.decL (l.drop i)).2) else []
termination_by l.length - i
decreasing_by omega
theorem runesAt_end {l : List UInt8} {i : Nat} (h : ¬ i < l.length) : runesAt l i = [] := by rw [runesAt, dif_neg h]
theorem drop_ne {l : List UInt8} {i : Nat} (h : i < l.length) : l.drop i ≠ [] := fun q => by
  have := congrArg List.length q
  rw [List.length_drop] at this
  simp at this
  omega
theorem runesAt_cons {l : List UInt8} {i : Nat} (h : i < l.length) : runesAt l i = (i, runeI (Nam.decL (l.drop i)).1) :: runesAt l (i + (Nam.decL (l.drop i)).2) := by
  have h1 := Nam.decL_size (drop_ne h)
  rw [runesAt, dif_pos h, Nat.max_eq_right h1.1]
theorem runesAt_vals (l : List UInt8) : ∀ (k i : Nat), l.length - i ≤ k → (runesAt l i).map (·.2) = (Nam.runes (l.drop i)).map runeI := by
  intro k
  induction k with
  | zero =>
    intro i h
    rw [runesAt_end (by omega), List.drop_eq_nil_of_le (by omega), Nam.runes_nil]
    rfl
  | succ k ih =>
    intro i h
    by_cases hi : i < l.length
    · have h1 := Nam.decL_size (drop_ne hi)
      rw [runesAt_cons hi, Nam.runes_cons (drop_ne hi), List.map_cons, List.map_cons, ih _ (by omega), List.drop_drop]
    · rw [runesAt_end hi, List.drop_eq_nil_of_le (by omega), Nam.runes_nil]
      rfl
def insR (t : List UInt8) (pre : List Rn) (x : Rn) (args : Array Value) (X : Fact) : Prop := args = #[.int .i64 (x.1 : Int), .int .i32 x.2] ∧ X = noF ∧ ∃ r, runesAt t 0 = pre ++ x :: r
def runesEnd (l : List UInt8) (J Jx : List Rn → Fact → Prop) (Fs : List Fact) : Prop :=
  ∃ f Fs', Fs = f :: Fs' ∧ ((∃ xs, J xs f ∧ xs = runesAt l 0 ∧ Fs' = []) ∨ (∃ pre, Jx pre f ∧ (∃ r, runesAt l 0 = pre ++ r) ∧ Fs' = []))
end Go.Proofs.YthkjfepbmnabkaaGreatDoor.Sx

/- Signs: the iterator of a text's signs; is it rightly written? -/
namespace Go.Proofs.YthkjfepbmnabkaaGreatDoor.Sx
open Go
attribute [local irreducible] Calls

def formF : Fact := rdF 16 (some ⟨7, 0, none⟩) 1 formCells
theorem extract_drop (s : ByteArray) (i : Nat) : (s.extract i s.size).data.toList = s.data.toList.drop i := by
  rw [ByteArray.data_extract, Array.toList_extract, List.extract_eq_take_drop]
  rw [List.take_of_length_le]
  rw [List.length_drop]
  exact Nat.le_refl _
theorem runes_it (l : Nat) (w : World) (bx : Nat) (s : ByteArray) (f0 R : Fact) (J Jx : List Rn → Fact → Prop) (hJ0 : J [] f0) (hJo : ∀ pre f, J pre f → f.own = true) (hRo : R.own = false) (hY : Yc Tryz.prog l J Jx R (insR s.data.toList))
    (hl : s.size ≤ 1000000) (hm : Mem w (f0 :: R :: [bkF bx ty_string [.string s], formF])) :
    Con Tryz.prog n_name_Runes_1 #[.func (.yield l) #[] #[], .pointer (some ⟨bx, 0, none⟩)] w [f0, bkF bx ty_string [.string s]] (fun _ Fs => runesEnd s.data.toList J Jx Fs) := by
  have g := good_name_Runes_1 w (Un [f0, bkF bx ty_string [.string s]]) [bx]
  have hs0 : Sat (cx_name_Runes_1 w (Un [f0, bkF bx ty_string [.string s]]) [bx]) (Va.of fun _ => bx) 1 [] (f0 :: R :: [bkF bx ty_string [.string s], formF]) w := by
    refine hm.sat rfl (fun f hf ho k hk => ?_) ⟨Nat.le_refl 1, fun i hi => by obtain rfl : i = 0 := Nat.lt_one_iff.1 hi; rfl⟩
    simp only [List.mem_cons, List.not_mem_nil, or_false] at hf
    rcases hf with rfl | rfl | rfl | rfl
    · exact ⟨_, by simp, hk⟩
    · rw [hRo] at ho; cases ho
    · exact ⟨_, by simp, hk⟩
    · cases ho
  have hs1 := hs0.toBk 2 rfl 0 Nat.zero_lt_one rfl
  have hlen : s.data.toList.length = s.size := rfl
  have hml := maxLen_eq
  refine con_of_sx (cx := cx_name_Runes_1 w (Un [f0, bkF bx ty_string [.string s]]) [bx]) g b_name_Runes_1 rfl rfl (β := Va.of fun _ => bx) [.c (.v (.func (.yield l) #[] #[])), .c (.p 0 0)] 1 _ _ rfl rfl hs1 ?_
  refine loop_rule (ι := List Rn × Nat × Fact) 1 (fun i => [(0, .c (.v (.func (.yield l) #[] #[]))), (1, .c (.p 0 0)), (3, .c (.v (.int .i64 (i.2.1 : Int))))]) (fun _ => [⟨0, ty_string, [.v (.string s)]⟩]) (fun i => [i.2.2, R, formF])
    (fun i => J i.1 i.2.2 ∧ runesAt s.data.toList 0 = i.1 ++ runesAt s.data.toList i.2.1 ∧ i.2.1 ≤ s.size) (fun i => s.size - i.2.1) ([], 0, f0) ⟨hJ0, rfl, Nat.zero_le _⟩ (Ent.same ⟨rfl, rfl, rfl, trivial⟩ rfl) g ?_
  rintro ⟨pre, i, f⟩ ⟨hJ, hsc, hi⟩
  simp only at hJ hsc hi
  have hfo := hJo _ _ hJ
  simp only
  refine BIf.dec (fun hlt => ?_) (fun hge => ?_)
  · have hlt0 : (i : Int) < s.size := hlt
    have hil : i < s.data.toList.length := by omega
    refine ⟨s.size, i, rfl, rfl, Nat.le_refl _, hi, ?_⟩
    have hd := Nam.decL_size (drop_ne hil)
    rw [List.length_drop] at hd
    rw [runesAt_cons hil] at hsc
    obtain ⟨b0, t, hbt⟩ : ∃ b0 t, s.data.toList.drop i = b0 :: t := by
      cases h : s.data.toList.drop i with
      | nil => exact absurd h (drop_ne hil)
      | cons b t => exact ⟨b, t, rfl⟩
    obtain ⟨o, n, hon⟩ : ∃ o n, Nam.decL (s.data.toList.drop i) = (o, n) := ⟨_, _, rfl⟩
    rw [hon] at hd hsc
    simp only at hd hsc
    refine call_pu (v := .tuple #[.int .i32 (runeI o), .int .i64 (n : Int)]) (fun β w' hs => by
      have h := decode_c w' (s.extract i s.size) b0 t (by rw [extract_drop, hbt]) (by rw [ByteArray.size_extract]; omega) (hs.get 2 rfl)
      rw [← hbt, hon] at h
      exact h) ?_
    refine yield_ro (X := noF) (x := (i, runeI o)) hY 0 1 rfl hJ hfo rfl hRo (by decide) (fun β => ⟨rfl, rfl, _, hsc⟩) rfl (fun β w _ => ⟨trivial, fun k hk => hk.elim, fun k _ h => h.elim⟩) ?_ ?_
    · intro f2 hfo2 hJ2
      refine ⟨((i + n : Nat) : Int), by rw [wrap_i64 (by omega) (by omega)]; rfl, ?_⟩
      exact ⟨(pre ++ [(i, runeI o)], i + n, f2), ⟨hJ2, by show runesAt s.data.toList 0 = pre ++ [(i, runeI o)] ++ runesAt s.data.toList (i + n); rw [hsc]; simp, by show i + n ≤ s.size; omega⟩, by show s.size - (i + n) < s.size - i; omega, Ent.same ⟨rfl, rfl, rfl, trivial⟩ rfl⟩
    · intro f2 hfo2 hJ2 β w' hs
      exact (hs.keepB (List.nil_sublist _)).fin [0] ⟨f2, [], rfl, .inr ⟨_, hJ2, ⟨runesAt s.data.toList (i + n), by rw [hsc]; simp⟩, rfl⟩⟩ rfl rfl rfl ⟨hfo2, trivial⟩
  · have hge0 : ¬ (i : Int) < s.size := hge
    rw [runesAt_end (l := s.data.toList) (i := i) (by omega), List.append_nil] at hsc
    intro β w' hs
    exact (hs.keepB (List.nil_sublist _)).fin [0] ⟨f, [], rfl, .inl ⟨pre, hJ, hsc.symm, rfl⟩⟩ rfl rfl rfl ⟨hfo, trivial⟩
theorem runes_c (w : World) (s : ByteArray) : Con Tryz.prog n_name_Runes #[.string s] w [] (fun v Fs => ∃ bx, v = .func (.func n_name_Runes_1) #[] #[.pointer (some ⟨bx, 0, none⟩)] ∧ Fs = [bkF bx ty_string [.string s]]) := by
  refine con_of_sx (cx := cx_name_Runes w (Un [])) (good_name_Runes w (Un [])) b_name_Runes rfl rfl (β := Va.z) [.c (.v (.string s))] 0 [] [] rfl rfl (Sat.start rfl) ?_
  intro β w' hs
  exact hs.ofBk.fin [0] ⟨β 0, rfl, rfl⟩
def validB (l : List UInt8) : Bool := (Nam.runes l).all Option.isSome
theorem runeI_none {o : Option Nat} : runeI o = -1 ↔ o = none := by
  cases o with
  | none => simp [runeI]
  | some r => simp only [runeI]; constructor
              · intro h; omega
              · intro h; cases h
theorem valid_iff (l : List UInt8) : validB l = true ↔ ∀ x ∈ runesAt l 0, x.2 ≠ -1 := by
  have h := runesAt_vals l _ 0 (Nat.le_refl _)
  rw [List.drop_zero] at h
  unfold validB
  rw [List.all_eq_true]
  constructor
  · intro hv x hx q
    have : x.2 ∈ (runesAt l 0).map (·.2) := List.mem_map.2 ⟨x, hx, rfl⟩
    rw [h] at this
    obtain ⟨o, ho, hq⟩ := List.mem_map.1 this
    have h2 := hv o ho
    rw [q] at hq
    rw [runeI_none.1 hq] at h2
    cases h2
  · intro hv o ho
    cases o with
    | some r => rfl
    | none =>
      have : runeI none ∈ (Nam.runes l).map runeI := List.mem_map.2 ⟨none, ho, rfl⟩
      rw [← h] at this
      obtain ⟨x, hx, hq⟩ := List.mem_map.1 this
      exact absurd hq (hv x hx)
theorem valid_c (w0 : World) (s : ByteArray) (hl : s.size ≤ 1000000) (hf : Forms 7 w0) : Pu Tryz.prog n_name_Valid #[.string s] w0 (.bool (validB s.data.toList)) := by
  have g := good_name_Valid w0 (Un [])
  refine con_of_sx (cx := cx_name_Valid w0 (Un [])) g b_name_Valid rfl rfl (β := Va.z) [.c (.v (.string s))] 0 [] [formF] rfl rfl ((Sat.start rfl).rd (fun _ h => by cases h) hf) ?_
  refine call_con [] (fun β w hs => runes_c w s) ?_
  rintro v Fs ⟨bx, rfl, rfl⟩
  refine range_rule (α := Rn) (ι := Unit) (κ := Unit) g rfl (cv := [.pointer (some ⟨bx, 0, none⟩)]) rfl (by kernel_rfl) 1 (Nat.le_refl 1)
    (fun pre _ => ∀ x ∈ pre, x.2 ≠ -1) (fun _ => [⟨0, ty_bool, [.v (.bool false)]⟩]) (fun _ => []) (fun _ => trivial)
    (fun e pre _ => e = .ret ∧ ∃ x ∈ pre, x.2 = -1) (fun _ => [⟨0, ty_bool, [.v (.bool false)]⟩]) (fun _ => []) (fun _ => trivial)
    [bkF bx ty_string [.string s]] [formF] [] ⟨rfl, trivial⟩ (fun g h => by cases h) () (fun x h => by cases h) (fun β w hs => ⟨β, Agr.refl _ _, hs⟩) (insR s.data.toList)
    (fun xs Fs' => xs = runesAt s.data.toList 0 ∧ Fs' = []) (fun pre Fs' => (∃ r, runesAt s.data.toList 0 = pre ++ r) ∧ Fs' = [])
    (fun l w f0 R J Jx hJ0 hJo hRo hY hm => (runes_it l w bx s f0 R J Jx hJ0 hJo hRo hY hl hm).mono fun _ Fs h => h) ?_ ?_ ?_
  · rintro ⟨⟩ pre x args X W S l bs pn pn' hbs hpre ⟨rfl, rfl, _⟩
    refine ⟨_, rfl, ?_⟩
    refine BIf.dec (fun h3 => ?_) (fun h3 => ?_)
    · have h30 : x.2 = -1 := h3
      exact ⟨(), ⟨rfl, x, by simp, h30⟩, Ent.mk' trivial rfl (fun β w hs => (hs.perm []).lower (n' := 1))⟩
    · have h30 : ¬ x.2 = -1 := h3
      refine ⟨(), ?_, Ent.mk' trivial rfl (fun β w hs => (hs.perm []).lower (n' := 1))⟩
      intro y hy
      rcases List.mem_append.1 hy with hy | hy
      · exact hpre y hy
      · obtain rfl := List.mem_singleton.1 hy; exact h30
  · rintro xs ⟨⟩ Fs hpre ⟨rfl, rfl⟩
    intro β w' hs
    refine (hs.keepB (List.nil_sublist _)).fin [] ⟨?_, rfl⟩
    rw [(valid_iff _).2 hpre]
    rfl
  · rintro e pre ⟨⟩ Fs ⟨rfl, x, hx, hxe⟩ ⟨⟨r, hr⟩, rfl⟩
    intro β w' hs
    refine (hs.keepB (List.nil_sublist _)).fin [] ⟨?_, rfl⟩
    have : validB s.data.toList = false := by
      cases h : validB s.data.toList with
      | false => rfl
      | true => exact absurd hxe ((valid_iff _).1 h x (by rw [hr]; exact List.mem_append.2 (.inl hx)))
    rw [this]
    rfl
end Go.Proofs.YthkjfepbmnabkaaGreatDoor.Sx

/- Signs: prepared. -/
namespace Go.Proofs.YthkjfepbmnabkaaGreatDoor.Sx
open Go
attribute [local irreducible] Calls

def blanksL : List Sp := [(0xa0, 0xa0), (0x1680, 0x1680), (0x2000, 0x200a), (0x202f, 0x202f), (0x205f, 0x205f), (0x3000, 0x3000)]
def nothingL : List Sp := [(0xad, 0xad), (0x200b, 0x200d), (0x2060, 0x2060), (0xfe00, 0xfe0f), (0xfeff, 0xfeff)]
def barredL : List Sp := [(0, 0x1f), (0x7f, 0x9f), (0x2028, 0x2029), (0x202a, 0x202e), (0x2066, 0x2069), (0xe000, 0xf8ff), (0xf0000, 0x10ffff), (0xfff9, 0xfffd), (0xfdd0, 0xfdef)]
def spansF (g : Nat) (l : List Sp) : Fact := rdF 2 (some ⟨g, 0, none⟩) l.length (l.flatMap spanV)
def prep1 (z : Int) : List Int := if inSp z blanksL = true then [32] else if inSp z nothingL = true then [] else [z]
def prepAt (l : List Rn) : List Int := l.flatMap fun x => prep1 x.2
def insPr (t : List UInt8) (pre : List Int) (z : Int) (args : Array Value) (X : Fact) : Prop := args = #[.int .i32 z] ∧ X = noF ∧ ∃ r, prepAt (runesAt t 0) = pre ++ z :: r
def prepEnd (t : List UInt8) (J Jx : List Int → Fact → Prop) (Fs : List Fact) : Prop :=
  ∃ f Fs', Fs = f :: Fs' ∧ ((∃ xs, J xs f ∧ xs = prepAt (runesAt t 0) ∧ Fs' = []) ∨ (∃ pre, Jx pre f ∧ (∃ r, prepAt (runesAt t 0) = pre ++ r) ∧ Fs' = []))
abbrev OF := { f : Fact // f.own = true }
theorem prep_it (l : Nat) (w : World) (bx : Nat) (s : ByteArray) (f0 R : Fact) (J Jx : List Int → Fact → Prop) (hJ0 : J [] f0) (hJo : ∀ pre f, J pre f → f.own = true) (hRo : R.own = false) (hY : Yc Tryz.prog l J Jx R (insPr s.data.toList))
    (hl : s.size ≤ 1000000) (hm : Mem w (f0 :: R :: [bkF bx ty_string [.string s], formF, spansF 5 blanksL, spansF 6 nothingL])) :
    Con Tryz.prog n_name_prepared_1 #[.func (.yield l) #[] #[], .pointer (some ⟨bx, 0, none⟩)] w [f0, bkF bx ty_string [.string s]] (fun _ Fs => prepEnd s.data.toList J Jx Fs) := by
  have g := good_name_prepared_1 w (Un [f0, bkF bx ty_string [.string s]]) [bx]
  have hf0 := hJo _ _ hJ0
  have hs0 : Sat (cx_name_prepared_1 w (Un [f0, bkF bx ty_string [.string s]]) [bx]) (Va.of fun _ => bx) 1 [] (f0 :: R :: [bkF bx ty_string [.string s], formF, spansF 5 blanksL, spansF 6 nothingL]) w := by
    refine hm.sat rfl (fun f hf ho k hk => ?_) ⟨Nat.le_refl 1, fun i hi => by obtain rfl : i = 0 := Nat.lt_one_iff.1 hi; rfl⟩
    simp only [List.mem_cons, List.not_mem_nil, or_false] at hf
    rcases hf with rfl | rfl | rfl | rfl | rfl | rfl
    · exact ⟨_, by simp, hk⟩
    · rw [hRo] at ho; cases ho
    · exact ⟨_, by simp, hk⟩
    · cases ho
    · cases ho
    · cases ho
  have hs1 := hs0.toBk 2 rfl 0 Nat.zero_lt_one rfl
  refine con_of_sx (cx := cx_name_prepared_1 w (Un [f0, bkF bx ty_string [.string s]]) [bx]) g b_name_prepared_1 rfl rfl (β := Va.of fun _ => bx) [.c (.v (.func (.yield l) #[] #[])), .c (.p 0 0)] 1 _ _ rfl rfl hs1 ?_
  refine call_con [] (fun β w hs => runes_c w s) ?_
  rintro v Fs ⟨bx2, rfl, rfl⟩
  refine range_rule (α := Rn) (ι := OF) (κ := OF) g rfl (cv := [.pointer (some ⟨bx2, 0, none⟩)]) rfl (by kernel_rfl) 2 (Nat.le_refl 2)
    (fun pre i => J (prepAt pre) i.1) (fun _ => [⟨1, 296, [.v (.func (.yield l) #[] #[])]⟩]) (fun i => [i.1]) (fun i => ⟨i.2, trivial⟩)
    (fun e pre i => e = .ret ∧ ∃ p, (∃ r, prepAt pre = p ++ r) ∧ Jx p i.1) (fun _ => [⟨1, 296, [.v (.func (.yield l) #[] #[])]⟩]) (fun i => [i.1]) (fun i => ⟨i.2, trivial⟩)
    [bkF bx2 ty_string [.string s]] [formF] [R, spansF 5 blanksL, spansF 6 nothingL] ⟨rfl, trivial⟩ (fun g h => by
      simp only [List.mem_cons, List.not_mem_nil, or_false] at h
      rcases h with rfl | rfl | rfl
      · exact hRo
      · rfl
      · rfl) ⟨f0, hf0⟩ hJ0 (fun β w hs => ⟨β, Agr.refl _ _, ?_⟩) (insR s.data.toList)
    (fun xs Fs' => xs = runesAt s.data.toList 0 ∧ Fs' = []) (fun pre Fs' => (∃ r, runesAt s.data.toList 0 = pre ++ r) ∧ Fs' = [])
    (fun l w f0 R J Jx hJ0 hJo hRo hY hm => (runes_it l w bx2 s f0 R J Jx hJ0 hJo hRo hY hl hm).mono fun _ Fs h => h) ?_ ?_ ?_
  · exact (hs.keepB (List.Sublist.cons_cons _ (List.nil_sublist _))).perm [0, 3, 1, 2, 4, 5]
  · rintro ⟨f, hfo⟩ pre x args X W S l' bs pn pn' hbs hJ ⟨rfl, rfl, r0, hxr⟩
    simp only at hJ
    refine ⟨_, rfl, ?_⟩
    obtain ⟨b1, hb1⟩ : ∃ b1, inSp x.2 blanksL = b1 := ⟨_, rfl⟩
    obtain ⟨b2, hb2⟩ : ∃ b2, inSp x.2 nothingL = b2 := ⟨_, rfl⟩
    refine ⟨6, 6, 0, 6, 6, _, rfl, rfl, rfl, Nat.le_refl _, Nat.le_refl _, Nat.zero_le _, rfl, rfl, rfl, ?_⟩
    refine call_pu (v := .bool b1) (fun β w' hs => by
      have h := within_c w' x.2 (some ⟨5, 0, none⟩) blanksL 6 (hs.get 3 rfl) (by decide)
      rw [hb1] at h
      exact h) ?_
    have hsn : prepAt (pre ++ [x]) = prepAt pre ++ prep1 x.2 := by simp [prepAt]
    cases b1 with
    | true =>
      have hz : prep1 x.2 = [32] := by unfold prep1; rw [if_pos hb1]
      refine yield_ro (X := noF) (x := 32) hY 1 2 rfl hJ hfo rfl hRo (by decide) (fun β => ⟨rfl, rfl, prepAt r0, by rw [hxr]; simp [prepAt, hz]⟩) rfl (fun β w _ => ⟨trivial, fun k hk => hk.elim, fun k _ h => h.elim⟩) ?_ ?_
      · intro f2 hfo2 hJ2
        exact ⟨⟨f2, hfo2⟩, by show J (prepAt (pre ++ [x])) f2; rw [hsn, hz]; exact hJ2, Ent.mk' trivial rfl (fun β w hs => (hs.perm [0]).lower (n' := 2))⟩
      · intro f2 hfo2 hJ2
        exact ⟨⟨f2, hfo2⟩, ⟨rfl, prepAt pre ++ [32], ⟨[], by rw [hsn, hz]; simp⟩, hJ2⟩, Ent.mk' trivial rfl (fun β w hs => (hs.perm [0]).lower (n' := 2))⟩
    | false =>
      refine ⟨5, 5, 0, 5, 5, _, rfl, rfl, rfl, Nat.le_refl _, Nat.le_refl _, Nat.zero_le _, rfl, rfl, rfl, ?_⟩
      refine call_pu (v := .bool b2) (fun β w' hs => by
        have h := within_c w' x.2 (some ⟨6, 0, none⟩) nothingL 5 (hs.get 4 rfl) (by decide)
        rw [hb2] at h
        exact h) ?_
      cases b2 with
      | true =>
        have hz : prep1 x.2 = [] := by unfold prep1; rw [if_neg (by rw [hb1]; decide), if_pos hb2]
        exact ⟨⟨f, hfo⟩, by show J (prepAt (pre ++ [x])) f; rw [hsn, hz, List.append_nil]; exact hJ, Ent.mk' trivial rfl (fun β w hs => (hs.perm [1]).lower (n' := 2))⟩
      | false =>
        have hz : prep1 x.2 = [x.2] := by unfold prep1; rw [if_neg (by rw [hb1]; decide), if_neg (by rw [hb2]; decide)]
        refine yield_ro (X := noF) (x := x.2) hY 1 2 rfl hJ hfo rfl hRo (by decide) (fun β => ⟨rfl, rfl, prepAt r0, by rw [hxr]; simp [prepAt, hz]⟩) rfl (fun β w _ => ⟨trivial, fun k hk => hk.elim, fun k _ h => h.elim⟩) ?_ ?_
        · intro f2 hfo2 hJ2
          exact ⟨⟨f2, hfo2⟩, by show J (prepAt (pre ++ [x])) f2; rw [hsn, hz]; exact hJ2, Ent.mk' trivial rfl (fun β w hs => (hs.perm [0]).lower (n' := 2))⟩
        · intro f2 hfo2 hJ2
          exact ⟨⟨f2, hfo2⟩, ⟨rfl, prepAt pre ++ [x.2], ⟨[], by rw [hsn, hz]; simp⟩, hJ2⟩, Ent.mk' trivial rfl (fun β w hs => (hs.perm [0]).lower (n' := 2))⟩
  · rintro xs ⟨f, hfo⟩ Fs hJ ⟨rfl, rfl⟩
    intro β w' hs
    exact (hs.keepB (List.nil_sublist _)).fin [0] ⟨f, [], rfl, .inl ⟨_, hJ, rfl, rfl⟩⟩ rfl rfl rfl ⟨hfo, trivial⟩
  · rintro e pre ⟨f, hfo⟩ Fs ⟨rfl, p, ⟨r, hp⟩, hJx⟩ ⟨⟨r2, hr⟩, rfl⟩
    intro β w' hs
    refine (hs.keepB (List.nil_sublist _)).fin [0] ⟨f, [], rfl, .inr ⟨p, hJx, ⟨r ++ prepAt r2, ?_⟩, rfl⟩⟩ rfl rfl rfl ⟨hfo, trivial⟩
    rw [hr, prepAt, List.flatMap_append, ← prepAt, hp, List.append_assoc]
    rfl
theorem prepared_c (w : World) (s : ByteArray) : Con Tryz.prog n_name_prepared #[.string s] w [] (fun v Fs => ∃ bx, v = .func (.func n_name_prepared_1) #[] #[.pointer (some ⟨bx, 0, none⟩)] ∧ Fs = [bkF bx ty_string [.string s]]) := by
  refine con_of_sx (cx := cx_name_prepared w (Un [])) (good_name_prepared w (Un [])) b_name_prepared rfl rfl (β := Va.z) [.c (.v (.string s))] 0 [] [] rfl rfl (Sat.start rfl) ?_
  intro β w' hs
  exact hs.ofBk.fin [0] ⟨β 0, rfl, rfl⟩
end Go.Proofs.YthkjfepbmnabkaaGreatDoor.Sx

/- Signs: written. -/
namespace Go.Proofs.YthkjfepbmnabkaaGreatDoor.Sx
open Go
attribute [local irreducible] Calls

def form0 : Nam.Fm := ⟨1, 0x80, 0, 0⟩
def pickF (r : Nat) (f g : Nam.Fm) : Nam.Fm := if g.least ≤ r then g else f
/-- A sign's form. -/
def formOf (r : Nat) : Nam.Fm := Nam.fms.foldl (pickF r) form0
/-- The last k of a sign's bytes. -/
def encGo (f : Nam.Fm) (r : Nat) : Nat → List UInt8
  | 0 => []
  | k + 1 => (if k = f.size - 1 then f.lead ||| UInt8.ofNat (r / 2 ^ (6 * k)) else 128 ||| (UInt8.ofNat (r / 2 ^ (6 * k)) &&& 63)) :: encGo f r k
def encL (r : Nat) : List UInt8 := encGo (formOf r) r (formOf r).size
theorem encGo_len (f : Nam.Fm) (r : Nat) : ∀ k, (encGo f r k).length = k
  | 0 => rfl
  | k + 1 => by simp [encGo, encGo_len f r k]
theorem fold_mem (r : Nat) : ∀ (l : List Nam.Fm) (f : Nam.Fm), f ∈ Nam.fms → (∀ g ∈ l, g ∈ Nam.fms) → l.foldl (pickF r) f ∈ Nam.fms
  | [], _, hf, _ => hf
  | g :: l, f, hf, h => by
    rw [List.foldl_cons]
    refine fold_mem r l _ ?_ (fun x hx => h x (List.mem_cons_of_mem _ hx))
    unfold pickF
    split
    · exact h g List.mem_cons_self
    · exact hf
theorem form0_mem : form0 ∈ Nam.fms := List.mem_cons_self
structure EnS where
  k : Nat
  acc : List UInt8
  A : Option Addr
  c : Nat
theorem append_c (w : World) (A : Option Addr) (l : List UInt8) (c r : Nat) (z : Int) (hz : z = (r : Int)) (hr31 : r ≤ 1114111) (hsg : Nam.sign r = true) (hr : Bs w A l) (hn : l.length ≤ 1000000000) (hf : Forms 7 w) :
    Con Tryz.prog n_name_Append #[.slice A l.length c, .int .i32 z] w [] fun v Fs => ∃ A' c', v = .slice A' (l ++ encL r).length c' ∧ (l ++ encL r).length ≤ c' ∧ c' ≤ maxLen ∧ Fs = [browF ty_uint8 A' (l ++ encL r) c'] := by
  have g := good_name_Append w (Un [])
  have hml := maxLen_eq
  refine con_of_sx (cx := cx_name_Append w (Un [])) g b_name_Append rfl rfl (β := Va.z) [.c (.v (.slice A l.length c)), .c (.v (.int .i32 z))] 0 [] [oldF w] rfl rfl (old_sat rfl) ?_
  refine call_pu (v := .bool true) (fun β w' hs => by
    have h := sign_c w' z r hz
    rw [hsg] at h
    exact h) ?_
  refine call_con [] (fun β w' hs => clone_c w' A l c (Rd.old hr (hs.get 0 rfl)) (by omega)) ?_
  rintro v Fs ⟨A1, c1, rfl, h1, h1m, rfl⟩
  have hcell : ∀ w', (oldF w).p w' → ∀ j u, formCells[j]? = some u → w'.cell? ((⟨7, 0, none⟩ : Addr).add j) = some u := by
    intro w' ho j u hu
    obtain ⟨ad, q, hc⟩ := (Forms.old hf ho).2 (by decide)
    cases q
    exact hc j u hu
  refine ⟨0, rfl, by decide, ?_⟩
  refine ⟨formV form0, rfl, fun β w' hs => ?_, ?_⟩
  · intro j u hu
    have hj : j < 4 := (List.getElem?_eq_some_iff.1 hu).1
    refine hcell w' (hs.get 1 rfl) j u ?_
    have : formCells[j]? = (formV form0)[j]? := by
      match j, hj with
      | 0, _ => rfl
      | 1, _ => rfl
      | 2, _ => rfl
      | 3, _ => rfl
    rw [this, hu]
  refine ⟨formCells, rfl, fun β w' hs => hcell w' (hs.get 1 rfl), ?_⟩
  refine loop_rule (ι := Nat) 1 (fun i => [(1, .c (.v (.int .i32 z))), (5, .c (.v (.slice A1 l.length c1))), (6, .c (.p 0 0)), (18, .agg (formCells.map SL.v)), (19, .c (.v (.int .i64 (i : Int))))]) (fun i => [⟨0, ty_name_form, (formV ((Nam.fms.take i).foldl (pickF r) form0)).map SL.v⟩]) (fun _ => [browF ty_uint8 A1 l c1, oldF w])
    (fun i => i ≤ 4) (fun i => 4 - i) 0 (Nat.zero_le _) (Ent.same ⟨rfl, rfl, rfl, rfl, rfl, trivial⟩ rfl) g ?_
  intro i hi
  refine BIf.dec (fun hlt => ?_) (fun hge => ?_)
  · have hlt0 : (i : Int) < 4 := hlt
    have hi4 : i < Nam.fms.length := by show i < 4; omega
    obtain ⟨f, hfi, hfm⟩ := at_lt hi4
    have hfold : (Nam.fms.take (i + 1)).foldl (pickF r) form0 = pickF r ((Nam.fms.take i).foldl (pickF r) form0) f := by
      rw [List.take_add_one, hfi, List.foldl_append]
      rfl
    refine ⟨i, (formV f).map SL.v, rfl, by omega, form_at hfi, ?_⟩
    refine BIf.dec (fun hls => ?_) (fun hls => ?_)
    · have hls1 : (f.least : Int) ≤ z := hls
      rw [pickF, if_pos (by omega)] at hfold
      refine ⟨((i + 1 : Nat) : Int), by rw [wrap_i64 (by omega) (by omega)]; rfl, ?_⟩
      refine ⟨i + 1, by omega, by omega, ?_⟩
      rw [hfold]
      exact Ent.mk' ⟨rfl, rfl, rfl, rfl, rfl, trivial⟩ rfl (fun β w hs => (hs.keepB (List.sublist_cons_self _ _)).lower)
    · have hls1 : ¬ (f.least : Int) ≤ z := hls
      rw [pickF, if_neg (by omega)] at hfold
      refine ⟨((i + 1 : Nat) : Int), by rw [wrap_i64 (by omega) (by omega)]; rfl, ?_⟩
      refine ⟨i + 1, by omega, by omega, ?_⟩
      rw [hfold]
      exact Ent.mk' ⟨rfl, rfl, rfl, rfl, rfl, trivial⟩ rfl (fun β w hs => (hs.keepB (List.sublist_cons_self _ _)).lower)
  · have hge0 : ¬ (i : Int) < 4 := hge
    obtain rfl : i = 4 := by omega
    have hfe : (Nam.fms.take 4).foldl (pickF r) form0 = formOf r := rfl
    rw [hfe]
    have hfs := form_size (fold_mem r Nam.fms form0 form0_mem (fun _ h => h))
    change 1 ≤ (formOf r).size ∧ (formOf r).size ≤ 4 ∧ _ at hfs
    unfold encL
    generalize formOf r = f at hfs ⊢
    refine ⟨(f.size : Int) - 1, wrap_i64 (by omega) (by omega), ?_⟩
    refine loop_rule (ι := EnS) 1 (fun i => [(1, .c (.v (.int .i32 z))), (5, .c (.v (.slice i.A i.acc.length i.c))), (6, .c (.p 0 0)), (9, .c (.v (.int .i64 ((i.k : Int) - 1))))]) (fun _ => [⟨0, ty_name_form, (formV f).map SL.v⟩]) (fun i => [browF ty_uint8 i.A i.acc i.c, oldF w])
      (fun i => i.acc ++ encGo f r i.k = l ++ encGo f r f.size ∧ i.k ≤ f.size ∧ i.acc.length ≤ i.c ∧ i.c ≤ maxLen ∧ i.acc.length + i.k = l.length + f.size) (fun i => i.k) ⟨f.size, l, A1, c1⟩ ⟨rfl, Nat.le_refl _, h1, h1m, rfl⟩ (Ent.same ⟨rfl, rfl, rfl, rfl, trivial⟩ rfl) g ?_
    rintro ⟨k, acc, A2, c2⟩ ⟨hinv, hk, hac, hcm, hlen⟩
    simp only at hinv hk hac hcm hlen
    simp only
    refine BIf.dec (fun hp => ?_) (fun hp => ?_)
    · have hp0 : (0 : Int) ≤ (k : Int) - 1 := hp
      obtain ⟨k', rfl⟩ : ∃ k', k = k' + 1 := ⟨k - 1, by omega⟩
      refine ⟨((6 * k' : Nat) : Int), by rw [wrap_i64 (by omega) (by omega)]; omega, ?_⟩
      refine ⟨by omega, ((r / 2 ^ (6 * k') : Nat) : Int), ?_, ?_⟩
      · have hmin : min ((6 * k' : Nat) : Int).toNat IntKind.i32.bits = 6 * k' := by show min (6 * k') 32 = _; omega
        rw [hmin, hz]
        exact shr_nat r (6 * k')
      refine ⟨(f.size : Int) - 1, wrap_i64 (by omega) (by omega), ?_⟩
      refine BIf.dec (fun he => ?_) (fun he => ?_)
      · have he0 : ((k' + 1 : Nat) : Int) - 1 = (f.size : Int) - 1 := he
        have henc : encGo f r (k' + 1) = (f.lead ||| UInt8.ofNat (r / 2 ^ (6 * k'))) :: encGo f r k' := by rw [encGo, if_pos (by omega)]
        refine ⟨_, wrap_u8b _, ?_⟩
        refine ⟨_, or8 f.lead (UInt8.ofNat (r / 2 ^ (6 * k'))), ?_⟩
        intro b0
        refine ⟨1, acc.length, acc.length + 1, acc.map byte, [f.lead ||| UInt8.ofNat (r / 2 ^ (6 * k'))].map byte, (acc ++ [f.lead ||| UInt8.ofNat (r / 2 ^ (6 * k'))]).map byte, rfl, fun β w hs => row_rd (hs.get 0 rfl), bytes_one _, rfl, List.map_append.symm, by rw [maxLen_eq]; omega, by show (acc.length + 1) * 1 ≤ _; omega, ?_⟩
        intro A' c' q1 q2 _
        refine ⟨(k' : Int) - 1, by rw [wrap_i64 (by omega) (by omega)]; omega, ?_⟩
        have hle : (acc ++ [f.lead ||| UInt8.ofNat (r / 2 ^ (6 * k'))]).length = acc.length + 1 := by simp
        refine ⟨⟨k', acc ++ [f.lead ||| UInt8.ofNat (r / 2 ^ (6 * k'))], A', c'⟩, ⟨by rw [← hinv, henc]; simp, by show k' ≤ f.size; omega, by show (acc ++ [f.lead ||| UInt8.ofNat (r / 2 ^ (6 * k'))]).length ≤ c'; omega, q2, by show (acc ++ [f.lead ||| UInt8.ofNat (r / 2 ^ (6 * k'))]).length + k' = _; omega⟩, by show k' < k' + 1; omega, ?_⟩
        simp only [browF, hle]
        exact Ent.mk' ⟨rfl, rfl, rfl, rfl, trivial⟩ rfl (fun β w hs => hs.weaken (List.Sublist.refl _) (List.sublist_cons_self _ _))
      · have he0 : ¬ ((k' + 1 : Nat) : Int) - 1 = (f.size : Int) - 1 := he
        have henc : encGo f r (k' + 1) = (128 ||| (UInt8.ofNat (r / 2 ^ (6 * k')) &&& 63)) :: encGo f r k' := by rw [encGo, if_neg (by omega)]
        refine ⟨_, wrap_u8b _, ?_⟩
        refine ⟨_, and8 (UInt8.ofNat (r / 2 ^ (6 * k'))) 63, ?_⟩
        refine ⟨_, or8 128 (UInt8.ofNat (r / 2 ^ (6 * k')) &&& 63), ?_⟩
        intro b0
        refine ⟨1, acc.length, acc.length + 1, acc.map byte, [128 ||| (UInt8.ofNat (r / 2 ^ (6 * k')) &&& 63)].map byte, (acc ++ [128 ||| (UInt8.ofNat (r / 2 ^ (6 * k')) &&& 63)]).map byte, rfl, fun β w hs => row_rd (hs.get 0 rfl), bytes_one _, rfl, List.map_append.symm, by rw [maxLen_eq]; omega, by show (acc.length + 1) * 1 ≤ _; omega, ?_⟩
        intro A' c' q1 q2 _
        refine ⟨(k' : Int) - 1, by rw [wrap_i64 (by omega) (by omega)]; omega, ?_⟩
        have hle : (acc ++ [128 ||| (UInt8.ofNat (r / 2 ^ (6 * k')) &&& 63)]).length = acc.length + 1 := by simp
        refine ⟨⟨k', acc ++ [128 ||| (UInt8.ofNat (r / 2 ^ (6 * k')) &&& 63)], A', c'⟩, ⟨by rw [← hinv, henc]; simp, by show k' ≤ f.size; omega, by show (acc ++ [128 ||| (UInt8.ofNat (r / 2 ^ (6 * k')) &&& 63)]).length ≤ c'; omega, q2, by show (acc ++ [128 ||| (UInt8.ofNat (r / 2 ^ (6 * k')) &&& 63)]).length + k' = _; omega⟩, by show k' < k' + 1; omega, ?_⟩
        simp only [browF, hle]
        exact Ent.mk' ⟨rfl, rfl, rfl, rfl, trivial⟩ rfl (fun β w hs => hs.weaken (List.Sublist.refl _) (List.sublist_cons_self _ _))
    · have hp0 : ¬ (0 : Int) ≤ (k : Int) - 1 := hp
      obtain rfl : k = 0 := by omega
      simp only [encGo, List.append_nil] at hinv
      intro β w' hs
      refine (hs.keepB (List.nil_sublist _)).fin [0] ⟨A2, c2, by rw [← hinv]; rfl, by rw [← hinv]; exact hac, hcm, by rw [← hinv]; rfl⟩
end Go.Proofs.YthkjfepbmnabkaaGreatDoor.Sx

/- Names, plainly: what goes is nothing. -/
namespace Go.Proofs.YthkjfepbmnabkaaGreatDoor.Sx
open Go

theorem decL_sign {s : List UInt8} {r : Nat} (h : (Nam.decL s).1 = some r) : Nam.sign r = true := by
  unfold Nam.decL at h
  split at h
  · rename_i f hf
    split at h
    · rename_i q hq
      obtain rfl := Option.some.inj h
      unfold Nam.tryF at hq
      split at hq
      · cases hq
      · split at hq
        · split at hq
          · rename_i hh
            obtain rfl := Option.some.inj hq
            exact hh.2
          · cases hq
        · cases hq
    · cases h
  · cases h
theorem runes_sign {r : Nat} : ∀ (k : Nat) (l : List UInt8), l.length ≤ k → some r ∈ Nam.runes l → Nam.sign r = true := by
  intro k
  induction k with
  | zero =>
    intro l h hm
    obtain rfl : l = [] := List.length_eq_zero_iff.1 (by omega)
    rw [Nam.runes_nil] at hm
    cases hm
  | succ k ih =>
    intro l h hm
    by_cases hl : l = []
    · subst hl
      rw [Nam.runes_nil] at hm
      cases hm
    · have h1 := Nam.decL_size hl
      rw [Nam.runes_cons hl] at hm
      rcases List.mem_cons.1 hm with hm | hm
      · exact decL_sign hm.symm
      · exact ih _ (by rw [List.length_drop]; omega) hm
def prepO (l : List (Option Nat)) : List Int := l.flatMap fun o => prep1 (runeI o)
theorem prepAt_runes (l : List UInt8) : prepAt (runesAt l 0) = prepO (Nam.runes l) := by
  have h := runesAt_vals l _ 0 (Nat.le_refl _)
  rw [List.drop_zero] at h
  have e1 : prepAt (runesAt l 0) = ((runesAt l 0).map (·.2)).flatMap prep1 := by rw [prepAt, List.flatMap_map]
  rw [e1, h, List.flatMap_map]
  rfl
theorem sign_le {r : Nat} (h : Nam.sign r = true) : r ≤ 1114111 := by
  unfold Nam.sign at h
  simp only [Bool.and_eq_true, decide_eq_true_eq] at h
  exact h.1
/-- What is told of a text that is rightly written is a sign. -/
theorem prep_sign {l : List UInt8} (hv : validB l = true) {z : Int} (hz : z ∈ prepAt (runesAt l 0)) : ∃ r : Nat, z = (r : Int) ∧ Nam.sign r = true ∧ r ≤ 1114111 := by
  rw [prepAt_runes] at hz
  obtain ⟨o, ho, hz⟩ := List.mem_flatMap.1 hz
  cases o with
  | none =>
    have := List.all_eq_true.1 hv none ho
    cases this
  | some r =>
    have hs := runes_sign l.length l (Nat.le_refl _) ho
    unfold prep1 at hz
    split at hz
    · obtain rfl := List.mem_singleton.1 hz
      exact ⟨32, rfl, by decide, by decide⟩
    · split at hz
      · cases hz
      · obtain rfl := List.mem_singleton.1 hz
        exact ⟨r, rfl, hs, sign_le hs⟩
def badZ (z : Int) : Bool := inSp z barredL || decide (bits .and .i32 z 65534 = 65534)
def encZ (z : Int) : List UInt8 := encL z.toNat
/-- A text, prepared; or why not. -/
def prepF (l : List UInt8) : List UInt8 × Int :=
  if validB l = true then if (prepAt (runesAt l 0)).any badZ = true then ([], 5) else ((prepAt (runesAt l 0)).flatMap encZ, 0) else ([], 4)
end Go.Proofs.YthkjfepbmnabkaaGreatDoor.Sx

/- Names: a text, prepared. -/
namespace Go.Proofs.YthkjfepbmnabkaaGreatDoor.Sx
open Go
attribute [local irreducible] Calls

def mkS (l : List UInt8) : ByteArray := ⟨l.toArray⟩
theorem encZ_len (z : Int) : (encZ z).length ≤ 4 := by
  unfold encZ encL
  rw [encGo_len]
  have := form_size (fold_mem z.toNat Nam.fms form0 form0_mem (fun _ h => h))
  exact this.2.1
theorem prep1_len (z : Int) : (prep1 z).length ≤ 1 := by
  unfold prep1
  split
  · exact Nat.le_refl _
  · split
    · exact Nat.zero_le _
    · exact Nat.le_refl _
theorem runesAt_len (l : List UInt8) : ∀ (k i : Nat), l.length - i ≤ k → (runesAt l i).length ≤ l.length - i := by
  intro k
  induction k with
  | zero => intro i h; rw [runesAt_end (by omega)]; exact Nat.zero_le _
  | succ k ih =>
    intro i h
    by_cases hi : i < l.length
    · have h1 := Nam.decL_size (drop_ne hi)
      rw [runesAt_cons hi, List.length_cons]
      have := ih (i + (Nam.decL (l.drop i)).2) (by omega)
      omega
    · rw [runesAt_end hi]; exact Nat.zero_le _
theorem flat_le {α β : Type} (f : α → List β) (n : Nat) (h : ∀ x, (f x).length ≤ n) : ∀ l : List α, (l.flatMap f).length ≤ n * l.length
  | [] => by simp
  | x :: r => by
    rw [List.flatMap_cons, List.length_append, List.length_cons]
    have h1 := h x
    have h2 := flat_le f n h r
    rw [Nat.mul_succ]
    omega
theorem prepAt_len (l : List UInt8) : (prepAt (runesAt l 0)).length ≤ l.length := by
  have h1 := flat_le (fun x : Rn => prep1 x.2) 1 (fun x => prep1_len x.2) (runesAt l 0)
  have h2 := runesAt_len l _ 0 (Nat.le_refl _)
  unfold prepAt
  omega
structure PrS8 where
  out : List UInt8
  A : Option Addr
  c : Nat
theorem prepare_c (w0 : World) (s : ByteArray) (hl : s.size ≤ 100000) (hf : Forms 7 w0) (h5 : (spansF 5 blanksL).p w0) (h6 : (spansF 6 nothingL).p w0) (h4 : (spansF 4 barredL).p w0) :
    Pu Tryz.prog n_name_Prepare #[.string s] w0 (.tuple #[.string (mkS (prepF s.data.toList).1), .int .i64 (prepF s.data.toList).2]) := by
  have g := good_name_Prepare w0 (Un [])
  have hlen : s.data.toList.length = s.size := rfl
  have own2 : ∀ {f1 f2 f3 f4 : Fact}, f1.own = false → f2.own = false → f3.own = false → f4.own = false → ∀ g ∈ [f1, f2, f3, f4], g.own = false := by
    intro f1 f2 f3 f4 e1 e2 e3 e4 g hg
    simp only [List.mem_cons, List.not_mem_nil, or_false] at hg
    rcases hg with rfl | rfl | rfl | rfl <;> assumption
  have st : Sat (cx_name_Prepare w0 (Un [])) Va.z 0 [] [formF, formF, spansF 5 blanksL, spansF 6 nothingL, spansF 4 barredL] w0 := by
    have s1 : Sat (cx_name_Prepare w0 (Un [])) Va.z 0 [] [spansF 4 barredL] w0 := (Sat.start rfl).rd (fun _ h => by cases h) h4
    have s2 : Sat (cx_name_Prepare w0 (Un [])) Va.z 0 [] [spansF 6 nothingL, spansF 4 barredL] w0 := s1.rd (fun g hg => own2 (f1 := spansF 4 barredL) (f2 := noF) (f3 := noF) (f4 := noF) rfl rfl rfl rfl g (by obtain rfl := List.mem_singleton.1 hg; simp)) h6
    have s3 : Sat (cx_name_Prepare w0 (Un [])) Va.z 0 [] [spansF 5 blanksL, spansF 6 nothingL, spansF 4 barredL] w0 := s2.rd (fun g hg => own2 (f1 := spansF 6 nothingL) (f2 := spansF 4 barredL) (f3 := noF) (f4 := noF) rfl rfl rfl rfl g (by simp only [List.mem_cons, List.not_mem_nil, or_false] at hg ⊢; rcases hg with h | h <;> simp [h])) h5
    have s4 : Sat (cx_name_Prepare w0 (Un [])) Va.z 0 [] [formF, spansF 5 blanksL, spansF 6 nothingL, spansF 4 barredL] w0 := s3.rd (fun g hg => own2 (f1 := spansF 5 blanksL) (f2 := spansF 6 nothingL) (f3 := spansF 4 barredL) (f4 := noF) rfl rfl rfl rfl g (by simp only [List.mem_cons, List.not_mem_nil, or_false] at hg ⊢; rcases hg with h | h | h <;> simp [h])) hf
    exact s4.rd (own2 rfl rfl rfl rfl) hf
  refine con_of_sx (cx := cx_name_Prepare w0 (Un [])) g b_name_Prepare rfl rfl (β := Va.z) [.c (.v (.string s))] 0 [] _ rfl rfl st ?_
  obtain ⟨bv, hv⟩ : ∃ bv, validB s.data.toList = bv := ⟨_, rfl⟩
  refine call_pu (v := .bool bv) (fun β w hs => by
    have h := valid_c w s (by omega) (hs.get 0 rfl)
    rw [hv] at h
    exact h) ?_
  cases bv with
  | false =>
    intro β w' hs
    refine (hs.keepB (List.nil_sublist _)).fin [] ⟨?_, rfl⟩
    unfold prepF
    rw [hv]
    rfl
  | true =>
    refine call_con [] (fun β w hs => prepared_c w s) ?_
    rintro v Fs ⟨bx, rfl, rfl⟩
    obtain ⟨T, hT⟩ : ∃ T, prepAt (runesAt s.data.toList 0) = T := ⟨_, rfl⟩
    have hTl : T.length ≤ 100000 := by
      have := prepAt_len s.data.toList
      rw [hT] at this
      omega
    have hpr : prepF s.data.toList = if T.any badZ = true then ([], 5) else (T.flatMap encZ, 0) := by unfold prepF; rw [if_pos hv, hT]
    refine range_rule (α := Int) (ι := PrS8) (κ := Unit) g rfl (cv := [.pointer (some ⟨bx, 0, none⟩)]) rfl (by kernel_rfl) 3 (Nat.le_refl 3)
      (fun pre i => pre.any badZ = false ∧ i.out = pre.flatMap encZ) (fun i => [⟨2, ty_sl_uint8, [.v (.slice i.A i.out.length i.c)]⟩, ⟨1, ty_api_Errno, [.v (.int .i64 0)]⟩, ⟨0, ty_string, [.v (.string (mkS []))]⟩]) (fun i => [browF ty_uint8 i.A i.out i.c]) (fun i => ⟨rfl, trivial⟩)
      (fun e pre _ => e = .ret ∧ pre.any badZ = true) (fun _ => [⟨1, ty_api_Errno, [.v (.int .i64 5)]⟩, ⟨0, ty_string, [.v (.string (mkS []))]⟩]) (fun _ => []) (fun _ => trivial)
      [bkF bx ty_string [.string s]] [formF, spansF 5 blanksL, spansF 6 nothingL] [formF, spansF 4 barredL] ⟨rfl, trivial⟩ (fun g h => by
        simp only [List.mem_cons, List.not_mem_nil, or_false] at h
        rcases h with rfl | rfl <;> rfl) ⟨[], none, 0⟩ ⟨rfl, rfl⟩ (fun β w hs => ⟨β, Agr.refl _ _, ?_⟩) (insPr s.data.toList)
      (fun xs Fs' => xs = T ∧ Fs' = []) (fun pre Fs' => (∃ r, T = pre ++ r) ∧ Fs' = [])
      (fun l w f0 R J Jx hJ0 hJo hRo hY hm => (prep_it l w bx s f0 R J Jx hJ0 hJo hRo hY (by omega) hm).mono fun _ Fs h => by rw [← hT]; exact h) ?_ ?_ ?_
    · exact (hs.nilRow ty_uint8 1).perm [1, 2, 4, 5, 0, 3, 6]
    · rintro ⟨out, A, c⟩ pre z args X W S l' bs pn pn' hbs ⟨hno, hout⟩ ⟨rfl, rfl, r0, hzr⟩
      simp only at hno hout
      rw [hT] at hzr
      refine ⟨_, rfl, ?_⟩
      obtain ⟨b1, hb1⟩ : ∃ b1, inSp z barredL = b1 := ⟨_, rfl⟩
      refine ⟨9, 9, 0, 9, 9, _, rfl, rfl, rfl, Nat.le_refl _, Nat.le_refl _, Nat.zero_le _, rfl, rfl, rfl, ?_⟩
      refine call_pu (v := .bool b1) (fun β w' hs => by
        have h := within_c w' z (some ⟨4, 0, none⟩) barredL 9 (hs.get 3 rfl) (by decide)
        rw [hb1] at h
        exact h) ?_
      cases b1 with
      | true =>
        have hbz : badZ z = true := by unfold badZ; rw [hb1]; rfl
        exact ⟨(), ⟨rfl, by rw [List.any_append, List.any_cons, hbz]; simp⟩, Ent.mk' trivial rfl (fun β w hs => ((hs.keepB (List.sublist_cons_self _ _)).perm []).lower (n' := 3))⟩
      | false =>
        obtain ⟨y, hy⟩ : ∃ y, bits .and .i32 z 65534 = y := ⟨_, rfl⟩
        refine ⟨y, hy, ?_⟩
        refine BIf.dec (fun h3 => ?_) (fun h3 => ?_)
        · have h30 : y = 65534 := h3
          have hbz : badZ z = true := by unfold badZ; rw [hb1, hy, decide_eq_true h30]; rfl
          exact ⟨(), ⟨rfl, by rw [List.any_append, List.any_cons, hbz]; simp⟩, Ent.mk' trivial rfl (fun β w hs => ((hs.keepB (List.sublist_cons_self _ _)).perm []).lower (n' := 3))⟩
        · have h30 : ¬ y = 65534 := h3
          have hbz : badZ z = false := by unfold badZ; rw [hb1, hy, decide_eq_false h30]; rfl
          obtain ⟨r, hz, hsg, hr31⟩ := prep_sign hv (z := z) (by rw [hT, hzr]; simp)
          have hol : out.length ≤ 400000 := by
            have h8 := flat_le encZ 4 encZ_len pre
            have h9 : pre.length ≤ T.length := by rw [hzr, List.length_append]; omega
            rw [hout]
            omega
          refine call_con [] (fun β w' hs => append_c w' A out c r z hz hr31 hsg (row_rd (hs.get 1 rfl)) (by omega) (hs.get 2 rfl)) ?_
          rintro v Fs ⟨A', c', rfl, q1, q2, rfl⟩
          exact ⟨⟨out ++ encL r, A', c'⟩, ⟨by rw [List.any_append, hno, List.any_cons, hbz]; rfl, by rw [hout, List.flatMap_append]; simp [encZ, hz]⟩, Ent.mk' trivial rfl (fun β w hs => (hs.perm [0]).lower (n' := 3))⟩
    · rintro xs ⟨out, A, c⟩ Fs ⟨hno, hout⟩ ⟨rfl, rfl⟩
      simp only at hno hout
      rw [if_neg (by rw [hno]; decide)] at hpr
      refine ⟨out, fun β w hs => row_rd (hs.get 0 rfl), ?_⟩
      intro β w' hs
      refine (hs.keepB (List.nil_sublist _)).fin [] ⟨?_, rfl⟩
      rw [hpr, ← hout]
      rfl
    · rintro e pre ⟨⟩ Fs ⟨rfl, hbad⟩ ⟨⟨r, hr⟩, rfl⟩
      rw [if_pos (by rw [hr, List.any_append, hbad]; rfl)] at hpr
      intro β w' hs
      refine (hs.keepB (List.nil_sublist _)).fin [] ⟨?_, rfl⟩
      rw [hpr]
      rfl
end Go.Proofs.YthkjfepbmnabkaaGreatDoor.Sx

/- Names: sized. -/
namespace Go.Proofs.YthkjfepbmnabkaaGreatDoor.Sx
open Go
attribute [local irreducible] Calls

def sizF (l : List UInt8) (most : Nat) : List UInt8 × Int :=
  if (prepF l).2 = 0 then if (prepF l).1 = [] then ([], 2) else if most < (prepF l).1.length then ([], 3) else ((prepF l).1, 0) else ([], (prepF l).2)
theorem mkS_nil {p : List UInt8} : mkS p = mkS [] ↔ p = [] := by
  constructor
  · intro h
    have := congrArg (fun s : ByteArray => s.data.toList) h
    simpa [mkS] using this
  · rintro rfl; rfl
theorem sized_c (w : World) (s : ByteArray) (most : Nat) (hmost : most ≤ 1000000) (hl : s.size ≤ 100000) (hf : Forms 7 w) (h5 : (spansF 5 blanksL).p w) (h6 : (spansF 6 nothingL).p w) (h4 : (spansF 4 barredL).p w) :
    Pu Tryz.prog n_name_sized #[.string s, .int .i64 (most : Int)] w (.tuple #[.string (mkS (sizF s.data.toList most).1), .int .i64 (sizF s.data.toList most).2]) := by
  have g := good_name_sized w (Un [])
  refine con_of_sx (cx := cx_name_sized w (Un [])) g b_name_sized rfl rfl (β := Va.z) [.c (.v (.string s)), .c (.v (.int .i64 (most : Int)))] 0 [] [oldF w] rfl rfl (old_sat rfl) ?_
  obtain ⟨p, e, hpe⟩ : ∃ p e, prepF s.data.toList = (p, e) := ⟨_, _, rfl⟩
  have hz : sizF s.data.toList most = if e = 0 then if p = [] then ([], 2) else if most < p.length then ([], 3) else (p, 0) else ([], e) := by unfold sizF; rw [hpe]
  refine call_pu (v := .tuple #[.string (mkS p), .int .i64 e]) (fun β w' hs => by
    have h := prepare_c w' s hl (Forms.old hf (hs.get 0 rfl)) (Rd.old h5 (hs.get 0 rfl)) (Rd.old h6 (hs.get 0 rfl)) (Rd.old h4 (hs.get 0 rfl))
    rw [hpe] at h
    exact h) ?_
  have fin : ∀ (q : List UInt8) (d : Int), sizF s.data.toList most = (q, d) → ∀ {n : Nat} {H : List Bk} {F : List Fact} (β : Va) (w' : World), Sat (cx_name_sized w (Un [])) β n H F w' → Fin w [] (fun u Fs => u = .tuple #[.string (mkS (sizF s.data.toList most).1), .int .i64 (sizF s.data.toList most).2] ∧ Fs = []) (.tuple #[.string (mkS q), .int .i64 d]) w' := by
    intro q d h n H F β w' hs
    rw [h]
    exact (hs.keepB (List.nil_sublist _)).fin [] ⟨rfl, rfl⟩
  refine BIf.not (BIf.dec (fun he => ?_) (fun he => ?_))
  · have he0 : e = 0 := he
    rw [if_pos he0] at hz
    refine BIf.dec (p := mkS p = mkS []) (fun hp => ?_) (fun hp => ?_)
    · rw [if_pos (mkS_nil.1 hp)] at hz
      exact fin [] 2 hz
    · rw [if_neg (fun q => hp (mkS_nil.2 q))] at hz
      have hsz : (mkS p).size = p.length := by simp [mkS, ByteArray.size]
      refine BIf.dec (fun hm => ?_) (fun hm => ?_)
      · have hm0 : (most : Int) < ((mkS p).size : Int) := hm
        rw [hsz] at hm0
        rw [if_pos (by omega)] at hz
        exact fin [] 3 hz
      · have hm0 : ¬ (most : Int) < ((mkS p).size : Int) := hm
        rw [hsz] at hm0
        rw [if_neg (by omega)] at hz
        rw [he0]
        exact fin p 0 hz
  · have he0 : ¬ e = 0 := he
    rw [if_neg he0] at hz
    exact fin [] e hz
theorem name_c (w : World) (s : ByteArray) (hl : s.size ≤ 100000) (hf : Forms 7 w) (h5 : (spansF 5 blanksL).p w) (h6 : (spansF 6 nothingL).p w) (h4 : (spansF 4 barredL).p w) :
    Pu Tryz.prog n_name_Name #[.string s] w (.tuple #[.string (mkS (sizF s.data.toList 32).1), .int .i64 (sizF s.data.toList 32).2]) := by
  have g := good_name_Name w (Un [])
  refine con_of_sx (cx := cx_name_Name w (Un [])) g b_name_Name rfl rfl (β := Va.z) [.c (.v (.string s))] 0 [] [oldF w] rfl rfl (old_sat rfl) ?_
  refine call_pu (fun β w' hs => sized_c w' s 32 (by decide) hl (Forms.old hf (hs.get 0 rfl)) (Rd.old h5 (hs.get 0 rfl)) (Rd.old h6 (hs.get 0 rfl)) (Rd.old h4 (hs.get 0 rfl))) ?_
  intro β w' hs
  exact hs.fin [] ⟨rfl, rfl⟩
end Go.Proofs.YthkjfepbmnabkaaGreatDoor.Sx

/- The reference's names, plainly: which signs become blanks, go, may not be there; a sign's bytes. -/
namespace Go.Proofs.YthkjfepbmnabkaaGreatDoor.Sx
open Go

def rblank (r : Int) : Bool := decide (r = 160 ∨ r = 5760 ∨ (8192 ≤ r ∧ r ≤ 8202) ∨ r = 8239 ∨ r = 8287 ∨ r = 12288)
def rgoes (r : Int) : Bool := decide (r = 173 ∨ (8203 ≤ r ∧ r ≤ 8205) ∨ r = 8288 ∨ (65024 ≤ r ∧ r ≤ 65039) ∨ r = 65279)
def rbars (r : Int) : Bool := decide (r ≤ 31 ∨ (127 ≤ r ∧ r ≤ 159) ∨ (8232 ≤ r ∧ r ≤ 8238) ∨ (8294 ≤ r ∧ r ≤ 8297) ∨ (57344 ≤ r ∧ r ≤ 63743) ∨ 983040 ≤ r ∨ (65529 ≤ r ∧ r ≤ 65533) ∨ (64976 ≤ r ∧ r ≤ 65007) ∨ 65534 ≤ r % 65536)
theorem rblank_eq (r : Int) : rblank r = inSp r blanksL := by
  unfold rblank inSp blanksL
  simp only [List.any_cons, List.any_nil, Bool.or_false]
  rw [Bool.eq_iff_iff]
  simp only [decide_eq_true_eq, Bool.or_eq_true, Bool.and_eq_true]
  omega
theorem rgoes_eq (r : Int) : rgoes r = inSp r nothingL := by
  unfold rgoes inSp nothingL
  simp only [List.any_cons, List.any_nil, Bool.or_false]
  rw [Bool.eq_iff_iff]
  simp only [decide_eq_true_eq, Bool.or_eq_true, Bool.and_eq_true]
  omega
theorem and_fffe {x : Nat} (hx : x < 2147483648) : bits .and .i32 (x : Int) 65534 = 65534 ↔ 65534 ≤ x % 65536 := by
  have e : bits .and .i32 (x : Int) 65534 = ((x &&& 65534 : Nat) : Int) := by
    show IntKind.i32.wrap ((((BitVec.ofInt 32 (x : Int)) &&& (BitVec.ofInt 32 65534)).toNat : Nat) : Int) = _
    have h1 : (BitVec.ofInt 32 (x : Int)).toNat = x := by rw [BitVec.toNat_ofInt]; omega
    have h2 : (BitVec.ofInt 32 65534).toNat = 65534 := by decide
    rw [BitVec.toNat_and, h1, h2]
    have := Nat.and_le_left (n := x) (m := 65534)
    exact wrap_i32 (by omega) (by omega)
  rw [e]
  have h : x &&& 65534 = (x % 65536) / 2 * 2 := by
    apply Nat.eq_of_testBit_eq
    intro i
    have h3 : (x % 65536) / 2 * 2 = ((x % 2 ^ 16) >>> 1) <<< 1 := by rw [Nat.shiftRight_eq_div_pow, Nat.shiftLeft_eq]
    have h4 : (65534 : Nat) = (2 ^ 15 - 1) <<< 1 := by decide
    rw [h3, h4, Nat.testBit_and, Nat.testBit_shiftLeft, Nat.testBit_shiftLeft, Nat.testBit_shiftRight, Nat.testBit_mod_two_pow, Nat.testBit_two_pow_sub_one]
    by_cases hi : 1 ≤ i
    · have e2 : 1 + (i - 1) = i := by omega
      have e3 : decide (i - 1 < 15) = decide (i < 16) := decide_eq_decide.2 (by omega)
      rw [decide_eq_true hi, e2, e3, Bool.true_and, Bool.true_and, Bool.and_comm]
    · rw [decide_eq_false hi]; simp
  rw [h]
  omega
theorem rbars_eq {x : Nat} (hx : x ≤ 1114111) : rbars (x : Int) = badZ (x : Int) := by
  unfold rbars badZ inSp barredL
  simp only [List.any_cons, List.any_nil, Bool.or_false]
  rw [Bool.eq_iff_iff]
  simp only [decide_eq_true_eq, Bool.or_eq_true, Bool.and_eq_true]
  rw [and_fffe (by omega)]
  omega
/-- A sign's bytes. -/
def rbytesL (r : Nat) : List UInt8 :=
  if r < 128 then [UInt8.ofNat r]
  else if r < 2048 then [UInt8.ofNat (192 + r / 64), UInt8.ofNat (128 + r % 64)]
  else if r < 65536 then [UInt8.ofNat (224 + r / 4096), UInt8.ofNat (128 + r / 64 % 64), UInt8.ofNat (128 + r % 64)]
  else [UInt8.ofNat (240 + r / 262144), UInt8.ofNat (128 + r / 4096 % 64), UInt8.ofNat (128 + r / 64 % 64), UInt8.ofNat (128 + r % 64)]
theorem low6 (y : Nat) : 128 ||| (UInt8.ofNat y &&& 63) = UInt8.ofNat (128 + y % 64) := by
  have key : ∀ n : _root_.Fin 256, 128 ||| (UInt8.ofNat n.1 &&& 63) = UInt8.ofNat (128 + n.1 % 64) := by decide +kernel
  have h := key ⟨y % 256, Nat.mod_lt _ (by decide)⟩
  have e1 : UInt8.ofNat (y % 256) = UInt8.ofNat y := by apply UInt8.toNat_inj.1; simp
  simp only [e1] at h
  rw [h]
  congr 2
  omega
theorem hi2 {y : Nat} (h : y < 32) : 192 ||| UInt8.ofNat y = UInt8.ofNat (192 + y) := by
  have key : ∀ n : _root_.Fin 32, 192 ||| UInt8.ofNat n.1 = UInt8.ofNat (192 + n.1) := by decide +kernel
  exact key ⟨y, h⟩
theorem hi3 {y : Nat} (h : y < 16) : 224 ||| UInt8.ofNat y = UInt8.ofNat (224 + y) := by
  have key : ∀ n : _root_.Fin 16, 224 ||| UInt8.ofNat n.1 = UInt8.ofNat (224 + n.1) := by decide +kernel
  exact key ⟨y, h⟩
theorem hi4 {y : Nat} (h : y < 8) : 240 ||| UInt8.ofNat y = UInt8.ofNat (240 + y) := by
  have key : ∀ n : _root_.Fin 8, 240 ||| UInt8.ofNat n.1 = UInt8.ofNat (240 + n.1) := by decide +kernel
  exact key ⟨y, h⟩
theorem encL_eq {r : Nat} (hr : r ≤ 1114111) : encL r = rbytesL r := by
  unfold rbytesL
  have hf : formOf r = if r < 128 then form0 else if r < 2048 then ⟨2, 0xe0, 0xc0, 0x80⟩ else if r < 65536 then ⟨3, 0xf0, 0xe0, 0x800⟩ else ⟨4, 0xf8, 0xf0, 0x10000⟩ := by
    simp only [formOf, Nam.fms, List.foldl_cons, List.foldl_nil, pickF, Nat.zero_le, if_true]
    by_cases h1 : r < 128
    · rw [if_pos h1, if_neg (by omega), if_neg (by omega), if_neg (by omega)]; rfl
    · by_cases h2 : r < 2048
      · rw [if_neg h1, if_pos h2, if_neg (by omega), if_neg (by omega), if_pos (by omega)]
      · by_cases h3 : r < 65536
        · rw [if_neg h1, if_neg h2, if_pos h3, if_neg (by omega), if_pos (by omega)]
        · rw [if_neg h1, if_neg h2, if_neg h3, if_pos (by omega)]
  unfold encL
  rw [hf]
  by_cases h1 : r < 128
  · rw [if_pos h1, if_pos h1]
    show [0 ||| UInt8.ofNat (r / 1)] = _
    rw [Nat.div_one, UInt8.zero_or]
  · by_cases h2 : r < 2048
    · rw [if_neg h1, if_pos h2, if_neg h1, if_pos h2]
      show [192 ||| UInt8.ofNat (r / 64), 128 ||| (UInt8.ofNat (r / 1) &&& 63)] = _
      rw [low6, hi2 (by omega), Nat.div_one]
    · by_cases h3 : r < 65536
      · rw [if_neg h1, if_neg h2, if_pos h3, if_neg h1, if_neg h2, if_pos h3]
        show [224 ||| UInt8.ofNat (r / 4096), 128 ||| (UInt8.ofNat (r / 64) &&& 63), 128 ||| (UInt8.ofNat (r / 1) &&& 63)] = _
        rw [low6, low6, hi3 (by omega), Nat.div_one]
      · rw [if_neg h1, if_neg h2, if_neg h3, if_neg h1, if_neg h2, if_neg h3]
        show [240 ||| UInt8.ofNat (r / 262144), 128 ||| (UInt8.ofNat (r / 4096) &&& 63), 128 ||| (UInt8.ofNat (r / 64) &&& 63), 128 ||| (UInt8.ofNat (r / 1) &&& 63)] = _
        rw [low6, low6, low6, hi4 (by omega), Nat.div_one]
/-- What is written of the signs of a text; none: one may not be there. -/
def prepR : List Int → Option (List UInt8)
  | [] => some []
  | z :: l => if rblank z = true then (prepR l).map ([32] ++ ·) else if rgoes z = true then prepR l else if rbars z = true then none else (prepR l).map (rbytesL z.toNat ++ ·)
theorem prepR_eq : ∀ (l : List Int), (∀ z ∈ l, ∃ x : Nat, z = (x : Int) ∧ x ≤ 1114111) → prepR l = if (l.flatMap prep1).any badZ = true then none else some ((l.flatMap prep1).flatMap encZ)
  | [], _ => rfl
  | z :: l, h => by
    obtain ⟨x, rfl, hx⟩ := h z List.mem_cons_self
    have ih := prepR_eq l (fun y hy => h y (List.mem_cons_of_mem _ hy))
    have e32 : encZ 32 = [32] := by decide
    have b32 : badZ 32 = false := by decide
    simp only [prepR, List.flatMap_cons, prep1]
    rw [rblank_eq, rgoes_eq, ih]
    by_cases h1 : inSp (x : Int) blanksL = true
    · rw [if_pos h1, if_pos h1]
      by_cases hb : (l.flatMap prep1).any badZ = true
      · rw [if_pos hb, if_pos (by rw [List.any_append, hb]; simp)]; rfl
      · rw [if_neg hb, if_neg (by rw [List.any_append]; simp only [List.any_cons, b32, List.any_nil, Bool.or_false, Bool.false_or]; exact hb)]
        simp only [Option.map_some, List.flatMap_append, List.flatMap_cons, List.flatMap_nil, e32, List.append_nil]
    · rw [if_neg h1, if_neg h1]
      by_cases h2 : inSp (x : Int) nothingL = true
      · rw [if_pos h2, if_pos h2]; rfl
      · rw [if_neg h2, if_neg h2, rbars_eq hx]
        by_cases h3 : badZ (x : Int) = true
        · rw [if_pos h3, if_pos (by rw [List.any_append, List.any_cons, h3]; rfl)]
        · rw [if_neg h3]
          have h3' : badZ (x : Int) = false := by simpa using h3
          by_cases hb : (l.flatMap prep1).any badZ = true
          · rw [if_pos hb, if_pos (by rw [List.any_append, hb]; simp)]; rfl
          · rw [if_neg hb, if_neg (by rw [List.any_append, List.any_cons, h3']; simpa using hb)]
            simp only [Option.map_some, List.flatMap_append, List.flatMap_cons, List.flatMap_nil, List.append_nil]
            rw [encZ, encL_eq (by omega)]
theorem signs_val {l : List UInt8} (hv : validB l = true) : ∀ x ∈ runesAt l 0, ∃ r : Nat, x.2 = (r : Int) ∧ Nam.sign r = true ∧ r ≤ 1114111 := by
  intro x hx
  have h := runesAt_vals l _ 0 (Nat.le_refl _)
  rw [List.drop_zero] at h
  have hm : x.2 ∈ (Nam.runes l).map runeI := by rw [← h]; exact List.mem_map.2 ⟨x, hx, rfl⟩
  obtain ⟨o, ho, he⟩ := List.mem_map.1 hm
  cases o with
  | none => have := List.all_eq_true.1 hv none ho; cases this
  | some r =>
    have hs := runes_sign l.length l (Nat.le_refl _) ho
    exact ⟨r, he.symm, hs, sign_le hs⟩
theorem rprep_eq (l : List UInt8) : prepF l = if validB l = true then (match prepR ((runesAt l 0).map (·.2)) with | none => (([], 5) : List UInt8 × Int) | some p => (p, 0)) else ([], 4) := by
  unfold prepF
  by_cases hv : validB l = true
  · rw [if_pos hv, if_pos hv]
    have h := prepR_eq ((runesAt l 0).map (·.2)) (fun z hz => by
      obtain ⟨x, hx, rfl⟩ := List.mem_map.1 hz
      obtain ⟨r, h1, _, h3⟩ := signs_val hv x hx
      exact ⟨r, h1, h3⟩)
    have e1 : prepAt (runesAt l 0) = ((runesAt l 0).map (·.2)).flatMap prep1 := by rw [prepAt, List.flatMap_map]
    rw [h, e1]
    split <;> rfl
  · rw [if_neg hv, if_neg hv]
end Go.Proofs.YthkjfepbmnabkaaGreatDoor.Sx

/- Names: plain ones. -/
namespace Go.Proofs.YthkjfepbmnabkaaGreatDoor.Sx
open Go
attribute [local irreducible] Calls

def okc (x : UInt8) : Bool := decide ((97 ≤ x.toNat ∧ x.toNat ≤ 122) ∨ (48 ≤ x.toNat ∧ x.toNat ≤ 57) ∨ x.toNat = 45 ∨ x.toNat = 95)
def plainF (l : List UInt8) : Bool := l.all okc && (decide (l ≠ []) && decide (l.length ≤ 32))
set_option maxHeartbeats 1000000 in
theorem plain_c (w : World) (s : ByteArray) (hl : s.size ≤ 100000) : Pu Tryz.prog n_name_Plain #[.string s] w (.bool (plainF s.data.toList)) := by
  have g := good_name_Plain w (Un [])
  have hlen : s.data.toList.length = s.size := rfl
  refine con_of_sx (cx := cx_name_Plain w (Un [])) g b_name_Plain rfl rfl (β := Va.z) [.c (.v (.string s))] 0 [] [] rfl rfl (Sat.start rfl) ?_
  intro b c hc _
  refine loop_rule 0 (fun k : Nat => [(0, .c (.v (.string s))), (6, .c (.v (.slice (some ⟨b, 0, none⟩) s.size c))), (7, .c (.v (.int .i64 s.size))), (8, .c (.v (.int .i64 (k : Int))))]) (fun _ => []) (fun _ => [rdoF 1 (some ⟨b, 0, none⟩) s.size (s.data.toList.map byte)])
    (fun k => k ≤ s.size ∧ (s.data.toList.take k).all okc = true) (fun k => s.size - k) 0 ⟨Nat.zero_le _, rfl⟩ (Ent.same ⟨rfl, rfl, rfl, rfl, trivial⟩ rfl) g ?_
  rintro k ⟨hk, hall⟩
  refine BIf.dec (fun hlt => ?_) (fun hge => ?_)
  · have hlt0 : (k : Int) < s.size := hlt
    have hkl : k < s.size := by omega
    obtain ⟨x, hx, hxm⟩ := at_lt (l := s.data.toList) (k := k) (by omega)
    obtain ⟨z, hz⟩ : ∃ z : Int, (x.toNat : Int) = z := ⟨_, rfl⟩
    have hsn : okc x = true → (s.data.toList.take (k + 1)).all okc = true := fun h => by rw [List.take_add_one, hx, List.all_append, hall]; simp [h]
    have bad : okc x = false → ∀ {n : Nat} {H : List Bk} {F : List Fact} (β : Va) (w' : World), Sat (cx_name_Plain w (Un [])) β n H F w' → Fin w [] (fun u Fs => u = .bool (plainF s.data.toList) ∧ Fs = []) (.bool false) w' := by
      intro h n H F β w' hs
      refine (hs.keepB (List.nil_sublist _)).fin [] ⟨?_, rfl⟩
      have : s.data.toList.all okc = false := by
        rw [List.all_eq_false]
        exact ⟨x, hxm, by rw [h]; decide⟩
      unfold plainF
      rw [this]
      rfl
    refine ⟨⟨b, 0, none⟩, k, rfl, rfl, hkl, .int .u8 z, fun β w' hs => by rw [← hz]; exact Rd.cell1 (u := byte x) (hs.get 0 rfl) (by rw [List.getElem?_map, hx]; rfl), ?_⟩
    conv => whnf
    generalize h1 : decide ((97 : Int) ≤ z) = b1
    cases b1 with
    | true =>
      conv => whnf
      generalize h2 : decide (z ≤ (122 : Int)) = b2
      cases b2 with
      | true =>
        refine ⟨((k + 1 : Nat) : Int), by rw [wrap_i64 (by omega) (by omega)]; rfl, ?_⟩
        exact ⟨k + 1, ⟨hkl, hsn (by simp only [decide_eq_true_eq, decide_eq_false_iff_not] at *; simp only [okc, decide_eq_true_eq]; omega)⟩, by omega, Ent.same ⟨rfl, rfl, rfl, rfl, trivial⟩ rfl⟩
      | false =>
        conv => whnf
        generalize h3 : decide ((48 : Int) ≤ z) = b3
        cases b3 with
        | true =>
          conv => whnf
          generalize h4 : decide (z ≤ (57 : Int)) = b4
          cases b4 with
          | true =>
            refine ⟨((k + 1 : Nat) : Int), by rw [wrap_i64 (by omega) (by omega)]; rfl, ?_⟩
            exact ⟨k + 1, ⟨hkl, hsn (by simp only [decide_eq_true_eq, decide_eq_false_iff_not] at *; simp only [okc, decide_eq_true_eq]; omega)⟩, by omega, Ent.same ⟨rfl, rfl, rfl, rfl, trivial⟩ rfl⟩
          | false =>
            conv => whnf
            generalize h5 : decide (z = (45 : Int)) = b5
            cases b5 with
            | true =>
              refine ⟨((k + 1 : Nat) : Int), by rw [wrap_i64 (by omega) (by omega)]; rfl, ?_⟩
              exact ⟨k + 1, ⟨hkl, hsn (by simp only [decide_eq_true_eq, decide_eq_false_iff_not] at *; simp only [okc, decide_eq_true_eq]; omega)⟩, by omega, Ent.same ⟨rfl, rfl, rfl, rfl, trivial⟩ rfl⟩
            | false =>
              conv => whnf
              generalize h6 : decide (z = (95 : Int)) = b6
              cases b6 with
              | true =>
                refine ⟨((k + 1 : Nat) : Int), by rw [wrap_i64 (by omega) (by omega)]; rfl, ?_⟩
                exact ⟨k + 1, ⟨hkl, hsn (by simp only [decide_eq_true_eq, decide_eq_false_iff_not] at *; simp only [okc, decide_eq_true_eq]; omega)⟩, by omega, Ent.same ⟨rfl, rfl, rfl, rfl, trivial⟩ rfl⟩
              | false =>
                exact bad (by simp only [decide_eq_true_eq, decide_eq_false_iff_not] at *; simp only [okc, decide_eq_false_iff_not]; omega)
        | false =>
          conv => whnf
          generalize h5 : decide (z = (45 : Int)) = b5
          cases b5 with
          | true =>
            refine ⟨((k + 1 : Nat) : Int), by rw [wrap_i64 (by omega) (by omega)]; rfl, ?_⟩
            exact ⟨k + 1, ⟨hkl, hsn (by simp only [decide_eq_true_eq, decide_eq_false_iff_not] at *; simp only [okc, decide_eq_true_eq]; omega)⟩, by omega, Ent.same ⟨rfl, rfl, rfl, rfl, trivial⟩ rfl⟩
          | false =>
            conv => whnf
            generalize h6 : decide (z = (95 : Int)) = b6
            cases b6 with
            | true =>
              refine ⟨((k + 1 : Nat) : Int), by rw [wrap_i64 (by omega) (by omega)]; rfl, ?_⟩
              exact ⟨k + 1, ⟨hkl, hsn (by simp only [decide_eq_true_eq, decide_eq_false_iff_not] at *; simp only [okc, decide_eq_true_eq]; omega)⟩, by omega, Ent.same ⟨rfl, rfl, rfl, rfl, trivial⟩ rfl⟩
            | false =>
              exact bad (by simp only [decide_eq_true_eq, decide_eq_false_iff_not] at *; simp only [okc, decide_eq_false_iff_not]; omega)
    | false =>
      conv => whnf
      generalize h3 : decide ((48 : Int) ≤ z) = b3
      cases b3 with
      | true =>
        conv => whnf
        generalize h4 : decide (z ≤ (57 : Int)) = b4
        cases b4 with
        | true =>
          refine ⟨((k + 1 : Nat) : Int), by rw [wrap_i64 (by omega) (by omega)]; rfl, ?_⟩
          exact ⟨k + 1, ⟨hkl, hsn (by simp only [decide_eq_true_eq, decide_eq_false_iff_not] at *; simp only [okc, decide_eq_true_eq]; omega)⟩, by omega, Ent.same ⟨rfl, rfl, rfl, rfl, trivial⟩ rfl⟩
        | false =>
          conv => whnf
          generalize h5 : decide (z = (45 : Int)) = b5
          cases b5 with
          | true =>
            refine ⟨((k + 1 : Nat) : Int), by rw [wrap_i64 (by omega) (by omega)]; rfl, ?_⟩
            exact ⟨k + 1, ⟨hkl, hsn (by simp only [decide_eq_true_eq, decide_eq_false_iff_not] at *; simp only [okc, decide_eq_true_eq]; omega)⟩, by omega, Ent.same ⟨rfl, rfl, rfl, rfl, trivial⟩ rfl⟩
          | false =>
            conv => whnf
            generalize h6 : decide (z = (95 : Int)) = b6
            cases b6 with
            | true =>
              refine ⟨((k + 1 : Nat) : Int), by rw [wrap_i64 (by omega) (by omega)]; rfl, ?_⟩
              exact ⟨k + 1, ⟨hkl, hsn (by simp only [decide_eq_true_eq, decide_eq_false_iff_not] at *; simp only [okc, decide_eq_true_eq]; omega)⟩, by omega, Ent.same ⟨rfl, rfl, rfl, rfl, trivial⟩ rfl⟩
            | false =>
              exact bad (by simp only [decide_eq_true_eq, decide_eq_false_iff_not] at *; simp only [okc, decide_eq_false_iff_not]; omega)
      | false =>
        conv => whnf
        generalize h5 : decide (z = (45 : Int)) = b5
        cases b5 with
        | true =>
          refine ⟨((k + 1 : Nat) : Int), by rw [wrap_i64 (by omega) (by omega)]; rfl, ?_⟩
          exact ⟨k + 1, ⟨hkl, hsn (by simp only [decide_eq_true_eq, decide_eq_false_iff_not] at *; simp only [okc, decide_eq_true_eq]; omega)⟩, by omega, Ent.same ⟨rfl, rfl, rfl, rfl, trivial⟩ rfl⟩
        | false =>
          conv => whnf
          generalize h6 : decide (z = (95 : Int)) = b6
          cases b6 with
          | true =>
            refine ⟨((k + 1 : Nat) : Int), by rw [wrap_i64 (by omega) (by omega)]; rfl, ?_⟩
            exact ⟨k + 1, ⟨hkl, hsn (by simp only [decide_eq_true_eq, decide_eq_false_iff_not] at *; simp only [okc, decide_eq_true_eq]; omega)⟩, by omega, Ent.same ⟨rfl, rfl, rfl, rfl, trivial⟩ rfl⟩
          | false =>
            exact bad (by simp only [decide_eq_true_eq, decide_eq_false_iff_not] at *; simp only [okc, decide_eq_false_iff_not]; omega)
  · have hge0 : ¬ (k : Int) < s.size := hge
    obtain rfl : k = s.size := by omega
    rw [← hlen, List.take_length] at hall
    have hpl : plainF s.data.toList = (decide (s.data.toList ≠ []) && decide (s.data.toList.length ≤ 32)) := by unfold plainF; rw [hall, Bool.true_and]
    refine BIf.not (BIf.dec (p := s = mkS []) (fun he => ?_) (fun he => ?_))
    · intro β w' hs
      refine (hs.keepB (List.nil_sublist _)).fin [] ⟨?_, rfl⟩
      rw [hpl, he]
      rfl
    · have hne : s.data.toList ≠ [] := fun q => he (by
        have : s = mkS s.data.toList := by cases s; rfl
        rw [this, q])
      intro β w' hs
      refine (hs.keepB (List.nil_sublist _)).fin [] ⟨?_, rfl⟩
      rw [hpl, decide_eq_true hne, Bool.true_and, hlen]
      show Value.bool (decide ((s.size : Int) ≤ 32)) = _
      congr 1
      exact decide_eq_decide.2 (by omega)
end Go.Proofs.YthkjfepbmnabkaaGreatDoor.Sx

/- The reference's signs: the first of a text. -/
namespace Go.Proofs.YthkjfepbmnabkaaGreatDoor.Sx
open Go
attribute [local irreducible] Calls

/-- A first byte that others follow. -/
def lead (b : UInt8) : Option (Nat × Nat) :=
  if 194 ≤ b.toNat ∧ b.toNat ≤ 223 then some (2, b.toNat - 192)
  else if 224 ≤ b.toNat ∧ b.toNat ≤ 239 then some (3, b.toNat - 224)
  else if 240 ≤ b.toNat ∧ b.toNat ≤ 244 then some (4, b.toNat - 240)
  else none
theorem tailR_bound : ∀ {l : List UInt8} {r q : Nat}, Nam.tailR l r = some q → r * 64 ^ l.length ≤ q ∧ q < (r + 1) * 64 ^ l.length
  | [], r, q, h => by
    obtain rfl := Option.some.inj h
    simp
  | b :: t, r, q, h => by
    simp only [Nam.tailR] at h
    split at h
    · obtain ⟨h1, h2⟩ := tailR_bound h
      have hb : b.toNat % 64 < 64 := Nat.mod_lt _ (by decide)
      rw [List.length_cons, Nat.pow_succ]
      constructor
      · have : r * (64 ^ t.length * 64) = (r * 64) * 64 ^ t.length := by rw [Nat.mul_comm (64 ^ t.length), Nat.mul_assoc]
        rw [this]
        exact Nat.le_trans (Nat.mul_le_mul_right _ (by omega)) h1
      · have : (r + 1) * (64 ^ t.length * 64) = ((r + 1) * 64) * 64 ^ t.length := by rw [Nat.mul_comm (64 ^ t.length), Nat.mul_assoc]
        rw [this]
        exact Nat.lt_of_lt_of_le h2 (Nat.mul_le_mul_right _ (by omega))
    · cases h
theorem lead_bits (b : UInt8) : (b.toNat < 128 → b &&& 0x80 = 0 ∧ (b &&& ~~~0x80).toNat = b.toNat) ∧ (192 ≤ b.toNat ∧ b.toNat ≤ 223 → b &&& 0xe0 = 0xc0 ∧ (b &&& ~~~0xe0).toNat = b.toNat - 192) ∧ (224 ≤ b.toNat ∧ b.toNat ≤ 239 → b &&& 0xf0 = 0xe0 ∧ (b &&& ~~~0xf0).toNat = b.toNat - 224) ∧ (240 ≤ b.toNat ∧ b.toNat ≤ 247 → b &&& 0xf8 = 0xf0 ∧ (b &&& ~~~0xf8).toNat = b.toNat - 240) ∧ ((128 ≤ b.toNat ∧ b.toNat ≤ 191) ∨ 248 ≤ b.toNat → ¬ b &&& 0x80 = 0 ∧ ¬ b &&& 0xe0 = 0xc0 ∧ ¬ b &&& 0xf0 = 0xe0 ∧ ¬ b &&& 0xf8 = 0xf0) := by
  refine Nam.u8_all (p := fun b => (b.toNat < 128 → b &&& 0x80 = 0 ∧ (b &&& ~~~0x80).toNat = b.toNat) ∧ (192 ≤ b.toNat ∧ b.toNat ≤ 223 → b &&& 0xe0 = 0xc0 ∧ (b &&& ~~~0xe0).toNat = b.toNat - 192) ∧ (224 ≤ b.toNat ∧ b.toNat ≤ 239 → b &&& 0xf0 = 0xe0 ∧ (b &&& ~~~0xf0).toNat = b.toNat - 224) ∧ (240 ≤ b.toNat ∧ b.toNat ≤ 247 → b &&& 0xf8 = 0xf0 ∧ (b &&& ~~~0xf8).toNat = b.toNat - 240) ∧ ((128 ≤ b.toNat ∧ b.toNat ≤ 191) ∨ 248 ≤ b.toNat → ¬ b &&& 0x80 = 0 ∧ ¬ b &&& 0xe0 = 0xc0 ∧ ¬ b &&& 0xf0 = 0xe0 ∧ ¬ b &&& 0xf8 = 0xf0)) ?_ b
  decide +kernel
theorem decL_form {b : UInt8} {t : List UInt8} {f : Nam.Fm} {r0 : Nat} (hf : f ∈ Nam.fms) (hb : b &&& f.mask = f.lead) (hr : (b &&& ~~~f.mask).toNat = r0) :
    Nam.decL (b :: t) = if (b :: t).length < f.size then (none, 1) else match Nam.tailR (t.take (f.size - 1)) r0 with
      | some r => if f.least ≤ r ∧ Nam.sign r = true then (some r, f.size) else (none, 1)
      | none => (none, 1) := by
  unfold Nam.decL
  rw [Nam.find_form hf hb]
  by_cases hl : f.size ≤ (b :: t).length
  · rw [if_pos hl, if_neg (by omega)]
    simp only [Nam.tryF, hr]
    cases Nam.tailR (t.take (f.size - 1)) r0 with
    | none => rfl
    | some r =>
      simp only
      by_cases h : f.least ≤ r ∧ Nam.sign r = true
      · rw [if_pos h, if_pos h]
      · rw [if_neg h, if_neg h]
  · rw [if_neg hl, if_pos (by omega)]
theorem decL_low {b : UInt8} {t : List UInt8} (h : b.toNat < 128) : Nam.decL (b :: t) = (some b.toNat, 1) := by
  obtain ⟨h1, h2⟩ := (lead_bits b).1 h
  rw [decL_form (f := ⟨1, 0x80, 0, 0⟩) (by simp [Nam.fms]) h1 h2, if_neg (by simp)]
  show (if 0 ≤ b.toNat ∧ Nam.sign b.toNat = true then (some b.toNat, 1) else (none, 1)) = _
  rw [if_pos ⟨Nat.zero_le _, by simp only [Nam.sign, Bool.and_eq_true, Bool.or_eq_true, decide_eq_true_eq]; omega⟩]
def badR (n r : Nat) : Prop := (n = 3 ∧ r < 2048) ∨ (n = 4 ∧ r < 65536) ∨ (55296 ≤ r ∧ r ≤ 57343) ∨ 1114111 < r
theorem sign_iff {r : Nat} : Nam.sign r = true ↔ r ≤ 1114111 ∧ (r < 55296 ∨ 57343 < r) := by
  simp only [Nam.sign, Bool.and_eq_true, Bool.or_eq_true, decide_eq_true_eq]
open Classical in
theorem decL_lead {b : UInt8} {t : List UInt8} {n r0 : Nat} (h : lead b = some (n, r0)) : 2 ≤ n ∧ n ≤ 4 ∧ r0 < 32 ∧
    Nam.decL (b :: t) = if (b :: t).length < n then (none, 1) else match Nam.tailR (t.take (n - 1)) r0 with
      | some r => if badR n r then (none, 1) else (some r, n)
      | none => (none, 1) := by
  obtain ⟨_, k2, k3, k4, _⟩ := lead_bits b
  have hlt := b.toNat_lt
  have fin_ : ∀ {f : Nam.Fm}, f ∈ Nam.fms → f.size = n → b &&& f.mask = f.lead → (b &&& ~~~f.mask).toNat = r0 → (∀ r, Nam.tailR (t.take (n - 1)) r0 = some r → n ≤ (b :: t).length → ((f.least ≤ r ∧ Nam.sign r = true) ↔ ¬ badR n r)) →
      Nam.decL (b :: t) = if (b :: t).length < n then (none, 1) else match Nam.tailR (t.take (n - 1)) r0 with
        | some r => if badR n r then (none, 1) else (some r, n)
        | none => (none, 1) := by
    intro f hf hn h1 h2 hq
    subst hn
    rw [decL_form hf h1 h2]
    by_cases hl : (b :: t).length < f.size
    · rw [if_pos hl, if_pos hl]
    · rw [if_neg hl, if_neg hl]
      cases hr : Nam.tailR (t.take (f.size - 1)) r0 with
      | none => rfl
      | some r =>
        simp only
        have := hq r hr (by omega)
        by_cases hb : badR f.size r
        · rw [if_pos hb, if_neg (fun q => this.1 q hb)]
        · rw [if_neg hb, if_pos (this.2 hb)]
  unfold lead at h
  split at h
  · rename_i hh
    obtain ⟨rfl, rfl⟩ := Prod.mk.inj (Option.some.inj h)
    obtain ⟨h1, h2⟩ := k2 (by omega)
    refine ⟨by decide, by decide, by omega, fin_ (f := ⟨2, 0xe0, 0xc0, 0x80⟩) (by simp [Nam.fms]) rfl h1 h2 (fun r hr hl => ?_)⟩
    have hb := tailR_bound hr
    have hl1 : (t.take 1).length = 1 := by rw [List.length_take]; simp only [List.length_cons] at hl; omega
    rw [hl1] at hb
    rw [sign_iff]
    show (128 ≤ r ∧ _) ↔ _
    unfold badR
    omega
  · split at h
    · rename_i hh
      obtain ⟨rfl, rfl⟩ := Prod.mk.inj (Option.some.inj h)
      obtain ⟨h1, h2⟩ := k3 (by omega)
      refine ⟨by decide, by decide, by omega, fin_ (f := ⟨3, 0xf0, 0xe0, 0x800⟩) (by simp [Nam.fms]) rfl h1 h2 (fun r hr hl => ?_)⟩
      rw [sign_iff]
      show (2048 ≤ r ∧ _) ↔ _
      unfold badR
      omega
    · split at h
      · rename_i hh
        obtain ⟨rfl, rfl⟩ := Prod.mk.inj (Option.some.inj h)
        obtain ⟨h1, h2⟩ := k4 (by omega)
        refine ⟨by decide, by decide, by omega, fin_ (f := ⟨4, 0xf8, 0xf0, 0x10000⟩) (by simp [Nam.fms]) rfl h1 h2 (fun r hr hl => ?_)⟩
        rw [sign_iff]
        show (65536 ≤ r ∧ _) ↔ _
        unfold badR
        omega
      · cases h
theorem decL_bad {b : UInt8} {t : List UInt8} (h0 : ¬ b.toNat < 128) (h : lead b = none) : Nam.decL (b :: t) = (none, 1) := by
  obtain ⟨_, k2, k3, k4, k5⟩ := lead_bits b
  have hlt := b.toNat_lt
  unfold lead at h
  split at h
  · cases h
  · split at h
    · cases h
    · split at h
      · cases h
      · rename_i a1 a2 a3
        by_cases c1 : b.toNat = 192 ∨ b.toNat = 193
        · obtain ⟨h1, h2⟩ := k2 (by omega)
          rw [decL_form (f := ⟨2, 0xe0, 0xc0, 0x80⟩) (by simp [Nam.fms]) h1 h2]
          by_cases hl : (b :: t).length < 2
          · rw [if_pos hl]
          · rw [if_neg hl]
            show (match Nam.tailR (t.take 1) (b.toNat - 192) with | some r => if 128 ≤ r ∧ Nam.sign r = true then (some r, 2) else (none, 1) | none => (none, 1)) = _
            cases hr : Nam.tailR (t.take 1) (b.toNat - 192) with
            | none => rfl
            | some r =>
              have hb := tailR_bound hr
              have hl1 : (t.take 1).length = 1 := by rw [List.length_take]; simp only [List.length_cons] at hl; omega
              rw [hl1] at hb
              simp only
              rw [if_neg (by omega)]
        · by_cases c2 : 245 ≤ b.toNat ∧ b.toNat ≤ 247
          · obtain ⟨h1, h2⟩ := k4 (by omega)
            rw [decL_form (f := ⟨4, 0xf8, 0xf0, 0x10000⟩) (by simp [Nam.fms]) h1 h2]
            by_cases hl : (b :: t).length < 4
            · rw [if_pos hl]
            · rw [if_neg hl]
              show (match Nam.tailR (t.take 3) (b.toNat - 240) with | some r => if 65536 ≤ r ∧ Nam.sign r = true then (some r, 4) else (none, 1) | none => (none, 1)) = _
              cases hr : Nam.tailR (t.take 3) (b.toNat - 240) with
              | none => rfl
              | some r =>
                have hb := tailR_bound hr
                have hl1 : (t.take 3).length = 3 := by rw [List.length_take]; simp only [List.length_cons] at hl; omega
                rw [hl1] at hb
                simp only
                rw [if_neg (by rw [sign_iff]; omega)]
          · obtain ⟨p1, p2, p3, p4⟩ := k5 (by omega)
            unfold Nam.decL
            rw [Nam.find_none (fun f hf => by
              simp only [Nam.fms, List.mem_cons, List.not_mem_nil, or_false] at hf
              rcases hf with rfl | rfl | rfl | rfl
              · exact p1
              · exact p2
              · exact p3
              · exact p4)]
end Go.Proofs.YthkjfepbmnabkaaGreatDoor.Sx

/- Statements one by one: so that a rule stands at each. -/
namespace Go.Proofs.YthkjfepbmnabkaaGreatDoor.Sx
open Go

section
variable {cx : Cx} {n : Nat} {H : List Bk} {F : List Fact} {w : World}
theorem calls_of_tri {f : FuncId} {fn : Func} {c : Code} {R : Value → World → Prop} (g : Good cx) (hf : cx.P.funcs[f]? = some fn) (hb : fn.body = some c) (hN : fn.ntmps = cx.N)
    {β : Va} (svs : List SV) (n : Nat) (H : List Bk) (F : List Fact) (hlen : Nat.ble svs.length cx.N = true) (hltB : allLt n svs = true) (hs : Sat cx β n H F w)
    (hw : Tri cx c (fnPost cx fn.results.toList R) n (pairs 0 svs) H F) (hr : cx.rnd = none := by rfl) (hm : β.marks = [] := by rfl) (hp0 : cx.pn = [] := by rfl) :
    Calls cx.P f (svs.map (SV.val β)).toArray w fun e w' => ∃ v, e = .returned v ∧ R v w' := by
  have hfe : cx.fence = Fence.wide := by unfold Cx.fence; rw [hr]
  refine (callsIn_wide (n := 0)).1 (callsIn_of_wp_marks hf hb trivial ?_)
  have hlt := allLt_mem hltB
  have hlen' : svs.length ≤ cx.N := Nat.le_of_ble_eq_true hlen
  have hi : Inv cx β n (pairs 0 svs) H F { tmps := (svs.map (SV.val β)).toArray ++ Array.replicate (fn.ntmps - (svs.map (SV.val β)).toArray.size) undef, defers := [] } w := by
    refine ⟨fun t s ht => ?_, ?_, by rw [hm]; rfl, fun t s ht => ?_, hs⟩
    · obtain ⟨j, rfl, hj⟩ := pairs_get svs 0 t s ht
      have hjl : j < svs.length := (List.getElem?_eq_some_iff.1 hj).1
      rw [Array.getElem?_append_left (by simp; omega)]
      simp [hj]
    · simp [hN]; omega
    · obtain ⟨j, rfl, hj⟩ := pairs_get svs 0 t s ht
      exact hlt s (List.mem_of_getElem? hj)
  have h0 := hw.run β _ w hi
  rw [hfe] at h0
  refine wpIn_mono h0 fun e a' w' hq => ?_
  have key : After cx (RetWP cx fn.results.toList R) a' w' → LeavesInM Fence.wide 0 cx.P fn a'.tmps (fun e w' => ∃ v, e = .returned v ∧ R v w') a'.defers .returning w' := by
    rintro ⟨β', n', env', H', F', h', hp⟩
    rw [← hfe]
    have hd := h'.df
    obtain ⟨tmps, defers⟩ := a'
    simp only at hd
    subst hd
    exact leaves_sx g hr hp0 _ β' w' rfl h' hp
  cases e with
  | normal => exact key hq
  | ret => exact key hq
  | exit id => obtain ⟨_, _, _, _, _, _, hq⟩ := hq; exact hq.elim
  | goto l => obtain ⟨_, _, _, _, _, _, hq⟩ := hq; exact hq.elim
  | panic ch => exact hq.elim
  | outgrown => exact hq.elim
theorem con_of_tri {f : FuncId} {fn : Func} {c : Code} {Gs : List Fact} {R : Value → List Fact → Prop} (g : Good cx) (hf : cx.P.funcs[f]? = some fn) (hb : fn.body = some c) (hN : fn.ntmps = cx.N)
    {β : Va} (svs : List SV) (n : Nat) (H : List Bk) (F : List Fact) (hlen : Nat.ble svs.length cx.N = true) (hltB : allLt n svs = true) (hs : Sat cx β n H F w)
    (hw : Tri cx c (fnPost cx fn.results.toList (Fin w Gs R)) n (pairs 0 svs) H F) (hr : cx.rnd = none := by rfl) (hm : β.marks = [] := by rfl) (hp0 : cx.pn = [] := by rfl) :
    Con cx.P f (svs.map (SV.val β)).toArray w Gs R := calls_of_tri g hf hb hN svs n H F hlen hltB hs hw hr hm hp0
theorem tri_seq (g : Good cx) {c1 c2 : Code} {Q : Exit → KT} {env : Env} (h : cwp cx c1 (andThen (fun n env H F => Tri cx c2 Q n env H F) Q) n env H F) : Tri cx (.seq c1 c2) Q n env H F := by
  refine ⟨fun β a w hi => wpIn_seq (wpIn_mono ((cwp_sound g c1 _ n env H F h).run β a w hi) fun e a w hq => ?_)⟩
  cases e with
  | normal =>
    obtain ⟨β', n', env', H', F', h', hq'⟩ := hq
    exact hq'.run β' a w h'
  | exit i => exact hq
  | goto l => exact hq
  | ret => exact hq
  | panic c => exact hq
  | outgrown => exact hq
theorem tri_of (g : Good cx) {c : Code} {Q : Exit → KT} {env : Env} (h : cwp cx c Q n env H F) : Tri cx c Q n env H F := cwp_sound g c Q n env H F h
end
theorem tri_seqJ {cx : Cx} {n : Nat} {H : List Bk} {F : List Fact} {ι : Type} (g : Good cx) {c1 c2 : Code} {Q : Exit → KT} {env : Env} (T : ι → Prop) (n' : Nat) (E : ι → Env) (HH : ι → List Bk) (FF : ι → List Fact) (hkey : ∀ i, T i → Tri cx c2 Q n' (E i) (HH i) (FF i))
    (h : cwp cx c1 (andThen (fun n env H F => EntX cx n env H F T n' E HH FF) Q) n env H F) : Tri cx (.seq c1 c2) Q n env H F := by
  refine ⟨fun β a w hi => wpIn_seq (wpIn_mono ((cwp_sound g c1 _ n env H F h).run β a w hi) fun e a w hq => ?_)⟩
  cases e with
  | normal =>
    obtain ⟨β', n', env', H', F', h', hq'⟩ := hq
    exact (tri_join T _ E HH FF hkey hq').run β' a w h'
  | exit i => exact hq
  | goto l => exact hq
  | ret => exact hq
  | panic c => exact hq
  | outgrown => exact hq
end Go.Proofs.YthkjfepbmnabkaaGreatDoor.Sx

/- The reference's names: what becomes a blank, what goes, what may not be there; a sign's bytes. -/
namespace Go.Proofs.YthkjfepbmnabkaaGreatDoor.Sx
open Go
attribute [local irreducible] Calls

theorem rblank_c (w : World) (z : Int) : Pu Tryz.prog n_ostiaryref04_blank #[.int .i64 z] w (.bool (rblank z)) := by
  refine con_of_sx (cx := cx_ostiaryref04_blank w (Un [])) (good_ostiaryref04_blank w (Un [])) b_ostiaryref04_blank rfl rfl (β := Va.z) [.c (.v (.int .i64 z))] 0 [] [] rfl rfl (Sat.start rfl) ?_
  repeat' refine BIf.dec (fun h => ?_) (fun h => ?_)
  all_goals
    intro β w' hs
    refine hs.fin [] ⟨?_, rfl⟩
    show Value.bool _ = Value.bool _
    congr 1
    unfold rblank
    rw [Bool.eq_iff_iff]
    simp only [decide_eq_true_eq, Bool.false_eq_true, true_iff, false_iff]
    omega
theorem rgoes_c (w : World) (z : Int) : Pu Tryz.prog n_ostiaryref04_goes #[.int .i64 z] w (.bool (rgoes z)) := by
  refine con_of_sx (cx := cx_ostiaryref04_goes w (Un [])) (good_ostiaryref04_goes w (Un [])) b_ostiaryref04_goes rfl rfl (β := Va.z) [.c (.v (.int .i64 z))] 0 [] [] rfl rfl (Sat.start rfl) ?_
  repeat' refine BIf.dec (fun h => ?_) (fun h => ?_)
  all_goals
    intro β w' hs
    refine hs.fin [] ⟨?_, rfl⟩
    show Value.bool _ = Value.bool _
    congr 1
    unfold rgoes
    rw [Bool.eq_iff_iff]
    simp only [decide_eq_true_eq, Bool.false_eq_true, true_iff, false_iff]
    omega
theorem rtail_c (w : World) (z : Int) : Pu Tryz.prog n_ostiaryref04_tail #[.int .u8 z] w (.bool (decide (128 ≤ z ∧ z ≤ 191))) := by
  refine con_of_sx (cx := cx_ostiaryref04_tail w (Un [])) (good_ostiaryref04_tail w (Un [])) b_ostiaryref04_tail rfl rfl (β := Va.z) [.c (.v (.int .u8 z))] 0 [] [] rfl rfl (Sat.start rfl) ?_
  repeat' refine BIf.dec (fun h => ?_) (fun h => ?_)
  all_goals
    intro β w' hs
    refine hs.fin [] ⟨?_, rfl⟩
    show Value.bool _ = Value.bool _
    congr 1
    rw [Bool.eq_iff_iff]
    simp only [decide_eq_true_eq, Bool.false_eq_true, true_iff, false_iff]
    omega
set_option maxHeartbeats 2000000 in
theorem rbars_c (w : World) (z : Int) (h0 : 0 ≤ z) : Pu Tryz.prog n_ostiaryref04_bars #[.int .i64 z] w (.bool (rbars z)) := by
  refine con_of_sx (cx := cx_ostiaryref04_bars w (Un [])) (good_ostiaryref04_bars w (Un [])) b_ostiaryref04_bars rfl rfl (β := Va.z) [.c (.v (.int .i64 z))] 0 [] [] rfl rfl (Sat.start rfl) ?_
  obtain ⟨m, hm⟩ : ∃ m, z.tmod 65536 = m := ⟨_, rfl⟩
  have hm2 : z % 65536 = m := by rw [← hm, Int.tmod_eq_emod_of_nonneg h0]
  repeat' refine BIf.dec (fun h => ?_) (fun h => ?_)
  all_goals
    try refine ⟨by decide, m, hm, ?_⟩
    intro β w' hs
    refine hs.fin [] ⟨?_, rfl⟩
    show Value.bool _ = Value.bool _
    congr 1
    unfold rbars
    rw [Bool.eq_iff_iff]
    simp only [decide_eq_true_eq, Bool.false_eq_true, true_iff, false_iff]
    omega
end Go.Proofs.YthkjfepbmnabkaaGreatDoor.Sx

/- The reference's names: the sign in front. -/
namespace Go.Proofs.YthkjfepbmnabkaaGreatDoor.Sx
open Go
attribute [local irreducible] Calls

set_option maxHeartbeats 2000000 in
theorem rfirst_c (w : World) (s : ByteArray) (b0 : UInt8) (t : List UInt8) (hs0 : s.data.toList = b0 :: t) (hsz : s.size ≤ maxLen) :
    Pu Tryz.prog n_ostiaryref04_first #[.string s] w (.tuple #[.int .i64 (runeI (Nam.decL (b0 :: t)).1), .int .i64 ((Nam.decL (b0 :: t)).2 : Int)]) := by
  have g := good_ostiaryref04_first w (Un [])
  have hlen : s.size = (b0 :: t).length := by rw [← hs0]; rfl
  have hml := maxLen_eq
  refine con_of_tri (cx := cx_ostiaryref04_first w (Un [])) g b_ostiaryref04_first rfl rfl (β := Va.z) [.c (.v (.string s))] 0 [] [] rfl rfl (Sat.start rfl) ?_
  have fin : ∀ (a b : Int), runeI (Nam.decL (b0 :: t)).1 = a → ((Nam.decL (b0 :: t)).2 : Int) = b → ∀ {n : Nat} {H : List Bk} {F : List Fact} (β : Va) (w' : World), Sat (cx_ostiaryref04_first w (Un [])) β n H F w' → Fin w [] (fun u Fs => u = .tuple #[.int .i64 (runeI (Nam.decL (b0 :: t)).1), .int .i64 ((Nam.decL (b0 :: t)).2 : Int)] ∧ Fs = []) (.tuple #[.int .i64 a, .int .i64 b]) w' := by
    intro a b h1 h2 n H F β w' hs
    rw [h1, h2]
    exact (hs.keepB (List.nil_sublist _)).fin [] ⟨rfl, rfl⟩
  obtain ⟨c, hc⟩ : ∃ c, b0.toNat = c := ⟨_, rfl⟩
  have hc256 : c < 256 := by rw [← hc]; exact b0.toNat_lt
  refine tri_seq g ?_
  refine tri_seq g ?_
  refine ⟨0, b0, rfl, by rw [hs0]; rfl, ?_⟩
  refine ⟨(c : Int), by rw [hc]; exact wrap_i64 (by omega) (by omega), ?_⟩
  refine tri_seq g ?_
  refine tri_seqJ (ι := Nat × Nat × Int × Int) g (fun i => lead b0 = some (i.1, i.2.1) ∧ (i.1 : Int) = i.2.2.1 ∧ (i.2.1 : Int) = i.2.2.2) 0 (fun i => [(0, .c (.v (.string s))), (5, .c (.v (.int .i64 i.2.2.1))), (6, .c (.v (.int .i64 i.2.2.2)))]) (fun _ => []) (fun _ => []) ?_ ?_
  · rintro ⟨n, r0, y, z0⟩ ⟨hld, hy, hz0⟩
    simp only at hld hy hz0
    obtain ⟨hn2, hn4, hr0, hdec⟩ := decL_lead (t := t) hld
    simp only
    refine tri_of g ?_
    refine BIf.dec (fun hsh => ?_) (fun hsh => ?_)
    · have hsh0 : (s.size : Int) < y := hsh
      rw [if_pos (by omega)] at hdec
      exact fun β w' hs => fin (-1) 1 (by rw [hdec]; rfl) (by rw [hdec]; rfl) β w' hs
    · have hsh0 : ¬ (s.size : Int) < y := hsh
      rw [if_neg (by omega)] at hdec
      have hfl : n ≤ (b0 :: t).length := by omega
      have hr256 : r0 < 256 := by omega
      refine loop_rule (ι := Nat × Nat × Int) 0 (fun q => [(0, .c (.v (.string s))), (5, .c (.v (.int .i64 y))), (6, .c (.v (.int .i64 q.2.2))), (7, .c (.v (.int .i64 (q.1 : Int))))]) (fun _ => []) (fun _ => [])
        (fun q => 1 ≤ q.1 ∧ q.1 ≤ n ∧ Nam.tailR (t.take (q.1 - 1)) r0 = some q.2.1 ∧ q.2.1 < 256 * 64 ^ (q.1 - 1) ∧ (q.2.1 : Int) = q.2.2) (fun q => n - q.1) (1, r0, z0) ⟨Nat.le_refl _, by omega, rfl, by simpa using hr256, hz0⟩ (Ent.same ⟨rfl, rfl, rfl, rfl, trivial⟩ rfl) g ?_
      rintro ⟨k, r, z⟩ ⟨hk1, hk2, htl, hrb, hz⟩
      simp only at hk1 hk2 htl hrb hz
      simp only
      refine BIf.dec (fun hks => ?_) (fun hks => ?_)
      · have hks1 : (k : Int) < y := hks
        have hkt : k - 1 < t.length := by simp only [List.length_cons] at hfl; omega
        obtain ⟨x, hx, hxm⟩ := at_lt hkt
        have hcs : s.data.toList[k]? = some x := by
          rw [hs0]
          obtain ⟨k', rfl⟩ : ∃ k', k = k' + 1 := ⟨k - 1, by omega⟩
          simpa using hx
        have hsn : t.take k = t.take (k - 1) ++ [x] := by
          have := List.take_add_one (l := t) (i := k - 1)
          rw [hx, Nat.sub_add_cancel hk1] at this
          exact this
        have hrb2 : r < 33554432 := by
          have : 64 ^ (k - 1) ≤ 64 ^ 2 := Nat.pow_le_pow_right (by decide) (by omega)
          omega
        obtain ⟨m, hm⟩ : ∃ m, x.toNat = m := ⟨_, rfl⟩
        have hm256 : m < 256 := by rw [← hm]; exact x.toNat_lt
        refine ⟨k, x, rfl, hcs, ?_⟩
        obtain ⟨bt, hbt⟩ : ∃ bt, decide (128 ≤ (m : Int) ∧ (m : Int) ≤ 191) = bt := ⟨_, rfl⟩
        refine call_pu (v := .bool bt) (fun β w' hs => by rw [← hbt, ← hm]; exact rtail_c w' (x.toNat : Int)) ?_
        cases bt with
        | true =>
          have hct := of_decide_eq_true hbt
          have hcc : x.toNat / 64 = 2 := by rw [hm]; omega
          refine ⟨((r * 64 : Nat) : Int), by rw [← hz, wrap_i64 (by omega) (by omega)]; omega, ?_⟩
          refine ⟨k, x, rfl, hcs, ?_⟩
          refine ⟨((m % 64 : Nat) : Int), by rw [hm, wrap_u8]; omega, ?_⟩
          refine ⟨((m % 64 : Nat) : Int), wrap_i64 (by omega) (by omega), ?_⟩
          refine ⟨((r * 64 + m % 64 : Nat) : Int), by rw [wrap_i64 (by omega) (by omega)]; omega, ?_⟩
          refine ⟨((k + 1 : Nat) : Int), by rw [wrap_i64 (by omega) (by omega)]; rfl, ?_⟩
          refine ⟨(k + 1, r * 64 + m % 64, ((r * 64 + m % 64 : Nat) : Int)), ⟨by show 1 ≤ k + 1; omega, by show k + 1 ≤ n; omega, ?_, ?_, rfl⟩, by show n - (k + 1) < n - k; omega, Ent.same ⟨rfl, rfl, rfl, rfl, trivial⟩ rfl⟩
          · show Nam.tailR (t.take (k + 1 - 1)) r0 = some (r * 64 + m % 64)
            rw [Nat.add_sub_cancel, hsn, tailR_snoc, htl]
            simp only
            rw [if_pos hcc, hm]
          · show r * 64 + m % 64 < 256 * 64 ^ (k + 1 - 1)
            obtain ⟨k', rfl⟩ : ∃ k', k = k' + 1 := ⟨k - 1, by omega⟩
            simp only [Nat.add_sub_cancel] at hrb ⊢
            rw [Nat.pow_succ]
            omega
        | false =>
          have hct := of_decide_eq_false hbt
          have hcc : ¬ x.toNat / 64 = 2 := fun q => hct (by rw [hm] at q; omega)
          have hnone : Nam.tailR (t.take (n - 1)) r0 = none := by
            refine Nam.tailR_none ⟨x, ?_, hcc⟩
            have h2 : x ∈ t.take k := by rw [hsn]; simp
            exact List.take_subset_take_left t (by omega) h2
          rw [hnone] at hdec
          exact fun β w' hs => fin (-1) 1 (by rw [hdec]; rfl) (by rw [hdec]; rfl) β w' hs
      · have hks1 : ¬ (k : Int) < y := hks
        obtain rfl : k = n := by omega
        rw [htl] at hdec
        simp only at hdec
        by_cases hb : badR k r
        · rw [if_pos hb] at hdec
          unfold badR at hb
          repeat' refine BIf.dec (fun h => ?_) (fun h => ?_)
          all_goals first
            | exact fun β w' hs => fin (-1) 1 (by rw [hdec]; rfl) (by rw [hdec]; rfl) β w' hs
            | (exfalso; omega)
        · rw [if_neg hb] at hdec
          unfold badR at hb
          repeat' refine BIf.dec (fun h => ?_) (fun h => ?_)
          all_goals first
            | exact fun β w' hs => fin z y (by rw [hdec]; exact hz) (by rw [hdec]; exact hy) β w' hs
            | (exfalso; omega)
  · generalize hz : (c : Int) = z
    repeat' refine BIf.dec (fun h => ?_) (fun h => ?_)
    all_goals first
      | (exfalso; omega)
      | exact fun β w' hs => fin z 1 (by rw [decL_low (by omega), ← hz, ← hc]; rfl) (by rw [decL_low (by omega)]; rfl) β w' hs
      | exact fun β w' hs => fin (-1) 1 (by rw [decL_bad (by omega) (by unfold lead; rw [hc, if_neg (by omega), if_neg (by omega), if_neg (by omega)])]; rfl) (by rw [decL_bad (by omega) (by unfold lead; rw [hc, if_neg (by omega), if_neg (by omega), if_neg (by omega)])]; rfl) β w' hs
      | (refine ⟨((c - 192 : Nat) : Int), by rw [wrap_i64 (by omega) (by omega)]; omega, ?_⟩
         exact EntX.of (2, c - 192, 2, ((c - 192 : Nat) : Int)) ⟨by show lead b0 = some (2, c - 192); unfold lead; rw [hc, if_pos (by omega)], rfl, rfl⟩ (Ent.mk' ⟨rfl, rfl, rfl, trivial⟩ rfl (fun β w' hs => hs)))
      | (refine ⟨((c - 224 : Nat) : Int), by rw [wrap_i64 (by omega) (by omega)]; omega, ?_⟩
         exact EntX.of (3, c - 224, 3, ((c - 224 : Nat) : Int)) ⟨by show lead b0 = some (3, c - 224); unfold lead; rw [hc, if_neg (by omega), if_pos (by omega)], rfl, rfl⟩ (Ent.mk' ⟨rfl, rfl, rfl, trivial⟩ rfl (fun β w' hs => hs)))
      | (refine ⟨((c - 240 : Nat) : Int), by rw [wrap_i64 (by omega) (by omega)]; omega, ?_⟩
         exact EntX.of (4, c - 240, 4, ((c - 240 : Nat) : Int)) ⟨by show lead b0 = some (4, c - 240); unfold lead; rw [hc, if_neg (by omega), if_neg (by omega), if_pos (by omega)], rfl, rfl⟩ (Ent.mk' ⟨rfl, rfl, rfl, trivial⟩ rfl (fun β w' hs => hs)))
end Go.Proofs.YthkjfepbmnabkaaGreatDoor.Sx

/- The reference's names: a text's signs; a sign's bytes. -/
namespace Go.Proofs.YthkjfepbmnabkaaGreatDoor.Sx
open Go
attribute [local irreducible] Calls

def signV (x : Rn) : List Value := [.int .i64 (x.1 : Int), .int .i64 x.2]
def signsV (l : List Rn) : List Value := l.flatMap signV
abbrev sgnF (A : Option Addr) (l : List Rn) (c : Nat) : Fact := rowF ty_ostiaryref04_Sign 2 (.slice A l.length c) l.length (signsV l)
theorem signsV_snoc (l : List Rn) (x : Rn) : signsV (l ++ [x]) = signsV l ++ signV x := by simp [signsV]
theorem signV_one (x : Rn) : ∀ u ∈ signV x, u.oneCell' = true := by
  intro u hu
  simp only [signV, List.mem_cons, List.not_mem_nil, or_false] at hu
  rcases hu with rfl | rfl <;> rfl
theorem rsigns_c (w : World) (s : ByteArray) (hl : s.size ≤ 1000000) :
    Con Tryz.prog n_ostiaryref04_Signs #[.string s] w [] fun v Fs => ∃ A c, v = .slice A (runesAt s.data.toList 0).length c ∧ (runesAt s.data.toList 0).length ≤ c ∧ (0 < (runesAt s.data.toList 0).length → ∃ ad, A = some ad) ∧ Fs = [sgnF A (runesAt s.data.toList 0) c] := by
  have g := good_ostiaryref04_Signs w (Un [])
  have hlen : s.data.toList.length = s.size := rfl
  have hml := maxLen_eq
  refine con_of_sx (cx := cx_ostiaryref04_Signs w (Un [])) g b_ostiaryref04_Signs rfl rfl (β := Va.z) [.c (.v (.string s))] 0 [] [sgnF none [] 0] rfl rfl ((Sat.start rfl).nilRow _ _) ?_
  refine loop_rule (ι := List Rn × Nat × Option Addr × Nat) 0 (fun i => [(0, .c (.v (.string s))), (3, .c (.v (.slice i.2.2.1 i.1.length i.2.2.2))), (4, .c (.v (.int .i64 (i.2.1 : Int))))]) (fun _ => []) (fun i => [sgnF i.2.2.1 i.1 i.2.2.2])
    (fun i => runesAt s.data.toList 0 = i.1 ++ runesAt s.data.toList i.2.1 ∧ i.2.1 ≤ s.size ∧ i.1.length ≤ i.2.1 ∧ i.1.length ≤ i.2.2.2) (fun i => s.size - i.2.1) ([], 0, none, 0) ⟨rfl, Nat.zero_le _, Nat.zero_le _, Nat.zero_le _⟩ (Ent.same ⟨rfl, rfl, rfl, trivial⟩ rfl) g ?_
  rintro ⟨pre, i, A1, c1⟩ ⟨hsc, hi, hgi, hgc⟩
  simp only at hsc hi hgi hgc
  simp only
  refine BIf.dec (fun hlt => ?_) (fun hge => ?_)
  · have hlt0 : (i : Int) < s.size := hlt
    have hil : i < s.data.toList.length := by omega
    refine ⟨s.size, i, rfl, rfl, Nat.le_refl _, hi, ?_⟩
    have hd := Nam.decL_size (drop_ne hil)
    rw [List.length_drop] at hd
    rw [runesAt_cons hil] at hsc
    obtain ⟨b0, t, hbt⟩ : ∃ b0 t, s.data.toList.drop i = b0 :: t := by
      cases h : s.data.toList.drop i with
      | nil => exact absurd h (drop_ne hil)
      | cons b t => exact ⟨b, t, rfl⟩
    obtain ⟨o, n, hon⟩ : ∃ o n, Nam.decL (s.data.toList.drop i) = (o, n) := ⟨_, _, rfl⟩
    rw [hon] at hd hsc
    simp only at hd hsc
    obtain ⟨z, hz⟩ : ∃ z, runeI o = z := ⟨_, rfl⟩
    rw [hz] at hsc
    refine call_pu (v := .tuple #[.int .i64 z, .int .i64 (n : Int)]) (fun β w' hs => by
      have h := rfirst_c w' (s.extract i s.size) b0 t (by rw [extract_drop, hbt]) (by rw [ByteArray.size_extract]; omega)
      rw [← hbt, hon, hz] at h
      exact h) ?_
    intro b1
    refine ⟨1, pre.length, pre.length + 1, signsV pre, signV (i, z), signsV (pre ++ [(i, z)]), rfl, fun β w hs => row_rd (hs.get 0 rfl), signV_one _, rfl, (signsV_snoc _ _).symm, by rw [maxLen_eq]; omega, by show (pre.length + 1) * 16 ≤ _; omega, ?_⟩
    intro A' c' q1 q2 _
    refine ⟨((i + n : Nat) : Int), by rw [wrap_i64 (by omega) (by omega)]; rfl, ?_⟩
    have hle : (pre ++ [(i, z)] : List Rn).length = pre.length + 1 := by simp
    refine ⟨(pre ++ [(i, z)], i + n, A', c'), ⟨by show runesAt s.data.toList 0 = pre ++ [(i, z)] ++ runesAt s.data.toList (i + n); rw [hsc]; simp, by show i + n ≤ s.size; omega, by show (pre ++ [(i, z)] : List Rn).length ≤ i + n; omega, by show (pre ++ [(i, z)] : List Rn).length ≤ c'; omega⟩, by show s.size - (i + n) < s.size - i; omega, ?_⟩
    simp only [sgnF, hle]
    exact Ent.mk' ⟨rfl, rfl, rfl, trivial⟩ rfl (fun β w' hs => hs.weaken (List.Sublist.refl _) (List.sublist_cons_self _ _))
  · have hge0 : ¬ (i : Int) < s.size := hge
    rw [runesAt_end (l := s.data.toList) (i := i) (by omega), List.append_nil] at hsc
    intro β w' hs
    rw [hsc]
    refine hs.fin [0] ⟨A1, c1, rfl, hgc, fun h => ?_, rfl⟩
    obtain ⟨ad, h1, _⟩ := (row_rd (hs.get 0 rfl)).2 (by omega)
    exact ⟨ad, h1⟩
theorem quoN {r : Nat} (k : Nat) (h : r < 9223372036854775808) : IntKind.i64.wrap ((r : Int).tdiv (k : Int)) = ((r / k : Nat) : Int) := by
  rw [← Int.ofNat_tdiv]
  have := Nat.div_le_self r k
  generalize r / k = q at this ⊢
  exact wrap_i64 (by omega) (by omega)
theorem quoZ {r : Nat} {z : Int} (hz : (r : Int) = z) (k : Nat) (h : r < 9223372036854775808) : IntKind.i64.wrap (z.tdiv (k : Int)) = ((r / k : Nat) : Int) := by rw [← hz]; exact quoN k h
theorem remZ {r : Nat} {z : Int} (hz : (r : Int) = z) (k : Nat) : z.tmod (k : Int) = ((r % k : Nat) : Int) := by rw [← hz]; exact (Int.ofNat_tmod r k).symm
theorem u8Z {r : Nat} {z : Int} (hz : (r : Int) = z) : IntKind.u8.wrap z = ((UInt8.ofNat r).toNat : Int) := by rw [← hz]; exact wrap_u8b r
theorem remN (r k : Nat) : (r : Int).tmod (k : Int) = ((r % k : Nat) : Int) := (Int.ofNat_tmod r k).symm
theorem addN {k x : Nat} (h : k + x < 9223372036854775808) : IntKind.i64.wrap ((k : Int) + (x : Int)) = ((k + x : Nat) : Int) := by
  rw [wrap_i64 (by omega) (by omega)]; rfl
theorem rbytes_c (w : World) (r : Nat) (z : Int) (hz : (r : Int) = z) (hsg : Nam.sign r = true) :
    Con Tryz.prog n_ostiaryref04_Bytes #[.int .i64 z] w [] fun v Fs => ∃ A c, v = .slice A (rbytesL r).length c ∧ (rbytesL r).length ≤ c ∧ c ≤ maxLen ∧ Fs = [browF ty_uint8 A (rbytesL r) c] := by
  have hs2 := sign_iff.1 hsg
  have hml := maxLen_eq
  obtain ⟨l, hl⟩ : ∃ l, rbytesL r = l := ⟨_, rfl⟩
  rw [hl]
  refine con_of_sx (cx := cx_ostiaryref04_Bytes w (Un [])) (good_ostiaryref04_Bytes w (Un [])) b_ostiaryref04_Bytes rfl rfl (β := Va.z) [.c (.v (.int .i64 z))] 0 [] [] rfl rfl (Sat.start rfl) ?_
  repeat' refine BIf.dec (fun h => ?_) (fun h => ?_)
  all_goals first
    | (exfalso; omega)
    | (have e : l = [UInt8.ofNat r] := by rw [← hl]; unfold rbytesL; rw [if_pos (by omega)]
       subst e
       refine ⟨_, u8Z hz, ?_⟩
       intro b β w' hs
       exact hs.fin [0] ⟨_, 1, rfl, Nat.le_refl 1, by rw [maxLen_eq]; decide, rfl⟩)
    | (have e : l = [UInt8.ofNat (192 + r / 64), UInt8.ofNat (128 + r % 64)] := by rw [← hl]; unfold rbytesL; rw [if_neg (by omega), if_pos (by omega)]
       subst e
       refine ⟨by decide, _, quoZ hz 64 (by omega), _, addN (k := 192) (by omega), _, wrap_u8b _, by decide, _, remZ hz 64, _, addN (k := 128) (by omega), _, wrap_u8b _, ?_⟩
       intro b β w' hs
       exact hs.fin [0] ⟨_, 2, rfl, Nat.le_refl 2, by rw [maxLen_eq]; decide, rfl⟩)
    | (have e : l = [UInt8.ofNat (224 + r / 4096), UInt8.ofNat (128 + r / 64 % 64), UInt8.ofNat (128 + r % 64)] := by rw [← hl]; unfold rbytesL; rw [if_neg (by omega), if_neg (by omega), if_pos (by omega)]
       subst e
       refine ⟨by decide, _, quoZ hz 4096 (by omega), _, addN (k := 224) (by omega), _, wrap_u8b _, by decide, _, quoZ hz 64 (by omega), by decide, _, remN (r / 64) 64, _, addN (k := 128) (by omega), _, wrap_u8b _, by decide, _, remZ hz 64, _, addN (k := 128) (by omega), _, wrap_u8b _, ?_⟩
       intro b β w' hs
       exact hs.fin [0] ⟨_, 3, rfl, Nat.le_refl 3, by rw [maxLen_eq]; decide, rfl⟩)
    | (have e : l = [UInt8.ofNat (240 + r / 262144), UInt8.ofNat (128 + r / 4096 % 64), UInt8.ofNat (128 + r / 64 % 64), UInt8.ofNat (128 + r % 64)] := by rw [← hl]; unfold rbytesL; rw [if_neg (by omega), if_neg (by omega), if_neg (by omega)]
       subst e
       refine ⟨by decide, _, quoZ hz 262144 (by omega), _, addN (k := 240) (by omega), _, wrap_u8b _, by decide, _, quoZ hz 4096 (by omega), by decide, _, remN (r / 4096) 64, _, addN (k := 128) (by omega), _, wrap_u8b _, by decide, _, quoZ hz 64 (by omega), by decide, _, remN (r / 64) 64, _, addN (k := 128) (by omega), _, wrap_u8b _, by decide, _, remZ hz 64, _, addN (k := 128) (by omega), _, wrap_u8b _, ?_⟩
       intro b β w' hs
       exact hs.fin [0] ⟨_, 4, rfl, Nat.le_refl 4, by rw [maxLen_eq]; decide, rfl⟩)
end Go.Proofs.YthkjfepbmnabkaaGreatDoor.Sx

/- The reference's names: prepared; sized; plain ones. -/
namespace Go.Proofs.YthkjfepbmnabkaaGreatDoor.Sx
open Go
attribute [local irreducible] Calls

theorem runesAt_neg {l : List UInt8} {x : Rn} (hx : x ∈ runesAt l 0) : x.2 = -1 ∨ 0 ≤ x.2 := by
  have h := runesAt_vals l _ 0 (Nat.le_refl _)
  rw [List.drop_zero] at h
  have hm : x.2 ∈ (Nam.runes l).map runeI := by rw [← h]; exact List.mem_map.2 ⟨x, hx, rfl⟩
  obtain ⟨o, _, he⟩ := List.mem_map.1 hm
  cases o with
  | none => exact .inl he.symm
  | some r => right; rw [← he]; exact Int.natCast_nonneg r
theorem signRd {w : World} {ad : Addr} {L : List Rn} (h : Rd 2 (some ad) L.length (signsV L) w) {k : Nat} {x : Rn} (hx : L[k]? = some x) : ∀ j u, (signV x)[j]? = some u → w.cell? ((ad.add (k * 2)).add j) = some u := by
  obtain ⟨hil, hie⟩ := List.getElem?_eq_some_iff.1 hx
  have h2 := Rd.elem (f := signV) (fun _ => rfl) h rfl hil
  rw [hie] at h2
  exact h2
structure PrR where
  k : Nat
  out : List UInt8
  A : Option Addr
  c : Nat
theorem rbytesL_len (r : Nat) : (rbytesL r).length ≤ 4 := by
  unfold rbytesL
  split
  · exact (by decide : 1 ≤ 4)
  · split
    · exact (by decide : 2 ≤ 4)
    · split
      · exact (by decide : 3 ≤ 4)
      · exact Nat.le_refl 4
set_option maxHeartbeats 1000000 in
theorem rprepare_c (w : World) (s : ByteArray) (hl : s.size ≤ 100000) :
    Pu Tryz.prog n_ostiaryref04_Prepare #[.string s] w (.tuple #[.string (mkS (prepF s.data.toList).1), .int .i64 (prepF s.data.toList).2]) := by
  have g := good_ostiaryref04_Prepare w (Un [])
  have hml := maxLen_eq
  have hlen : s.data.toList.length = s.size := rfl
  have hLl := runesAt_len s.data.toList _ 0 (Nat.le_refl _)
  obtain ⟨p, e, hpe⟩ : ∃ p e, prepF s.data.toList = (p, e) := ⟨_, _, rfl⟩
  rw [hpe]
  have hpr := rprep_eq s.data.toList
  rw [hpe] at hpr
  have fin : ∀ (q : List UInt8) (d : Int), (p, e) = (q, d) → ∀ {n : Nat} {H : List Bk} {F : List Fact} (β : Va) (w' : World), Sat (cx_ostiaryref04_Prepare w (Un [])) β n H F w' → Fin w [] (fun u Fs => u = .tuple #[.string (mkS (p, e).1), .int .i64 (p, e).2] ∧ Fs = []) (.tuple #[.string (mkS q), .int .i64 d]) w' := by
    intro q d h n H F β w' hs
    rw [h]
    exact (hs.keepB (List.nil_sublist _)).fin [] ⟨rfl, rfl⟩
  refine con_of_sx (cx := cx_ostiaryref04_Prepare w (Un [])) g b_ostiaryref04_Prepare rfl rfl (β := Va.z) [.c (.v (.string s))] 0 [] [] rfl rfl (Sat.start rfl) ?_
  refine call_con [] (fun β w' hs => rsigns_c w' s (by omega)) ?_
  rintro v Fs ⟨A, c, rfl, hc, hA, rfl⟩
  have hneg := fun (x : Rn) (hx : x ∈ runesAt s.data.toList 0) => runesAt_neg hx
  have hvi := valid_iff s.data.toList
  have hsv := fun hv => signs_val (l := s.data.toList) hv
  generalize runesAt s.data.toList 0 = L at *
  generalize validB s.data.toList = bv at *
  have hL2 : L.length ≤ 100000 := by omega
  refine loop_rule 0 (fun k : Nat => [(4, .c (.v (.slice A L.length c))), (12, .c (.v (.slice A L.length c))), (13, .c (.v (.int .i64 L.length))), (14, .c (.v (.int .i64 (k : Int))))]) (fun _ => []) (fun _ => [sgnF A L c])
    (fun k => k ≤ L.length ∧ ∀ x ∈ L.take k, x.2 ≠ -1) (fun k => L.length - k) 0 ⟨Nat.zero_le _, fun x h => by cases h⟩ (Ent.same ⟨rfl, rfl, rfl, rfl, trivial⟩ rfl) g ?_
  rintro k ⟨hk, hall⟩
  refine BIf.dec (fun hlt => ?_) (fun hge => ?_)
  · have hlt0 : (k : Int) < L.length := hlt
    have hkl : k < L.length := by omega
    obtain ⟨x, hx, hxm⟩ := at_lt hkl
    obtain ⟨ad, rfl⟩ := hA (by omega)
    have hsn : L.take (k + 1) = L.take k ++ [x] := by rw [List.take_add_one, hx]; rfl
    refine ⟨ad, k, rfl, rfl, hkl, signV x, rfl, fun β w' hs => signRd (row_rd (hs.get 0 rfl)) hx, ?_⟩
    refine BIf.dec (fun h0 => ?_) (fun h0 => ?_)
    · have h00 : x.2 < 0 := h0
      have hx1 : x.2 = -1 := by rcases hneg x hxm with h | h; exact h; omega
      have hbv : ¬ bv = true := fun q => hvi.1 q x hxm hx1
      rw [if_neg hbv] at hpr
      exact fun β w' hs => fin [] 4 hpr β w' hs
    · have h00 : ¬ x.2 < 0 := h0
      refine ⟨((k + 1 : Nat) : Int), by rw [wrap_i64 (by omega) (by omega)]; rfl, ?_⟩
      refine ⟨k + 1, ⟨by omega, fun y hy => ?_⟩, by omega, Ent.mk' ⟨rfl, rfl, rfl, rfl, trivial⟩ rfl (fun β w hs => (hs.keepB (List.nil_sublist _)).lower)⟩
      rw [hsn] at hy
      rcases List.mem_append.1 hy with q | q
      · exact hall y q
      · obtain rfl := List.mem_singleton.1 q
        omega
  · have hge0 : ¬ (k : Int) < L.length := hge
    obtain rfl : k = L.length := by omega
    rw [List.take_length] at hall
    have hbv : bv = true := hvi.2 hall
    rw [if_pos hbv] at hpr
    have hsv := hsv hbv
    refine loop_rule (ι := PrR) 0 (fun i => [(7, .c (.v (.slice i.A i.out.length i.c))), (22, .c (.v (.slice A L.length c))), (23, .c (.v (.int .i64 L.length))), (24, .c (.v (.int .i64 (i.k : Int))))]) (fun _ => []) (fun i => [browF ty_uint8 i.A i.out i.c, sgnF A L c])
      (fun i => i.k ≤ L.length ∧ prepR (L.map (·.2)) = (prepR ((L.drop i.k).map (·.2))).map (i.out ++ ·) ∧ i.out.length ≤ i.c ∧ i.out.length ≤ 4 * i.k) (fun i => L.length - i.k) ⟨0, [], none, 0⟩ ⟨Nat.zero_le _, by rw [List.drop_zero]; cases prepR (L.map (·.2)) <;> rfl, Nat.zero_le _, Nat.zero_le _⟩ (Ent.mk' ⟨rfl, rfl, rfl, rfl, trivial⟩ rfl (fun β w hs => hs.nilRow _ _)) g ?_
    rintro ⟨k, out, A1, c1⟩ ⟨hk, hinv, hoc, hol⟩
    simp only at hk hinv hoc hol
    simp only
    refine BIf.dec (fun hlt => ?_) (fun hge => ?_)
    · have hlt0 : (k : Int) < L.length := hlt
      have hkl : k < L.length := by omega
      obtain ⟨x, hx, hxm⟩ := at_lt hkl
      obtain ⟨ad, rfl⟩ := hA (by omega)
      have hdr : L.drop k = x :: L.drop (k + 1) := by
        obtain ⟨h1, h2⟩ := List.getElem?_eq_some_iff.1 hx
        rw [List.drop_eq_getElem_cons h1, h2]
      rw [hdr, List.map_cons, prepR] at hinv
      obtain ⟨r, hxr, hsg, hr⟩ := hsv x hxm
      obtain ⟨z, hz⟩ : ∃ z, x.2 = z := ⟨_, rfl⟩
      rw [hz] at hinv hxr
      obtain ⟨x1, x2⟩ := x
      simp only at hz
      subst hz
      refine ⟨ad, k, rfl, rfl, hkl, signV (x1, x2), rfl, fun β w' hs => signRd (row_rd (hs.get 1 rfl)) hx, ?_⟩
      obtain ⟨b1, hb1⟩ : ∃ b1, rblank x2 = b1 := ⟨_, rfl⟩
      refine call_pu (v := .bool b1) (fun β w' hs => by rw [← hb1]; exact rblank_c w' x2) ?_
      cases b1 with
      | true =>
        rw [if_pos hb1] at hinv
        intro b2
        refine ⟨1, out.length, out.length + 1, out.map byte, [32].map byte, (out ++ [32]).map byte, rfl, fun β w hs => row_rd (hs.get 0 rfl), bytes_one _, rfl, List.map_append.symm, by rw [maxLen_eq]; omega, by show (out.length + 1) * 1 ≤ _; omega, ?_⟩
        intro A' c' q1 q2 _
        refine ⟨((k + 1 : Nat) : Int), by rw [wrap_i64 (by omega) (by omega)]; rfl, ?_⟩
        have hle : (out ++ [32] : List UInt8).length = out.length + 1 := by simp
        refine ⟨⟨k + 1, out ++ [32], A', c'⟩, ⟨by show k + 1 ≤ _; omega, ?_, by show (out ++ [32] : List UInt8).length ≤ c'; omega, by show (out ++ [32] : List UInt8).length ≤ 4 * (k + 1); omega⟩, by show L.length - (k + 1) < L.length - k; omega, ?_⟩
        · rw [hinv]
          show _ = (prepR ((L.drop (k + 1)).map (·.2))).map (out ++ [32] ++ ·)
          cases prepR ((L.drop (k + 1)).map (·.2)) with
          | none => rfl
          | some q => simp
        · simp only [browF, hle]
          exact Ent.mk' ⟨rfl, rfl, rfl, rfl, trivial⟩ rfl (fun β w hs => ((hs.perm [1, 2]).keepB (List.nil_sublist _)).lower)
      | false =>
        rw [if_neg (by rw [hb1]; decide)] at hinv
        obtain ⟨b2, hb2⟩ : ∃ b2, rgoes x2 = b2 := ⟨_, rfl⟩
        refine call_pu (v := .bool b2) (fun β w' hs => by rw [← hb2]; exact rgoes_c w' x2) ?_
        cases b2 with
        | true =>
          rw [if_pos hb2] at hinv
          refine ⟨((k + 1 : Nat) : Int), by rw [wrap_i64 (by omega) (by omega)]; rfl, ?_⟩
          exact ⟨⟨k + 1, out, A1, c1⟩, ⟨by show k + 1 ≤ _; omega, hinv, hoc, by show out.length ≤ 4 * (k + 1); omega⟩, by show L.length - (k + 1) < L.length - k; omega, Ent.mk' ⟨rfl, rfl, rfl, rfl, trivial⟩ rfl (fun β w hs => (hs.keepB (List.nil_sublist _)).lower)⟩
        | false =>
          rw [if_neg (by rw [hb2]; decide)] at hinv
          obtain ⟨b3, hb3⟩ : ∃ b3, rbars x2 = b3 := ⟨_, rfl⟩
          refine call_pu (v := .bool b3) (fun β w' hs => by rw [← hb3]; exact rbars_c w' x2 (by omega)) ?_
          cases b3 with
          | true =>
            rw [if_pos hb3] at hinv
            have hno : prepR (L.map (·.2)) = none := hinv
            rw [hno] at hpr
            exact fun β w' hs => fin [] 5 hpr β w' hs
          | false =>
            rw [if_neg (by rw [hb3]; decide)] at hinv
            refine call_con [] (fun β w' hs => rbytes_c w' r x2 hxr.symm hsg) ?_
            rintro v Fs ⟨A2, c2, rfl, hc2, hm2, rfl⟩
            have hrl := rbytesL_len r
            rw [hxr, Int.toNat_natCast] at hinv
            generalize rbytesL r = bs at *
            refine ⟨1, out.length, out.length + bs.length, out.map byte, bs.map byte, (out ++ bs).map byte, rfl, fun β w hs => row_rd (hs.get 0 rfl), bytes_one _, rfl, List.map_append.symm, by rw [maxLen_eq]; omega, by show (out.length + bs.length) * 1 ≤ _; omega, ?_⟩
            intro A' c' q1 q2 _
            refine ⟨((k + 1 : Nat) : Int), by rw [wrap_i64 (by omega) (by omega)]; rfl, ?_⟩
            have hle : (out ++ bs).length = out.length + bs.length := List.length_append
            refine ⟨⟨k + 1, out ++ bs, A', c'⟩, ⟨by show k + 1 ≤ _; omega, ?_, by show (out ++ bs).length ≤ c'; omega, by show (out ++ bs).length ≤ 4 * (k + 1); omega⟩, by show L.length - (k + 1) < L.length - k; omega, ?_⟩
            · rw [hinv]
              show _ = (prepR ((L.drop (k + 1)).map (·.2))).map (out ++ bs ++ ·)
              cases prepR ((L.drop (k + 1)).map (·.2)) with
              | none => rfl
              | some q => simp
            · simp only [browF, hle]
              exact Ent.mk' ⟨rfl, rfl, rfl, rfl, trivial⟩ rfl (fun β w hs => ((hs.perm [1, 2]).keepB (List.nil_sublist _)).lower)
    · have hge0 : ¬ (k : Int) < L.length := hge
      obtain rfl : k = L.length := by omega
      rw [List.drop_length] at hinv
      have hso : prepR (L.map (·.2)) = some out := by rw [hinv]; simp [prepR]
      rw [hso] at hpr
      refine ⟨out, fun β w hs => row_rd (hs.get 0 rfl), ?_⟩
      exact fun β w' hs => fin out 0 hpr β w' hs
theorem rsized_c (w : World) (s : ByteArray) (most : Nat) (hl : s.size ≤ 100000) :
    Pu Tryz.prog n_ostiaryref04_Sized #[.string s, .int .i64 (most : Int)] w (.tuple #[.string (mkS (sizF s.data.toList most).1), .int .i64 (sizF s.data.toList most).2]) := by
  have g := good_ostiaryref04_Sized w (Un [])
  refine con_of_sx (cx := cx_ostiaryref04_Sized w (Un [])) g b_ostiaryref04_Sized rfl rfl (β := Va.z) [.c (.v (.string s)), .c (.v (.int .i64 (most : Int)))] 0 [] [oldF w] rfl rfl (old_sat rfl) ?_
  obtain ⟨p, e, hpe⟩ : ∃ p e, prepF s.data.toList = (p, e) := ⟨_, _, rfl⟩
  have hz : sizF s.data.toList most = if e = 0 then if p = [] then ([], 2) else if most < p.length then ([], 3) else (p, 0) else ([], e) := by unfold sizF; rw [hpe]
  refine call_pu (v := .tuple #[.string (mkS p), .int .i64 e]) (fun β w' hs => by
    have h := rprepare_c w' s hl
    rw [hpe] at h
    exact h) ?_
  have fin : ∀ (q : List UInt8) (d : Int), sizF s.data.toList most = (q, d) → ∀ {n : Nat} {H : List Bk} {F : List Fact} (β : Va) (w' : World), Sat (cx_ostiaryref04_Sized w (Un [])) β n H F w' → Fin w [] (fun u Fs => u = .tuple #[.string (mkS (sizF s.data.toList most).1), .int .i64 (sizF s.data.toList most).2] ∧ Fs = []) (.tuple #[.string (mkS q), .int .i64 d]) w' := by
    intro q d h n H F β w' hs
    rw [h]
    exact (hs.keepB (List.nil_sublist _)).fin [] ⟨rfl, rfl⟩
  have hsz : (mkS p).size = p.length := by simp [mkS, ByteArray.size]
  refine BIf.not (BIf.dec (fun he => ?_) (fun he => ?_))
  · have he0 : e = 0 := he
    rw [if_pos he0] at hz
    refine BIf.dec (fun hp => ?_) (fun hp => ?_)
    · have hp0 : ((mkS p).size : Int) = 0 := hp
      rw [hsz] at hp0
      have hp1 : p = [] := List.length_eq_zero_iff.1 (by omega)
      rw [if_pos hp1] at hz
      exact fun β w' hs => fin [] 2 hz β w' hs
    · have hp0 : ¬ ((mkS p).size : Int) = 0 := hp
      rw [hsz] at hp0
      rw [if_neg (fun q => hp0 (by rw [q]; rfl))] at hz
      refine BIf.dec (fun hm => ?_) (fun hm => ?_)
      · have hm0 : (most : Int) < ((mkS p).size : Int) := hm
        rw [hsz] at hm0
        rw [if_pos (by omega)] at hz
        exact fun β w' hs => fin [] 3 hz β w' hs
      · have hm0 : ¬ (most : Int) < ((mkS p).size : Int) := hm
        rw [hsz] at hm0
        rw [if_neg (by omega)] at hz
        exact fun β w' hs => fin p 0 hz β w' hs
  · have he0 : ¬ e = 0 := he
    rw [if_neg he0] at hz
    exact fun β w' hs => fin [] e hz β w' hs
end Go.Proofs.YthkjfepbmnabkaaGreatDoor.Sx

/- Bytes of one's own that are only read; facts that are known better; bundles opened at one place. -/
namespace Go.Proofs.YthkjfepbmnabkaaGreatDoor.Sx
open Go
attribute [local irreducible] Calls

/-- Bytes of one's own, to be read. -/
structure Ro where
  A : Option Addr
  c : Nat
  l : List UInt8
def Ro.v (r : Ro) : Value := .slice r.A r.l.length r.c
def Ro.f (r : Ro) : Fact := rdoF 1 r.A r.l.length (r.l.map byte)
theorem rdo_rd {size : Nat} {A : Option Addr} {k : Nat} {xs : List Value} {w : World} (h : (rdoF size A k xs).p w) : Rd size A k xs w := h
theorem browRoD {e : Nat} {A : Option Addr} {l : List UInt8} {c : Nat} {w : World} (h : (browF e A l c).p w) : ∀ k, (Ro.f ⟨A, c, l⟩).D k → (browF e A l c).D k := by
  rintro k ⟨hk, ad, q, rfl⟩
  have hl : 0 < l.length := by
    have : 0 < l.length * 1 := hk
    omega
  have q' : A = some ad := q
  rcases h.2 with ⟨he, h0⟩ | ⟨g, cap, cur, he, _⟩
  · omega
  · have hA : A = some ⟨g, 0, none⟩ := by injection he
    rw [q'] at hA
    obtain rfl := Option.some.inj hA
    show Value.ownBlock (.slice A l.length c) = _
    rw [q']
    rfl
/-- Owned facts that are known better, each on its own memory. -/
inductive Recs (w' : World) : List Fact → List Fact → Prop
  | nil : Recs w' [] []
  | cons {f g : Fact} {Fs Gs : List Fact} (h : g.own = true ∧ (f.p w' → g.p w') ∧ ∀ k, g.D k → f.D k) (r : Recs w' Fs Gs) : Recs w' (f :: Fs) (g :: Gs)
theorem Fin.recast {w : World} {Gs : List Fact} {R R' : Value → List Fact → Prop} {v : Value} {w' : World} (h : Fin w Gs R v w')
    (hr : ∀ Fs, R v Fs → (∀ f ∈ Fs, f.p w') → ∃ Fs', R' v Fs' ∧ Recs w' Fs Fs') : Fin w Gs R' v w' := by
  obtain ⟨Fs, h1, h2, h3, h4, h5⟩ := h
  obtain ⟨Fs', q1, q2⟩ := hr Fs h1 h3.fact
  have key : ∀ {Fs Fs' : List Fact}, Recs w' Fs Fs' → Mem w' Fs → Owns Fs → Mem w' Fs' ∧ Owns Fs' ∧ ∀ g ∈ Fs', ∃ f ∈ Fs, ∀ k, g.D k → f.D k := by
    intro Fs Fs' hf
    induction hf with
    | nil => intro _ _; exact ⟨⟨fun _ q => (by cases q), fun _ q => (by cases q), List.Pairwise.nil⟩, trivial, fun _ q => (by cases q)⟩
    | @cons f g Fs Fs' hfg hrest ih =>
      intro hm ho
      obtain ⟨i1, i2, i3⟩ := ih ⟨fun x hx => hm.fact x (List.mem_cons_of_mem _ hx), fun x hx => hm.flt x (List.mem_cons_of_mem _ hx), (List.pairwise_cons.1 hm.sepf).2⟩ ho.2
      refine ⟨⟨fun x hx => ?_, fun x hx k hk => ?_, List.pairwise_cons.2 ⟨fun x hx _ k hk hk' => ?_, i1.sepf⟩⟩, ⟨hfg.1, i2⟩, fun x hx => ?_⟩
      · rcases List.mem_cons.1 hx with rfl | hx
        · exact hfg.2.1 (hm.fact f List.mem_cons_self)
        · exact i1.fact x hx
      · rcases List.mem_cons.1 hx with rfl | hx
        · exact hm.flt f List.mem_cons_self k (hfg.2.2 k hk)
        · exact i1.flt x hx k hk
      · obtain ⟨y, hy, hyd⟩ := i3 x hx
        exact (List.pairwise_cons.1 hm.sepf).1 y hy (.inl ho.1) k (hfg.2.2 k hk) (hyd k hk')
      · rcases List.mem_cons.1 hx with rfl | hx
        · exact ⟨f, List.mem_cons_self, hfg.2.2⟩
        · obtain ⟨y, hy, hyd⟩ := i3 x hx
          exact ⟨y, List.mem_cons_of_mem _ hy, hyd⟩
  obtain ⟨k1, k2, k3⟩ := key q2 h3 h4
  exact ⟨Fs', q1, h2, k1, k2, fun g hg k hk => by obtain ⟨f, hf, hfd⟩ := k3 g hg; exact h5 f hf k (hfd k hk)⟩
/-! ### a bundle is opened at one place -/
theorem Un.cons {x : Fact} {B : List Fact} {k : Nat} : Un (x :: B) k ↔ x.D k ∨ Un B k := by
  unfold Un
  constructor
  · rintro ⟨g, hg, hk⟩
    rcases List.mem_cons.1 hg with rfl | h
    · exact .inl hk
    · exact .inr ⟨g, h, hk⟩
  · rintro (hk | ⟨g, hg, hk⟩)
    · exact ⟨x, List.mem_cons_self, hk⟩
    · exact ⟨g, List.mem_cons_of_mem _ hg, hk⟩
section
variable {cx : Cx} {β : Va} {n : Nat} {H : List Bk} {F : List Fact} {w : World}
end

end Go.Proofs.YthkjfepbmnabkaaGreatDoor.Sx

/- Who there is: a store, plainly; and in memory. -/
namespace Go.Proofs.YthkjfepbmnabkaaGreatDoor.Sx
open Go

/-! ### plainly -/
structure ASec where
  salt : List UInt8
  iter : Int
  stored : List UInt8
  server : List UInt8
  ha1 : List UInt8
structure ACrd where
  tenant : ByteArray
  user : ByteArray
  sec : ASec
  gen : Nat
  roles : List ByteArray
  revoked : Bool
abbrev ATs := List (ByteArray × List ACrd)
structure ASto where
  ts : ATs
  last : Nat
  reads : Int
def aten : ATs → ByteArray → Option (List ACrd)
  | [], _ => none
  | (k, us) :: r, t => if k = t then some us else aten r t
def ausr : List ACrd → ByteArray → Option ACrd
  | [], _ => none
  | c :: r, n => if c.user = n then some c else ausr r n
def atenU : ATs → ByteArray → (List ACrd → List ACrd) → ATs
  | [], _, _ => []
  | (k, us) :: r, t, f => if k = t then (k, f us) :: r else (k, us) :: atenU r t f
def ausrU : List ACrd → ByteArray → (ACrd → ACrd) → List ACrd
  | [], _, _ => []
  | c :: r, n, f => if c.user = n then f c :: r else c :: ausrU r n f
def aget (X : ASto) (t n : ByteArray) : Option ACrd := (aten X.ts t).bind fun us => ausr us n
def nameA (s : ByteArray) : ByteArray × Int := (mkS (sizF s.data.toList 32).1, (sizF s.data.toList 32).2)
/-- A user by any form of his name. -/
def aone (X : ASto) (t u : ByteArray) : Option ACrd := if (nameA u).2 = 0 then aget X t (nameA u).1 else none
def saltedA (l : List UInt8) (iter : Int) : Bool := decide (1 ≤ l.length) && (decide (l.length ≤ 32) && (decide (1 ≤ iter) && decide (iter ≤ 64)))
def rightA (x : ASec) : Bool := saltedA x.salt x.iter && (decide (x.stored.length = 32) && (decide (x.server.length = 32) && decide (x.ha1.length = 32)))
def greatN : Nat := 9007199254740992

/-! ### in memory -/
structure Sec where
  salt : Ro
  iter : Int
  stored : Ro
  server : Ro
  ha1 : Ro
def Sec.vs (x : Sec) : List Value := [x.salt.v, .int .i64 x.iter, x.stored.v, x.server.v, x.ha1.v]
def Sec.fs (x : Sec) : List Fact := [x.salt.f, x.stored.f, x.server.f, x.ha1.f]
def Sec.a (x : Sec) : ASec := ⟨x.salt.l, x.iter, x.stored.l, x.server.l, x.ha1.l⟩
/-- Texts of one's own. -/
def strsF (A : Option Addr) (l : List ByteArray) : Fact := rdoF 1 A l.length (l.map Value.string)
structure Crd where
  b : Nat
  tenant : ByteArray
  user : ByteArray
  sec : Sec
  gen : Nat
  rA : Option Addr
  rc : Nat
  roles : List ByteArray
  revoked : Bool
def Crd.vs (c : Crd) : List Value := .string c.tenant :: .string c.user :: (c.sec.vs ++ [.int .u64 c.gen, .slice c.rA c.roles.length c.rc, .bool c.revoked])
def Crd.parts (c : Crd) : List Fact := strsF c.rA c.roles :: c.sec.fs
def Crd.fs (c : Crd) : List Fact := bkF c.b ty_cred_Cred c.vs :: c.parts
def Crd.a (c : Crd) : ACrd := ⟨c.tenant, c.user, c.sec.a, c.gen, c.roles, c.revoked⟩
def ptr (b : Nat) : Value := .pointer (some ⟨b, 0, none⟩)
structure Ten where
  b : Nat
  name : ByteArray
  us : List Crd
def Ten.m (T : Ten) : ML := T.us.map fun c => (c.user, ptr c.b)
def Ten.a (T : Ten) : ByteArray × List ACrd := (T.name, T.us.map Crd.a)
structure Sto where
  b : Nat
  m : Nat
  ts : List Ten
  last : Nat
  reads : Int
def Sto.vs (S : Sto) : List Value := [.map (some S.m), .int .u64 (S.last : Int), .int .u64 S.reads]
def Sto.a (S : Sto) : ASto := ⟨S.ts.map Ten.a, S.last, S.reads⟩

/-! ### a map of what is there -/
end Go.Proofs.YthkjfepbmnabkaaGreatDoor.Sx

/- Who there is: looked for. -/
namespace Go.Proofs.YthkjfepbmnabkaaGreatDoor.Sx
open Go
attribute [local irreducible] Calls

/-- The tables that names want. -/
structure NamT (w : World) : Prop where
  f : Forms 7 w
  s5 : (spansF 5 blanksL).p w
  s6 : (spansF 6 nothingL).p w
  s4 : (spansF 4 barredL).p w
theorem NamT.old {W w : World} (h : NamT W) (ho : (oldF W).p w) : NamT w := ⟨Forms.old h.f ho, Rd.old h.s5 ho, Rd.old h.s6 ho, Rd.old h.s4 ho⟩
theorem NamT.sat {cx : Cx} {β : Va} {n : Nat} {H : List Bk} {F : List Fact} {w : World} (hs : Sat cx β n H F w) (j : Nat) {W : World} (hj : nth F j = some (oldF W)) (h : NamT W) : NamT w := h.old (hs.get j hj)
theorem nameA_c (w : World) (s : ByteArray) (hl : s.size ≤ 100000) (hn : NamT w) : Pu Tryz.prog n_name_Name #[.string s] w (.tuple #[.string (nameA s).1, .int .i64 (nameA s).2]) :=
  name_c w s hl hn.f hn.s5 hn.s6 hn.s4

/-! ### what a store's fact gives -/
/-! ### the greatest generation; a touch -/
end Go.Proofs.YthkjfepbmnabkaaGreatDoor.Sx

/- Who there is: secrets and credentials copied; a touch. -/
namespace Go.Proofs.YthkjfepbmnabkaaGreatDoor.Sx
open Go
attribute [local irreducible] Calls

/-- A secret as it is handed about: four slices and a number. -/
structure SecV where
  A1 : Option Addr
  n1 : Nat
  c1 : Nat
  it : Int
  A2 : Option Addr
  n2 : Nat
  c2 : Nat
  A3 : Option Addr
  n3 : Nat
  c3 : Nat
  A4 : Option Addr
  n4 : Nat
  c4 : Nat
def SecV.vs (x : SecV) : List Value := [.slice x.A1 x.n1 x.c1, .int .i64 x.it, .slice x.A2 x.n2 x.c2, .slice x.A3 x.n3 x.c3, .slice x.A4 x.n4 x.c4]
def SecV.ss (x : SecV) : List SL := [.v (.slice x.A1 x.n1 x.c1), .v (.int .i64 x.it), .v (.slice x.A2 x.n2 x.c2), .v (.slice x.A3 x.n3 x.c3), .v (.slice x.A4 x.n4 x.c4)]
def saltedN (n : Nat) (it : Int) : Bool := decide (1 ≤ n) && (decide (n ≤ 32) && (decide (1 ≤ it) && decide (it ≤ 64)))
def rightN (x : SecV) : Bool := saltedN x.n1 x.it && (decide (x.n2 = 32) && (decide (x.n3 = 32) && decide (x.n4 = 32)))
theorem csalted_c (w : World) (A : Option Addr) (n c : Nat) (it : Int) : Pu Tryz.prog n_cred_salted #[.slice A n c, .int .i64 it] w (.bool (saltedN n it)) := by
  have g := good_cred_salted w (Un [])
  refine con_of_sx (cx := cx_cred_salted w (Un [])) g b_cred_salted rfl rfl (β := Va.z) [.c (.v (.slice A n c)), .c (.v (.int .i64 it))] 0 [] [] rfl rfl (Sat.start rfl) ?_
  conv => whnf
  generalize h1 : decide ((1 : Int) ≤ (n : Int)) = b1
  have e1 : decide (1 ≤ n) = b1 := by rw [← h1]; exact decide_eq_decide.2 (by omega)
  cases b1 with
  | false =>
    intro β w' hs
    refine hs.fin [] ⟨?_, rfl⟩
    unfold saltedN
    rw [e1]
    rfl
  | true =>
    conv => whnf
    generalize h2 : decide ((n : Int) ≤ (32 : Int)) = b2
    have e2 : decide (n ≤ 32) = b2 := by rw [← h2]; exact decide_eq_decide.2 (by omega)
    cases b2 with
    | false =>
      intro β w' hs
      refine hs.fin [] ⟨?_, rfl⟩
      unfold saltedN
      rw [e1, e2]
      rfl
    | true =>
      conv => whnf
      generalize h3 : decide ((1 : Int) ≤ it) = b3
      cases b3 with
      | false =>
        intro β w' hs
        refine hs.fin [] ⟨?_, rfl⟩
        unfold saltedN
        rw [e1, e2, h3]
        rfl
      | true =>
        intro β w' hs
        refine hs.fin [] ⟨?_, rfl⟩
        unfold saltedN
        rw [e1, e2, h3]
        rfl
/-- A secret that is read. -/
structure SRd (x : SecV) (a : ASec) (w : World) : Prop where
  n1 : x.n1 = a.salt.length
  it : x.it = a.iter
  n2 : x.n2 = a.stored.length
  n3 : x.n3 = a.server.length
  n4 : x.n4 = a.ha1.length
  r1 : Bs w x.A1 a.salt
  r2 : Bs w x.A2 a.stored
  r3 : Bs w x.A3 a.server
  r4 : Bs w x.A4 a.ha1
theorem SRd.old {x : SecV} {a : ASec} {W w : World} (h : SRd x a W) (ho : (oldF W).p w) : SRd x a w := ⟨h.n1, h.it, h.n2, h.n3, h.n4, Rd.old h.r1 ho, Rd.old h.r2 ho, Rd.old h.r3 ho, Rd.old h.r4 ho⟩
theorem SRd.right {x : SecV} {a : ASec} {w : World} (h : SRd x a w) : rightN x = rightA a := by
  unfold rightN rightA saltedN saltedA
  rw [h.n1, h.it, h.n2, h.n3, h.n4]
def Sec.x (y : Sec) : SecV := ⟨y.salt.A, y.salt.l.length, y.salt.c, y.iter, y.stored.A, y.stored.l.length, y.stored.c, y.server.A, y.server.l.length, y.server.c, y.ha1.A, y.ha1.l.length, y.ha1.c⟩
theorem Sec.rd {y : Sec} {w : World} (h : ∀ f ∈ y.fs, f.p w) : SRd y.x y.a w :=
  ⟨rfl, rfl, rfl, rfl, rfl, h y.salt.f (by simp [Sec.fs]), h y.stored.f (by simp [Sec.fs]), h y.server.f (by simp [Sec.fs]), h y.ha1.f (by simp [Sec.fs])⟩
/-! ### texts -/
/-! ### a touch -/
end Go.Proofs.YthkjfepbmnabkaaGreatDoor.Sx

/- Names and passwords, by the program and by the reference. -/
namespace Go.Proofs.YthkjfepbmnabkaaGreatDoor.Sx
open Go
attribute [local irreducible] Calls

set_option maxHeartbeats 1000000 in
theorem rplain_c (w : World) (s : ByteArray) (hl : s.size ≤ 100000) : Pu Tryz.prog n_ostiaryref04_Plain #[.string s] w (.bool (plainF s.data.toList)) := by
  have g := good_ostiaryref04_Plain w (Un [])
  have hlen : s.data.toList.length = s.size := rfl
  refine con_of_sx (cx := cx_ostiaryref04_Plain w (Un [])) g b_ostiaryref04_Plain rfl rfl (β := Va.z) [.c (.v (.string s))] 0 [] [] rfl rfl (Sat.start rfl) ?_
  refine loop_rule 0 (fun k : Nat => [(0, .c (.v (.string s))), (3, .c (.v (.int .i64 (k : Int))))]) (fun _ => []) (fun _ => [])
    (fun k => k ≤ s.size ∧ (s.data.toList.take k).all okc = true) (fun k => s.size - k) 0 ⟨Nat.zero_le _, rfl⟩ (Ent.same ⟨rfl, rfl, trivial⟩ rfl) g ?_
  rintro k ⟨hk, hall⟩
  refine BIf.dec (fun hlt => ?_) (fun hge => ?_)
  · have hlt0 : (k : Int) < s.size := hlt
    have hkl : k < s.size := by omega
    obtain ⟨x, hx, hxm⟩ := at_lt (l := s.data.toList) (k := k) (by omega)
    obtain ⟨z, hz⟩ : ∃ z : Int, (x.toNat : Int) = z := ⟨_, rfl⟩
    have hsn : okc x = true → (s.data.toList.take (k + 1)).all okc = true := fun h => by rw [List.take_add_one, hx, List.all_append, hall]; simp [h]
    have bad : okc x = false → ∀ {n : Nat} {H : List Bk} {F : List Fact} (β : Va) (w' : World), Sat (cx_ostiaryref04_Plain w (Un [])) β n H F w' → Fin w [] (fun u Fs => u = .bool (plainF s.data.toList) ∧ Fs = []) (.bool false) w' := by
      intro h n H F β w' hs
      refine (hs.keepB (List.nil_sublist _)).fin [] ⟨?_, rfl⟩
      have : s.data.toList.all okc = false := by
        rw [List.all_eq_false]
        exact ⟨x, hxm, by rw [h]; decide⟩
      unfold plainF
      rw [this]
      rfl
    refine ⟨k, x, rfl, hx, ?_⟩
    have hb : byte x = .int .u8 z := by rw [← hz]; rfl
    rw [hb]
    clear hb
    repeat' first
      | refine BIf.dec (fun h => ?_) (fun h => ?_)
      | refine BIf.not (BIf.dec (fun h => ?_) (fun h => ?_))
    all_goals first
      | exact fun β w' hs => bad (by simp only [okc, decide_eq_false_iff_not]; omega) β w' hs
      | (refine ⟨((k + 1 : Nat) : Int), by rw [wrap_i64 (by omega) (by omega)]; rfl, ?_⟩
         exact ⟨k + 1, ⟨hkl, hsn (by simp only [okc, decide_eq_true_eq]; omega)⟩, by omega, Ent.same ⟨rfl, rfl, trivial⟩ rfl⟩)
  · have hge0 : ¬ (k : Int) < s.size := hge
    obtain rfl : k = s.size := by omega
    rw [← hlen, List.take_length] at hall
    have hpl : plainF s.data.toList = (decide (s.data.toList ≠ []) && decide (s.data.toList.length ≤ 32)) := by unfold plainF; rw [hall, Bool.true_and]
    have hne : s.data.toList ≠ [] ↔ 1 ≤ s.size := by
      rw [← hlen]
      exact ⟨fun h => List.length_pos_iff.2 h, fun h => List.length_pos_iff.1 h⟩
    refine BIf.dec (fun h1 => ?_) (fun h1 => ?_)
    · have h10 : (1 : Int) ≤ s.size := h1
      intro β w' hs
      refine (hs.keepB (List.nil_sublist _)).fin [] ⟨?_, rfl⟩
      rw [hpl, decide_eq_true (hne.2 (by omega)), Bool.true_and, hlen]
      show Value.bool (decide ((s.size : Int) ≤ 32)) = _
      congr 1
      exact decide_eq_decide.2 (by omega)
    · have h10 : ¬ (1 : Int) ≤ s.size := h1
      intro β w' hs
      refine (hs.keepB (List.nil_sublist _)).fin [] ⟨?_, rfl⟩
      rw [hpl, decide_eq_false (fun q => h10 (by have := hne.1 q; omega)), Bool.false_and]
      rfl
/-- A password. -/
def passA (s : ByteArray) : ByteArray × Int := (mkS (sizF s.data.toList 64).1, (sizF s.data.toList 64).2)
theorem pass_c (w : World) (s : ByteArray) (hl : s.size ≤ 100000) (hn : NamT w) : Pu Tryz.prog n_name_Password #[.string s] w (.tuple #[.string (passA s).1, .int .i64 (passA s).2]) := by
  have g := good_name_Password w (Un [])
  refine con_of_sx (cx := cx_name_Password w (Un [])) g b_name_Password rfl rfl (β := Va.z) [.c (.v (.string s))] 0 [] [oldF w] rfl rfl (old_sat rfl) ?_
  refine call_pu (fun β w' hs => sized_c w' s 64 (by decide) hl (NamT.sat hs 0 rfl hn).f (NamT.sat hs 0 rfl hn).s5 (NamT.sat hs 0 rfl hn).s6 (NamT.sat hs 0 rfl hn).s4) ?_
  intro β w' hs
  exact hs.fin [] ⟨rfl, rfl⟩
theorem siz_len (l : List UInt8) (k : Nat) : (sizF l k).1.length ≤ k := by
  unfold sizF
  split
  · split
    · exact Nat.zero_le _
    · split
      · exact Nat.zero_le _
      · rename_i h; exact Nat.le_of_not_lt h
  · exact Nat.zero_le _
theorem mkS_size (l : List UInt8) : (mkS l).size = l.length := by simp [mkS, ByteArray.size]
theorem nameA_len (s : ByteArray) : (nameA s).1.size ≤ 32 := by rw [nameA, mkS_size]; exact siz_len _ 32
theorem passA_len (s : ByteArray) : (passA s).1.size ≤ 64 := by rw [passA, mkS_size]; exact siz_len _ 64
theorem saltedN_iff {n : Nat} {it : Int} : saltedN n it = decide (0 < n ∧ n ≤ 32 ∧ 0 < it ∧ it ≤ 64) := by
  unfold saltedN
  rw [Bool.eq_iff_iff]
  simp only [Bool.and_eq_true, decide_eq_true_eq]
  omega
theorem rsalted_c (w : World) (A : Option Addr) (n c : Nat) (it : Int) : Pu Tryz.prog n_ostiaryref14_salted #[.slice A n c, .int .i64 it] w (.bool (saltedN n it)) := by
  rw [saltedN_iff]
  exact salted_c w A n c it
theorem salted_ok {n : Nat} {it : Int} (h : saltedN n it = true) : 1 ≤ it ∧ it ≤ 64 ∧ n ≤ 32 := by
  rw [saltedN_iff] at h
  have := of_decide_eq_true h
  omega
end Go.Proofs.YthkjfepbmnabkaaGreatDoor.Sx

/- A block's step, where the state is the front of a block. -/
namespace Go.Proofs.YthkjfepbmnabkaaGreatDoor.Sx
open Go Sha
attribute [local irreducible] Calls

def stG (b ty : Nat) (s : S8) (ex : List Value) : Fact := bkF b ty (s.l.map u32 ++ ex)
theorem mixX_get (s t : S8) (X : List SL) : ∀ i, i < 8 → nth (mix s t i ++ X) i = some (sl32 (s.l.getD i 0))
  | 0, _ => rfl | 1, _ => rfl | 2, _ => rfl | 3, _ => rfl | 4, _ => rfl | 5, _ => rfl | 6, _ => rfl | 7, _ => rfl
  | n + 8, h => by omega
theorem mixX_set (s t : S8) (X : List SL) : ∀ i, i < 8 → putAll (mix s t i ++ X) i [sl32 (s.l.getD i 0 + t.l.getD i 0)] = mix s t (i + 1) ++ X
  | 0, _ => rfl | 1, _ => rfl | 2, _ => rfl | 3, _ => rfl | 4, _ => rfl | 5, _ => rfl | 6, _ => rfl | 7, _ => rfl
  | n + 8, h => by omega
theorem stepG_c (w : World) (b ty : Nat) (s : S8) (ex : List Value) (A : Option Addr) (l : List UInt8) (c : Nat) (hm : Mem w [stG b ty s ex, bsF A l, oddF 2]) (hc : l.length ≤ c) (hl : 64 ≤ l.length) (hcm : c ≤ maxLen) :
    Con Tryz.prog n_sha_state_step #[.pointer (some ⟨b, 0, none⟩), .slice A l.length c] w [stG b ty s ex] fun v Fs => v = .tuple #[] ∧ Fs = [stG b ty (Sha.step s l) ex] := by
  obtain ⟨ws, hws⟩ : ∃ ws, W l = ws := ⟨_, rfl⟩
  have hwl : ws.length = 64 := by rw [← hws]; exact W_len l
  have g := good_sha_state_step w (Un [stG b ty s ex]) (bs := [b])
  have hs0 : Sat (cx_sha_state_step w (Un [stG b ty s ex]) [b]) (Va.of fun _ => b) 1 [] [stG b ty s ex, bsF A l, oddF 2] w :=
    hm.sat rfl (ownIn (Gs := [stG b ty s ex]) (Rs := [bsF A l, oddF 2]) (fun g hg => by
      rcases List.mem_cons.1 hg with rfl | hg
      · rfl
      · obtain rfl := List.mem_singleton.1 hg; rfl)) ⟨Nat.le_refl _, fun i hi => by
        have hi1 : i < 1 := hi
        have hi0 : i = 0 := by omega
        rw [hi0]; rfl⟩
  have hs1 := hs0.toBk 0 rfl 0 Nat.zero_lt_one rfl
  refine con_of_sx (cx := cx_sha_state_step w (Un [stG b ty s ex]) [b]) g b_sha_state_step rfl rfl (β := Va.of fun _ => b) [.c (.p 0 0), .c (.v (.slice A l.length c))] 1 [⟨0, ty, s.l.map sl32 ++ ex.map SL.v⟩] [bsF A l, oddF 2] rfl rfl (by rw [List.map_append, List.map_map] at hs1; exact hs1) ?_
  refine call_pu (fun β w' hs => spread_c w' A l c (hs.get 0 rfl) hc hl hcm) ?_
  rw [hws]
  have ea : ofValue (.agg (ws.map u32).toArray) = .agg (ws.map sl32) := by simp only [ofValue, List.map_map]; rfl
  rw [ea]
  conv => whnf
  generalize h1 : Nat.beq _ _ = b1
  generalize h2 : allOne _ = b2
  obtain rfl : b1 = true := h1.symm.trans (by rw [List.length_map, hwl]; rfl)
  obtain rfl : b2 = true := h2.symm.trans (arr_one ws)
  clear h1 h2
  conv => whnf
  generalize h1 : Nat.ble _ _ = b1
  obtain rfl : b1 = true := h1.symm.trans (by rw [List.length_map, hwl]; rfl)
  clear h1
  refine draw_rule g p_sha_state_step_1 (by kernel_rfl) _ _ Sub.refl ?_
  refine ⟨0, rfl, by decide, ?_⟩
  refine ⟨1, rfl, by decide, ?_⟩
  refine ⟨2, rfl, by decide, ?_⟩
  refine ⟨3, rfl, by decide, ?_⟩
  refine ⟨4, rfl, by decide, ?_⟩
  refine ⟨5, rfl, by decide, ?_⟩
  refine ⟨6, rfl, by decide, ?_⟩
  refine ⟨7, rfl, by decide, ?_⟩
  have hp : putAll (ti251.zero.map SL.v) 0 (ws.map sl32) = ws.map sl32 := putAll_full (by rw [List.length_map, hwl]; rfl)
  refine loop_rule (ι := Nat) 2 (fun i => [(0, .c (.p 0 0)), (4, .c (.p 1 0)), (5, .c (sl32 (rounds s ws i).a)), (6, .c (sl32 (rounds s ws i).b)), (7, .c (sl32 (rounds s ws i).c)), (8, .c (sl32 (rounds s ws i).d)), (9, .c (sl32 (rounds s ws i).e)), (10, .c (sl32 (rounds s ws i).f)), (11, .c (sl32 (rounds s ws i).g)), (12, .c (sl32 (rounds s ws i).h)), (55, .c (.v (.int .i64 i)))])
    (fun _ => [⟨1, 251, ws.map sl32⟩, ⟨0, ty, s.l.map sl32 ++ ex.map SL.v⟩]) (fun _ => [bsF A l, oddF 2])
    (fun i => i ≤ 64) (fun i => 64 - i) 0 (Nat.zero_le _) (Ent.mk' ⟨rfl, rfl, rfl, rfl, rfl, rfl, rfl, rfl, rfl, rfl, rfl, trivial⟩ rfl (fun β w' hs => by rw [← hp]; exact hs)) g ?_
  intro i hi
  obtain ⟨r, hr⟩ : ∃ r, rounds s ws i = r := ⟨_, rfl⟩
  rw [hr]
  obtain ⟨xa, xb, xc, xd, xe, xf, xg, xh⟩ := r
  refine BIf.dec (fun hlt => ?_) (fun hge => ?_)
  · have hlt : i < 64 := by omega
    refine call_pu (fun β w' hs => rotl_c w' xe 6 (by omega) (by omega)) ?_
    refine call_pu (fun β w' hs => rotl_c w' xe 11 (by omega) (by omega)) ?_
    refine ⟨_, xor32 _ _, ?_⟩
    refine call_pu (fun β w' hs => rotl_c w' xe 25 (by omega) (by omega)) ?_
    refine ⟨_, xor32 _ _, ?_⟩
    refine ⟨_, and32 _ _, _, not32 _, _, and32 _ _, _, xor32 _ _, ?_⟩
    refine draw_rule g p_sha_state_step_7 (by kernel_rfl) _ _ Sub.refl ?_
    refine ⟨_, add32 _ _, _, add32 _ _, i, rfl, hlt, u32 (K.getD i 0), fun β w' hs => odd_cell (hs.get 1 rfl) hlt, _, add32 _ _, i, rfl, hlt, ?_⟩
    conv => whnf
    generalize hn : nth _ _ = o
    obtain rfl : o = some (sl32 (ws.getD i 0)) := hn.symm.trans (by
      show nth (ws.map sl32) (0 + i * 1) = _
      rw [nth_eq, Nat.zero_add, Nat.mul_one, List.getElem?_map, List.getElem?_eq_getElem (by omega)]
      simp [List.getD, List.getElem?_eq_getElem (show i < ws.length by omega)])
    clear hn
    refine ⟨_, add32 _ _, ?_⟩
    refine call_pu (fun β w' hs => rotl_c w' xa 2 (by omega) (by omega)) ?_
    refine call_pu (fun β w' hs => rotl_c w' xa 13 (by omega) (by omega)) ?_
    refine ⟨_, xor32 _ _, ?_⟩
    refine call_pu (fun β w' hs => rotl_c w' xa 22 (by omega) (by omega)) ?_
    refine ⟨_, xor32 _ _, ?_⟩
    refine ⟨_, and32 _ _, _, and32 _ _, _, xor32 _ _, _, and32 _ _, _, xor32 _ _, ?_⟩
    refine ⟨_, add32 _ _, _, add32 _ _, _, add32 _ _, ?_⟩
    refine ⟨((i + 1 : Nat) : Int), by rw [wrap_i64 (by omega) (by omega)]; rfl, ?_⟩
    refine ⟨i + 1, by omega, by omega, Ent.same ?_ rfl⟩
    rw [rounds_succ, hr]
    exact ⟨rfl, rfl, rfl, rfl, rfl, rfl, rfl, rfl, rfl, rfl, rfl, trivial⟩
  · obtain ⟨t, ht⟩ : ∃ t, (⟨xa, xb, xc, xd, xe, xf, xg, xh⟩ : S8) = t := ⟨_, rfl⟩
    have hst : Sha.step s l = s.add t := by
      have : i = 64 := by omega
      rw [Sha.step, hws, ← ht, ← hr, this]
    rw [hst]
    refine loop_rule (ι := Nat) 2 (fun i => [(0, .c (.p 0 0)), (129, .agg [sl32 xa, sl32 xb, sl32 xc, sl32 xd, sl32 xe, sl32 xf, sl32 xg, sl32 xh]), (130, .c (.v (.int .i64 i)))])
      (fun i => [⟨1, 251, ws.map sl32⟩, ⟨0, ty, mix s t i ++ ex.map SL.v⟩]) (fun _ => [bsF A l, oddF 2])
      (fun i => i ≤ 8) (fun i => 8 - i) 0 (Nat.zero_le _) (Ent.same ⟨rfl, rfl, rfl, trivial⟩ rfl) g ?_
    intro j hj
    refine BIf.dec (fun hlt => ?_) (fun hge => ?_)
    · have hlt : j < 8 := by omega
      refine ⟨j, sl32 (t.l.getD j 0), rfl, hlt, by rw [← ht]; show ((⟨xa, xb, xc, xd, xe, xf, xg, xh⟩ : S8).l.map sl32)[j * 1]? = _; rw [Nat.mul_one]; exact l_get _ j hlt, ?_⟩
      refine draw_rule g p_sha_state_step_15 (by kernel_rfl) [] [bsF A l, oddF 2] (Sub.of (List.nil_sublist _) (List.Sublist.refl _)) ?_
      refine ⟨j, rfl, hlt, ?_⟩
      conv => whnf
      generalize hn : nth _ _ = o
      obtain rfl : o = some (sl32 (s.l.getD j 0)) := hn.symm.trans (by
        show nth (mix s t j ++ ex.map SL.v) (0 + j * 1) = _
        rw [Nat.zero_add, Nat.mul_one]
        exact mixX_get s t (ex.map SL.v) j hlt)
      clear hn
      refine ⟨Sub.of (List.nil_sublist _) (List.Sublist.refl _), _, add32 _ _, j, rfl, hlt, ?_⟩
      conv => whnf
      generalize h1 : Nat.ble _ _ = b1
      obtain rfl : b1 = true := h1.symm.trans (by
        show Nat.ble (0 + j * 1 + 1) (mix s t j ++ ex.map SL.v).length = true
        rw [List.length_append, mix_len s t j (by omega), Nat.ble_eq]; omega)
      clear h1
      refine ⟨Sub.of (List.nil_sublist _) (List.Sublist.refl _), ?_⟩
      refine ⟨((j + 1 : Nat) : Int), by rw [wrap_i64 (by omega) (by omega)]; rfl, ?_⟩
      refine ⟨j + 1, by omega, by omega, Ent.mk' ⟨rfl, rfl, rfl, trivial⟩ rfl (fun β w' hs => ?_)⟩
      have e1 := mixX_set s t (ex.map SL.v) j hlt
      rw [← e1]
      have e3 : 0 + j * 1 = j := by omega
      have hs2 : Sat (cx_sha_state_step w (Un [stG b ty s ex]) [b]) β 2 [⟨1, 251, ws.map sl32⟩, ⟨0, ty, putAll (mix s t j ++ ex.map SL.v) (0 + j * 1) [sl32 (s.l.getD j 0 + t.l.getD j 0)]⟩] [bsF A l, oddF 2] w' := hs
      rw [e3] at hs2
      exact hs2
    · obtain rfl : j = 8 := by omega
      intro β w' hs
      have h1 := hs.weaken (List.sublist_cons_self _ _) (List.Sublist.refl _)
      have h2 := h1.ofBk
      have hb : β 0 = b := h2.fix.2 0 (Nat.zero_lt_one)
      refine h2.fin [0] ⟨rfl, ?_⟩
      show [bkF (β 0) ty ((mix s t 8 ++ ex.map SL.v).map (SL.val β))] = [stG b ty (s.add t) ex]
      rw [hb, List.map_append, List.map_map, show SL.val β ∘ SL.v = id from rfl, List.map_id]
      rfl
end Go.Proofs.YthkjfepbmnabkaaGreatDoor.Sx

/- A term's print: a number in bytes of seven bits. -/
namespace Go.Proofs.YthkjfepbmnabkaaGreatDoor.Sx
open Go
attribute [local irreducible] Calls

theorem or128 (n : Nat) : bits .or .u8 (((UInt8.ofNat n).toNat : Nat) : Int) 128 = ((UInt8.ofNat (n % 128 + 128)).toNat : Int) := by
  show IntKind.u8.wrap (((BitVec.ofInt 8 ((UInt8.ofNat n).toNat : Int)) ||| (BitVec.ofInt 8 128)).toNat : Int) = _
  have h1 : BitVec.ofInt 8 (((UInt8.ofNat n).toNat : Nat) : Int) = BitVec.ofNat 8 n := by
    apply BitVec.eq_of_toNat_eq
    rw [BitVec.toNat_ofInt, BitVec.toNat_ofNat, UInt8.toNat_ofNat']
    omega
  have h2 : BitVec.ofNat 8 n ||| BitVec.ofInt 8 128 = BitVec.ofNat 8 (n % 128 + 128) := by
    have h3 : BitVec.ofNat 8 n = BitVec.ofNat 8 (n % 256) := by
      apply BitVec.eq_of_toNat_eq
      rw [BitVec.toNat_ofNat, BitVec.toNat_ofNat]
      omega
    have h4 : n % 128 = n % 256 % 128 := by omega
    rw [h3, h4]
    have h5 : n % 256 < 256 := Nat.mod_lt _ (by omega)
    have key : ∀ k, k < 256 → BitVec.ofNat 8 k ||| BitVec.ofInt 8 128 = BitVec.ofNat 8 (k % 128 + 128) := by decide +kernel
    exact key _ h5
  rw [h1, h2, BitVec.toNat_ofNat, wrap_u8, UInt8.toNat_ofNat']
  omega

theorem vint_len : ∀ (k n : Nat), n < 128 ^ (k + 1) → (Bx.vint n).length ≤ k + 1
  | 0, n, h => by rw [Bx.vint_lt (by simpa using h)]; simp
  | k + 1, n, h => by
    by_cases hn : n < 128
    · rw [Bx.vint_lt hn]; simp
    · rw [Bx.vint_ge hn, List.length_cons]
      have := vint_len k (n / 128) (by rw [Nat.pow_succ] at h; omega)
      omega
theorem vint_nine {n : Nat} (h : n < 4611686018427387904) : (Bx.vint n).length ≤ 9 := vint_len 8 n (by omega)
/-- A slice of bytes in a variable. -/
def varF (b : Nat) (A : Option Addr) (l : List UInt8) (c : Nat) : List Fact := [bkF b ty_sl_uint8 [.slice A l.length c], browF ty_uint8 A l c]
structure LgS where
  n : Nat
  A : Option Addr
  l : List UInt8
  c : Nat
theorem long7_c (w : World) (b n : Nat) (A : Option Addr) (l : List UInt8) (c : Nat) (hn : n < 4611686018427387904) (hl : l.length ≤ 1000000000) (hm : Mem w (varF b A l c)) :
    Con Tryz.prog n_box_Term_print_1 #[.int .i64 n, .pointer (some ⟨b, 0, none⟩)] w (varF b A l c) fun v Fs => v = .tuple #[] ∧ ∃ A' c', Fs = varF b A' (l ++ Bx.vint n) c' := by
  have g := good_box_Term_print_1 w (Un (varF b A l c))
  refine con_of_sx (cx := cx_box_Term_print_1 w (Un (varF b A l c))) g b_box_Term_print_1 rfl rfl (β := Va.z) [.c (.v (.int .i64 n)), .c (.v (.pointer (some ⟨b, 0, none⟩)))] 0 [] _ rfl rfl (hm.sat0 rfl (fun f hf _ k hk => ⟨f, hf, hk⟩)) ?_
  refine loop_rule (ι := LgS) 0 (fun i => [(0, .c (.v (.int .i64 i.n))), (1, .c (.v (.pointer (some ⟨b, 0, none⟩))))]) (fun _ => []) (fun i => varF b i.A i.l i.c)
    (fun i => i.n < 4611686018427387904 ∧ i.l ++ Bx.vint i.n = l ++ Bx.vint n) (fun i => i.n) ⟨n, A, l, c⟩ ⟨hn, rfl⟩ (Ent.same ⟨rfl, rfl, trivial⟩ rfl) g ?_
  rintro ⟨m, A1, l1, c1⟩ ⟨hm1, he⟩
  simp only at hm1 he
  have hl1 : l1.length ≤ 1000000009 := by
    have h1 := congrArg List.length he
    simp only [List.length_append] at h1
    have h2 := vint_nine hn
    omega
  have hcell : ∀ (w' : World) (A : Option Addr) (l : List UInt8) (c : Nat), (bkF b ty_sl_uint8 [.slice A l.length c]).p w' → w'.cell? ⟨b, 0, none⟩ = some (.slice A l.length c) := fun w' A l c h => by
    have hb : w'.heap[b]? = some (.cells #[.slice A l.length c] ty_sl_uint8 (0, 0)) := h
    rw [cell_of_row w' b 0 _ _ _ hb]; rfl
  refine BIf.dec (fun hge => ?_) (fun hlt => ?_)
  · have hge0 : (128 : Int) ≤ (m : Int) := hge
    have hnl : ¬ m < 128 := by omega
    refine ⟨.slice A1 l1.length c1, fun β w' hs => hcell _ _ _ _ (hs.get 0 rfl), ?_⟩
    refine ⟨_, wrap_u8b m, _, or128 m, ?_⟩
    intro b2
    refine ⟨2, l1.length, l1.length + 1, l1.map byte, [byte (UInt8.ofNat (m % 128 + 128))], (l1 ++ [UInt8.ofNat (m % 128 + 128)]).map byte, rfl, fun β w' hs => row_rd (hs.get 0 rfl), bytes_one [UInt8.ofNat (m % 128 + 128)], rfl, by simp, by rw [maxLen_eq]; omega, by show (l1.length + 1) * 1 ≤ _; omega, ?_⟩
    intro A' c' h1 h2 h3
    refine ⟨_, fun β w' hs => hs.bkSet 1 (o := 0) (us := [.slice A' (l1.length + 1) c']) rfl (Nat.le_refl 1) (fun u hu => by obtain rfl := List.mem_singleton.1 hu; rfl), ?_⟩
    refine ⟨by decide, ((m / 128 : Nat) : Int), shr_nat m 7, ?_⟩
    refine ⟨⟨m / 128, A', l1 ++ [UInt8.ofNat (m % 128 + 128)], c'⟩, ⟨by show m / 128 < _; omega, ?_⟩, by show m / 128 < m; omega, ?_⟩
    · show l1 ++ [UInt8.ofNat (m % 128 + 128)] ++ Bx.vint (m / 128) = _
      rw [← he, Bx.vint_ge hnl]
      simp
    · refine Ent.mk' ⟨rfl, rfl, trivial⟩ rfl ?_
      intro β w' hs
      have e : (l1 ++ [UInt8.ofNat (m % 128 + 128)]).length = l1.length + 1 := by simp
      have hs2 := hs.perm [1, 2]
      show Sat _ _ _ _ (varF b A' (l1 ++ [UInt8.ofNat (m % 128 + 128)]) c') _
      unfold varF browF
      rw [e]
      exact hs2
  · have hlt0 : ¬ (128 : Int) ≤ (m : Int) := hlt
    have hl : m < 128 := by omega
    refine ⟨.slice A1 l1.length c1, fun β w' hs => hcell _ _ _ _ (hs.get 0 rfl), ?_⟩
    refine ⟨_, wrap_u8b m, ?_⟩
    intro b2
    refine ⟨2, l1.length, l1.length + 1, l1.map byte, [byte (UInt8.ofNat m)], (l1 ++ [UInt8.ofNat m]).map byte, rfl, fun β w' hs => row_rd (hs.get 0 rfl), bytes_one [UInt8.ofNat m], rfl, by simp, by rw [maxLen_eq]; omega, by show (l1.length + 1) * 1 ≤ _; omega, ?_⟩
    intro A' c' h1 h2 h3
    refine ⟨_, fun β w' hs => hs.bkSet 1 (o := 0) (us := [.slice A' (l1.length + 1) c']) rfl (Nat.le_refl 1) (fun u hu => by obtain rfl := List.mem_singleton.1 hu; rfl), ?_⟩
    intro β w' hs
    have e0 : l ++ Bx.vint n = l1 ++ [UInt8.ofNat m] := by rw [← he, Bx.vint_lt hl]
    have e : (l1 ++ [UInt8.ofNat m]).length = l1.length + 1 := by simp
    refine hs.fin [1, 2] ⟨rfl, A', c', ?_⟩
    rw [e0]
    unfold varF browF
    rw [e]
    rfl
end Go.Proofs.YthkjfepbmnabkaaGreatDoor.Sx

/- Boxes: a new one; how many terms it has. -/
namespace Go.Proofs.YthkjfepbmnabkaaGreatDoor.Sx
open Go Sha
attribute [local irreducible] Calls

/-- A box's own block: is it symbolic, is it full; its terms' slice, its map. -/
def boxF (b : Nat) (sym full : Bool) (L m : Value) : Fact := bkF b ty_box_Box [.bool sym, .bool full, L, m]
theorem new_c (w : World) (sym : Bool) : Con Tryz.prog n_box_New #[.bool sym] w [] fun v Fs => ∃ b m, v = .pointer (some ⟨b, 0, none⟩) ∧ Fs = [boxF b sym false (.slice none 0 0) (.map (some m)), mapF m []] := by
  refine con_of_sx (cx := cx_box_New w (Un [])) (good_box_New w (Un [])) b_box_New rfl rfl (β := Va.z) [.c (.v (.bool sym))] 0 [] [] rfl rfl (Sat.start rfl) ?_
  intro m
  intro β w' hs
  exact hs.ofBk.fin [0, 1] ⟨β 0, m, rfl, rfl⟩ rfl rfl rfl ⟨rfl, rfl, trivial⟩
end Go.Proofs.YthkjfepbmnabkaaGreatDoor.Sx

/- A plain box's hash of one part. -/
namespace Go.Proofs.YthkjfepbmnabkaaGreatDoor.Sx
open Go Sha
attribute [local irreducible] Calls

theorem hash1_c (w : World) (b : Nat) (full : Bool) (L m : Value) (P A : Option Addr) (cP c : Nat) (l : List UInt8) (hb : (boxF b false full L m).p w) (hP : Rd 1 P 1 [.slice A l.length c] w) (hr : Bs w A l) (hn : l.length ≤ 70368744177664) (h1 : (oddF 2).p w) (h0 : (firstF 0).p w) :
    Con Tryz.prog n_box_Box_Hash #[.pointer (some ⟨b, 0, none⟩), .slice P 1 cP] w [] fun v Fs => ∃ A' c', v = .slice A' 32 c' ∧ 32 ≤ c' ∧ c' ≤ maxLen ∧ Fs = [browF ty_uint8 A' (Sha.sum l) c'] := by
  refine con_of_sx (cx := cx_box_Box_Hash w (Un [])) (good_box_Box_Hash w (Un [])) b_box_Box_Hash rfl rfl (β := Va.z) [.c (.v (.pointer (some ⟨b, 0, none⟩))), .c (.v (.slice P 1 cP))] 0 [] [oldF w] rfl rfl (old_sat rfl) ?_
  refine ⟨.bool false, fun β w' hs => ?_, ?_⟩
  · have hb' : w.heap[b]? = some (.cells #[.bool false, .bool full, L, m] ty_box_Box (0, 0)) := hb
    have hlt : b < w.heap.size := (Array.getElem?_eq_some_iff.1 hb').1
    have h2 := (hs.get 0 rfl : (oldF w).p w') b hlt
    rw [hb'] at h2
    show w'.cell? ⟨b, 0, none⟩ = _
    rw [cell_of_row w' b 0 _ _ _ h2]
    rfl
  refine call_con [] (fun β w' hs => sum1_c w' P A cP c l (hP.old (hs.get 0 rfl)) (hr.old (hs.get 0 rfl)) hn (Rd.old h1 (hs.get 0 rfl)) (Rd.old h0 (hs.get 0 rfl))) ?_
  rintro v Fs ⟨A3, c3, rfl, q1, q2, rfl⟩
  intro β w' hs
  exact hs.fin [0] ⟨A3, c3, rfl, q1, q2, rfl⟩
end Go.Proofs.YthkjfepbmnabkaaGreatDoor.Sx

/- Texts joined: the library's contract as ours; the message. -/
namespace Go.Proofs.YthkjfepbmnabkaaGreatDoor.Sx
open Go Sha
attribute [local irreducible] Calls

theorem chg_of {w w' : World} (h : RowKit.Below w.heap.size w w') : Chg None_ w w' := ⟨h.os, h.tape, h.output, h.size, fun k hk _ => h.block k hk⟩
def joinB (xs : List ByteArray) (sep : ByteArray) : ByteArray := ⟨(Lib.join (xs.map (·.data.toList)) sep.data.toList).toArray⟩
theorem join_c (w : World) (b c : Nat) (xs : List ByteArray) (sep : ByteArray) (hP : Rd 1 (some ⟨b, 0, none⟩) xs.length (xs.map Value.string) w) (hb : b < w.heap.size) (hN : xs.length ≤ 1000) (hcap : xs.length ≤ c) (hlen : (Lib.join (xs.map (·.data.toList)) sep.data.toList).length ≤ 140737488355328) :
    Pu Tryz.prog n_strings_Join #[.slice (some ⟨b, 0, none⟩) xs.length c, .string sep] w (.string (joinB xs sep)) := by
  refine pu_of (Calls.mono (Tryz.strings_Join b 0 c xs sep w (fun j x hx => ?_) hb (by omega) hcap hlen) ?_)
  · have hj : j < xs.length := (List.getElem?_eq_some_iff.1 hx).1
    obtain ⟨ad, h1, h2⟩ := hP.2 (by omega)
    obtain rfl := Option.some.inj h1
    have := h2 j (.string x) (by rw [List.getElem?_map, hx]; rfl)
    rw [add_none] at this
    exact this
  · rintro e w' ⟨rfl, hw⟩
    exact ⟨_, rfl, rfl, chg_of hw⟩
end Go.Proofs.YthkjfepbmnabkaaGreatDoor.Sx
