/- The references' bytes of a number. -/
import Derived.Test.YthkjfepbmnabkaaDoorR1
import Derived.Test.YthkjfepbmnabkaaDoorSxPlus
namespace Go.Proofs.YthkjfepbmnabkaaDoor.Sx
open Go
attribute [local irreducible] Calls

/-- A number's bytes, the highest first. -/
def be : Nat → Nat → List UInt8
  | 0, _ => []
  | k + 1, n => be k (n / 256) ++ [UInt8.ofNat (n % 256)]
theorem be_length : ∀ k n, (be k n).length = k
  | 0, _ => rfl
  | k + 1, n => by simp [be, be_length k]
theorem ofNat_toNat (n : Nat) (h : n < 256) : (UInt8.ofNat n).toNat = n := by simp; omega
theorem byte_ofNat (n : Nat) (h : n < 256) : byte (UInt8.ofNat n) = .int .u8 (n : Int) := by simp only [byte, ofNat_toNat n h]
theorem wrap_u8 (x : Int) : IntKind.u8.wrap x = x % 256 := by simp [IntKind.wrap, IntKind.bits, IntKind.signed]

theorem NewRow.none (w w' : World) (e : Nat) : NewRow w w' none [] 0 e :=
  ⟨Nat.le_refl _, Nat.zero_le _, World.ownsRow_nil w' 0 e 1, fun k hk => by cases hk⟩
theorem NewRow.from {w w1 w' : World} {A : Option Addr} {l : List UInt8} {c e : Nat} (h : NewRow w1 w' A l c e) (hs : w.heap.size ≤ w1.heap.size) : NewRow w w' A l c e :=
  ⟨h.1, h.2.1, h.2.2.1, fun k hk => Nat.le_trans hs (h.2.2.2 k hk)⟩

theorem bytes_c (w : World) (n k : Nat) (hn : n < 18446744073709551616) (hk : k ≤ 4096) :
    Calls Tryd.prog n_ostiaryref01_Bytes #[.int .u64 n, .int .i64 k] w fun e w' => ∃ v, e = .returned v ∧ ∃ A' c', v = .slice A' (be k n).length c' ∧ Chg None_ w w' ∧ NewRow w w' A' (be k n) c' ty_uint8 := by
  have g := good_ostiaryref01_Bytes w None_
  refine calls_of_sx (cx := cx_ostiaryref01_Bytes w None_) g b_ostiaryref01_Bytes rfl rfl (β := Va.z) [.c (.v (.int .u64 n)), .c (.v (.int .i64 k))] 0 [] [] rfl rfl (Sat.start rfl) ?_
  refine ⟨k, k, rfl, rfl, Nat.le_refl _, by show 1 * k ≤ _; omega, by rw [maxLen_eq]; omega, ?_⟩
  intro b
  refine ⟨_, wrap_i64 (by omega) (by omega), ?_⟩
  refine loop_rule (ι := Nat × Nat × List UInt8) 0 (fun i => [(0, .c (.v (.int .u64 i.2.1))), (5, .c (.v (.slice (some ⟨b, 0, none⟩) k k))), (6, .c (.v (.int .i64 ((i.1 : Int) - 1))))]) (fun _ => [])
    (fun i => [rowF ty_uint8 1 (.slice (some ⟨b, 0, none⟩) k k) k (List.replicate i.1 (.int .u8 0) ++ i.2.2.map byte)])
    (fun i => i.2.1 < 18446744073709551616 ∧ i.1 ≤ k ∧ i.1 + i.2.2.length = k ∧ be i.1 i.2.1 ++ i.2.2 = be k n) (fun i => i.1) (k, n, []) ⟨hn, Nat.le_refl _, by simp, by simp⟩ (Ent.mk' ⟨rfl, rfl, rfl, trivial⟩ rfl ?_) g ?_
  · intro β w' hs
    have e : repl ti5.zero k = List.replicate k (.int .u8 0) ++ List.map byte [] := by
      have : ∀ k, repl [Value.int .u8 0] k = List.replicate k (.int .u8 0) := fun k => by
        induction k with
        | zero => rfl
        | succ k ih => simp [repl, ih, List.replicate_succ]
      simp only [List.map_nil, List.append_nil]
      exact this k
    rw [← e]
    exact hs
  rintro ⟨i, m, suf⟩ ⟨hm, hik, hlen, hbe⟩
  simp only at hm hik hlen hbe
  refine BIf.dec (fun h0 => ?_) (fun h0 => ?_)
  · obtain ⟨j, rfl⟩ : ∃ j, i = j + 1 := ⟨i - 1, by omega⟩
    refine ⟨by omega, ((m % 256 : Nat) : Int), by dsimp only; rw [Int.tmod_eq_emod_of_nonneg (by omega)]; omega, ?_⟩
    refine ⟨((m % 256 : Nat) : Int), by rw [wrap_u8]; omega, ?_⟩
    refine ⟨⟨b, 0, none⟩, j, rfl, by omega, by omega, ?_⟩
    refine ⟨_, fun β w' hs => Sat.rowSet hs (j := 0) (us := [.int .u8 ((m % 256 : Nat) : Int)]) rfl (by show j * 1 + 1 ≤ k * 1; omega) (fun u hu => by obtain rfl := List.mem_singleton.1 hu; rfl), ?_⟩
    refine ⟨by omega, ((m / 256 : Nat) : Int), by dsimp only; rw [wrap_u64, Int.tdiv_eq_ediv_of_nonneg (by omega)]; omega, ?_⟩
    refine ⟨((j : Int) - 1), by rw [wrap_i64 (by omega) (by omega)]; omega, ?_⟩
    refine ⟨(j, m / 256, UInt8.ofNat (m % 256) :: suf), ⟨by show m / 256 < _; omega, by show j ≤ k; omega, by show j + (suf.length + 1) = k; omega, by
      show be j (m / 256) ++ (UInt8.ofNat (m % 256) :: suf) = _
      rw [← hbe]; simp [be]⟩, by show j < j + 1; omega, Ent.mk' ⟨rfl, rfl, rfl, trivial⟩ rfl ?_⟩
    intro β w' hs
    have e : putAll (List.replicate (j + 1) (Value.int .u8 0) ++ suf.map byte) (j * 1) [.int .u8 ((m % 256 : Nat) : Int)] = List.replicate j (.int .u8 0) ++ (UInt8.ofNat (m % 256) :: suf).map byte := by
      rw [putAll, putAll, putAt_eq, Nat.mul_one, List.replicate_succ', List.append_assoc, List.set_append_right _ _ (by simp)]
      simp [byte_ofNat _ (Nat.mod_lt m (by omega : 0 < 256))]
    rw [← e]
    exact hs
  · intro β w' hs
    have hi : i = 0 := by omega
    subst hi
    simp only [be, List.nil_append] at hbe
    refine ⟨some ⟨b, 0, none⟩, k, by rw [be_length]; rfl, hs.chg, hs.newRow rfl 0 ?_ (by rw [be_length]; omega) (by rw [maxLen_eq]; omega)⟩
    rw [← hbe] at *
    show some (rowF _ 1 (.slice _ k k) k _) = some (rowF _ 1 (.slice _ suf.length k) suf.length _)
    rw [show suf.length = k by omega]
    rfl
end Go.Proofs.YthkjfepbmnabkaaDoor.Sx
