/- The references' small words on bytes. -/
import Derived.Test.YthkjfepbmnabkaaDoorTab
namespace Go.Proofs.YthkjfepbmnabkaaDoor.Sx
open Go
attribute [local irreducible] Calls

theorem copy_c (w : World) (A : Option Addr) (l : List UInt8) (c : Nat) (hr : Bs w A l) (hn : l.length ≤ lim) :
    Calls Tryd.prog n_ostiaryref01_Copy #[.slice A l.length c] w fun e w' => ∃ v, e = .returned v ∧ ∃ A' c', v = .slice A' l.length c' ∧ Chg None_ w w' ∧ NewRow w w' A' l c' ty_uint8 := by
  refine calls_of_sx (cx := cx_ostiaryref01_Copy w None_) (good_ostiaryref01_Copy w None_) b_ostiaryref01_Copy rfl rfl (β := Va.z) [.c (.v (.slice A l.length c))] 0 [] [bsF A l] rfl rfl ((Sat.start rfl).rd (fun _ h => by cases h) hr) ?_
  intro b
  refine ⟨0, 0, l.length, [], l.map byte, _, rfl, fun β w hs => hs.get 1 rfl, bytes_one l, Nat.zero_add _, rfl, by rw [maxLen_eq]; rw [lim_eq] at hn; omega, by show l.length * 1 ≤ _; rw [lim_eq] at hn; omega, ?_⟩
  intro A' c' h1 h2 h3 β w' hs
  exact ⟨A', c', rfl, hs.chg, hs.newRow rfl 0 rfl h1 h2⟩

theorem cut_c (w : World) (A : Option Addr) (l : List UInt8) (c k : Nat) (hr : Bs w A l) (hc : l.length ≤ c) (hn : k ≤ lim) :
    Calls Tryd.prog n_ostiaryref01_Cut #[.slice A l.length c, .int .i64 k] w fun e w' => ∃ v, e = .returned v ∧ ∃ A' c', v = .slice A' (l.take k).length c' ∧ Chg None_ w w' ∧ NewRow w w' A' (l.take k) c' ty_uint8 := by
  have hk : (l.take k).length = min l.length k := by simp; omega
  refine calls_of_sx (cx := cx_ostiaryref01_Cut w None_) (good_ostiaryref01_Cut w None_) b_ostiaryref01_Cut rfl rfl (β := Va.z) [.c (.v (.slice A l.length c)), .c (.v (.int .i64 k))] 0 [] [bsF A l] rfl rfl ((Sat.start rfl).rd (fun _ h => by cases h) hr) ?_
  intro b
  refine ⟨_, mn _ _, ?_⟩
  refine ⟨c, min l.length k, 0, (l.take k).length, c, _, rfl, rfl, rfl, Nat.le_refl _, by omega, Nat.zero_le _, by omega, rfl, rfl, ?_⟩
  refine ⟨0, 0, (l.take k).length, [], (l.take k).map byte, _, rfl, fun β w hs => ?_, bytes_one _, Nat.zero_add _, rfl, by rw [maxLen_eq]; rw [lim_eq] at hn; omega, by show (l.take k).length * 1 ≤ _; rw [lim_eq] at hn; omega, ?_⟩
  · have h1 := Bs.cut (hs.get 1 rfl : Bs w A l) (c := c) (m := c) (i := 0) (j := (l.take k).length) hc (.inl rfl) (Nat.zero_le _) (by omega) (Nat.le_refl _)
    rw [Nat.sub_zero, List.drop_zero] at h1
    rw [show l.take (l.take k).length = l.take k by rw [hk]; simp [List.take_eq_take_iff, Nat.min_comm]] at h1
    exact h1
  intro A' c' h1 h2 h3 β w' hs
  exact ⟨A', c', rfl, hs.chg, hs.newRow rfl 0 rfl h1 h2⟩

theorem same_c (w : World) (A B : Option Addr) (l m : List UInt8) (c d : Nat) (hl : Bs w A l) (hm : Bs w B m) :
    Calls Tryd.prog n_ostiaryref01_Same #[.slice A l.length c, .slice B m.length d] w fun e w' => ∃ v, e = .returned v ∧ v = .bool (decide (l = m)) ∧ Chg None_ w w' := by
  refine calls_of_sx (cx := cx_ostiaryref01_Same w None_) (good_ostiaryref01_Same w None_) b_ostiaryref01_Same rfl rfl (β := Va.z) [.c (.v (.slice A l.length c)), .c (.v (.slice B m.length d))] 0 [] [bsF B m, bsF A l] rfl rfl (((Sat.start rfl).rd (fun _ h => by cases h) hl).rd (fun g h => by obtain rfl := List.mem_singleton.1 h; rfl) hm) ?_
  refine ⟨l, fun β w hs => hs.get 1 rfl, ?_⟩
  refine ⟨m, fun β w hs => hs.get 0 rfl, ?_⟩
  intro β w' hs
  refine ⟨?_, hs.chg⟩
  show Value.bool (decide ((⟨l.toArray⟩ : ByteArray) = ⟨m.toArray⟩)) = _
  congr 1
  simp

def kindB (k : UInt8) : Bool := decide (1 ≤ k.toNat ∧ k.toNat ≤ 15)
/-- Bytes as a number, the highest first. -/
def numB (l : List UInt8) : Nat := l.foldl (fun a x => (a * 256 + x.toNat) % 18446744073709551616) 0
theorem numB_snoc (l : List UInt8) (x : UInt8) : numB (l ++ [x]) = (numB l * 256 + x.toNat) % 18446744073709551616 := by simp [numB]
theorem take_snoc (l : List UInt8) (k : Nat) (h : k < l.length) : l.take (k + 1) = l.take k ++ [l[k]] := by rw [List.take_succ_eq_append_getElem h]
theorem wrap_u64 (x : Int) : IntKind.u64.wrap x = x % 18446744073709551616 := by simp [IntKind.wrap, IntKind.bits, IntKind.signed]

theorem num_c (w : World) (A : Option Addr) (l : List UInt8) (c : Nat) (hr : Bs w A l) (hn : l.length ≤ lim) :
    Calls Tryd.prog n_ostiaryref01_Num #[.slice A l.length c] w fun e w' => ∃ v, e = .returned v ∧ v = .int .u64 (numB l) ∧ Chg None_ w w' := by
  rw [lim_eq] at hn
  have g := good_ostiaryref01_Num w None_
  refine calls_of_sx (cx := cx_ostiaryref01_Num w None_) g b_ostiaryref01_Num rfl rfl (β := Va.z) [.c (.v (.slice A l.length c))] 0 [] [bsF A l] rfl rfl ((Sat.start rfl).rd (fun _ h => by cases h) hr) ?_
  refine loop_rule 0 (fun k : Nat => [(6, .c (.v (.slice A l.length c))), (7, .c (.v (.int .i64 l.length))), (8, .c (.v (.int .i64 k))), (3, .c (.v (.int .u64 (numB (l.take k)))))]) (fun _ => []) (fun _ => [bsF A l])
    (fun k => k ≤ l.length) (fun k => l.length - k) 0 (Nat.zero_le _) (Ent.same ⟨rfl, rfl, rfl, rfl, trivial⟩ rfl) g ?_
  intro k hk
  refine BIf.dec (fun hlt => ?_) (fun hge => ?_)
  · have hlt : k < l.length := by omega
    obtain ⟨ad, hA⟩ := Bs.addr hr (by omega)
    refine ⟨ad, k, hA, rfl, hlt, byte l[k], fun β w hs => Bs.cell (hs.get 0 rfl) hA hlt, ?_⟩
    refine ⟨_, wrap_u64 _, ?_⟩
    refine ⟨((l[k].toNat : Nat) : Int), by rw [wrap_u64]; have := l[k].toNat_lt; omega, ?_⟩
    refine ⟨(numB (l.take (k + 1)) : Int), by rw [wrap_u64, take_snoc l k hlt, numB_snoc]; omega, ?_⟩
    refine ⟨((k + 1 : Nat) : Int), by rw [wrap_i64 (by omega) (by omega)]; rfl, ?_⟩
    exact ⟨k + 1, hlt, by omega, Ent.same ⟨rfl, rfl, rfl, rfl, trivial⟩ rfl⟩
  · intro β w' hs
    refine ⟨?_, hs.chg⟩
    show Value.int .u64 (numB (l.take k)) = _
    rw [List.take_of_length_le (by omega)]
end Go.Proofs.YthkjfepbmnabkaaDoor.Sx
