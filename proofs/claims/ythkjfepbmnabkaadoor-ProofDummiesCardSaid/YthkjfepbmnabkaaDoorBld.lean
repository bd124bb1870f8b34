/- A Builder of strings: a byte written; its text. -/
import Derived.Test.YthkjfepbmnabkaaDoorSxEff
import Derived.Test.YthkjfepbmnabkaaDoorBe
import Derived.Test.YthkjfepbmnabkaaDoorShelf
namespace Go.Proofs.YthkjfepbmnabkaaDoor.Sx
open Go
attribute [local irreducible] Calls

def selfV (b : Nat) : Value := .pointer (some ⟨b, 0, none⟩)
theorem con_of_calls {P : Program} {k : FuncId} {args : Array Value} {w : World} {Gs : List Fact} {R : Value → List Fact → Prop} (h : Calls P k args w fun e w' => ∃ v, e = .returned v ∧ Fin w Gs R v w') : Con P k args w Gs R := h
/-- One owned fact that is turned to another one. -/
theorem fin_one {w w' : World} {f f' : Fact} {R : Value → List Fact → Prop} {v : Value} (hR : R v [f']) (hc : Chg f.D w w') (hp : f'.p w') (ho : f'.own = true) (hD : ∀ k, f'.D k → f.D k ∧ k < w'.heap.size) : Fin w [f] R v w' := by
  have hu : Un [f] = f.D := by funext k; simp [Un]
  refine ⟨[f'], hR, by rw [hu]; exact hc, ⟨fun g hg => ?_, fun g hg k hk => ?_, List.pairwise_singleton _ _⟩, ⟨ho, trivial⟩, fun g hg k hk => ?_⟩
  · obtain rfl := List.mem_singleton.1 hg; exact hp
  · obtain rfl := List.mem_singleton.1 hg; exact (hD k hk).2
  · obtain rfl := List.mem_singleton.1 hg; rw [hu]; exact .inl (hD k hk).1
theorem copyCheck_c (w : World) (b : Nat) (p x : Value) (hp : p = .pointer none ∨ p = selfV b) (h : (bkF b ty_strings_Builder [p, x]).p w) :
    Con Tryd.prog n_strings_Builder_copyCheck #[selfV b] w [bkF b ty_strings_Builder [p, x]] fun v Fs => v = .tuple #[] ∧ Fs = [bkF b ty_strings_Builder [selfV b, x]] := by
  have hb : w.heap[b]? = some (.cells #[p, x] ty_strings_Builder (0, 0)) := h
  have hlt : b < w.heap.size := (Array.getElem?_eq_some_iff.1 hb).1
  have h0 : w.cell? ⟨b, 0, none⟩ = some p := by rw [cell_of_row w b 0 _ _ _ hb]; rfl
  rcases hp with rfl | rfl
  · refine con_of_calls (Calls.mono (Any.Builder_copyCheck_fresh { Tryd.lays156 with } Tryd.Builder_Extra_156.toX72 b w h0 (by simp [World.shape?, hb]; rfl) (by simp [World.frozen?, hb])) ?_)
    rintro e w' ⟨rfl, rfl⟩
    have h2 := heap_setCell_same w b 0 #[.pointer none, x] ty_strings_Builder (selfV b) hb
    refine ⟨_, rfl, fin_one (f' := bkF b ty_strings_Builder [selfV b, x]) ⟨rfl, rfl⟩ ⟨rfl, rfl, rfl, by simp [World.setCell], fun k _ hk => heap_setCell_other w _ k _ hk⟩ h2 rfl (fun k hk => ⟨hk, ?_⟩)⟩
    obtain rfl : k = b := hk
    simpa [World.setCell] using hlt
  · refine con_of_calls (Calls.mono (Any.Builder_copyCheck_used { Tryd.lays156 with } Tryd.Builder_Extra_156.toX72 b w h0) ?_)
    rintro e w' ⟨rfl, rfl⟩
    refine ⟨_, rfl, fin_one (f' := bkF b ty_strings_Builder [selfV b, x]) ⟨rfl, rfl⟩ (Chg.refl _ _) h rfl (fun k hk => ⟨hk, ?_⟩)⟩
    obtain rfl : k = b := hk
    exact hlt

/-- A Builder that was written into, or not. -/
def bldF (b : Nat) (p : Value) (A : Option Addr) (l : List UInt8) (c : Nat) : List Fact := [bkF b ty_strings_Builder [p, .slice A l.length c], browF ty_uint8 A l c]
theorem writeByte_c (w : World) (b : Nat) (p : Value) (A : Option Addr) (l : List UInt8) (c : Nat) (x : UInt8) (hp : p = .pointer none ∨ p = selfV b) (hl : l.length < 140737488355328) (hm : Mem w (bldF b p A l c)) :
    Con Tryd.prog n_strings_Builder_WriteByte #[selfV b, byte x] w (bldF b p A l c) fun v Fs => v = .nilIface ∧ ∃ A' c', Fs = bldF b (selfV b) A' (l ++ [x]) c' := by
  have g := good_strings_Builder_WriteByte w (Un (bldF b p A l c))
  refine con_of_sx (cx := cx_strings_Builder_WriteByte w (Un (bldF b p A l c))) g b_strings_Builder_WriteByte rfl rfl (β := Va.z) [.c (.v (selfV b)), .c (.v (byte x))] 0 [] _ rfl rfl (hm.sat0 rfl (fun f hf _ k hk => ⟨f, hf, hk⟩)) ?_
  refine call_con [0] (fun β w' hs => copyCheck_c w' b p _ hp (hs.get 0 rfl)) ?_
  rintro v Fs ⟨rfl, rfl⟩
  refine ⟨.slice A l.length c, fun β w' hs => by
    have hb : w'.heap[b]? = some (.cells #[selfV b, .slice A l.length c] ty_strings_Builder (0, 0)) := hs.get 0 rfl
    show w'.cell? ⟨b, 1, none⟩ = _
    rw [cell_of_row w' b 1 _ _ _ hb]; rfl, ?_⟩
  intro b2
  refine ⟨2, l.length, l.length + 1, l.map byte, [byte x], (l ++ [x]).map byte, rfl, fun β w' hs => row_rd (hs.get 0 rfl), bytes_one [x], rfl, by simp, by rw [maxLen_eq]; omega, by show (l.length + 1) * 1 ≤ _; omega, ?_⟩
  intro A' c' h1 h2 h3
  refine ⟨_, fun β w' hs => hs.bkSet 1 (o := 1) (us := [.slice A' (l.length + 1) c']) rfl (Nat.le_refl 2) (fun u hu => by obtain rfl := List.mem_singleton.1 hu; rfl), ?_⟩
  intro β w' hs
  have e : (l ++ [x]).length = l.length + 1 := by simp
  refine hs.fin [1, 2] ⟨rfl, A', c', ?_⟩
  show [bkF b ty_strings_Builder [selfV b, .slice A' (l.length + 1) c'], rowF ty_uint8 1 (.slice A' (l.length + 1) c') (l.length + 1) ((l ++ [x]).map byte)] = _
  rw [← e]
  rfl

theorem Mem.none (w : World) : Mem w [] := ⟨fun _ q => (by cases q), fun _ q => (by cases q), List.Pairwise.nil⟩
theorem ptr_byte : Tryd.prog.underlying ty_ptr_uint8 = some (.pointer ty_uint8) := by kernel_rfl
/-- The text of a Builder that was written into. -/
theorem text_c (w : World) (b : Nat) (p : Value) (A : Option Addr) (l : List UInt8) (c : Nat) (hne : l ≠ []) (hm : Mem w (bldF b p A l c)) :
    Con Tryd.prog n_strings_Builder_String #[selfV b] w (bldF b p A l c) fun v Fs => v = .string ⟨l.toArray⟩ ∧ Fs = [] := by
  have g := good_strings_Builder_String w (Un (bldF b p A l c))
  have hl0 : l.length ≠ 0 := by simpa using hne
  have hrow : w.ownsRow 0 ty_uint8 1 (.slice A l.length c) l.length (l.map byte) := hm.fact _ (List.mem_cons_of_mem _ List.mem_cons_self)
  obtain ⟨gb, rfl, hlc, hcm⟩ : ∃ gb, A = some ⟨gb, 0, none⟩ ∧ l.length ≤ c ∧ c ≤ maxLen := by
    rcases hrow.2 with ⟨_, hz⟩ | ⟨gb, cap, cur, hv, _, _, h1, h2, _⟩
    · exact absurd hz hl0
    · injection hv with h3 h4 h5
      subst h5
      exact ⟨gb, h3, h1, h2⟩
  refine con_of_sx (cx := cx_strings_Builder_String w (Un (bldF b p (some ⟨gb, 0, none⟩) l c))) g b_strings_Builder_String rfl rfl (β := Va.z) [.c (.v (selfV b))] 0 [] _ rfl rfl (hm.sat0 rfl (fun f hf _ k hk => ⟨f, hf, hk⟩)) ?_
  refine draw_rule g p_strings_Builder_String_1 (by kernel_rfl) [] [bkF b ty_strings_Builder [p, .slice (some ⟨gb, 0, none⟩) l.length c]] (Sub.of (List.nil_sublist _) (List.sublist_append_left [_] [_])) ?_
  have hcell : ∀ (cx : Cx) (n : Nat) (β : Va) (w' : World), Sat cx β n [] [bkF b ty_strings_Builder [p, .slice (some ⟨gb, 0, none⟩) l.length c]] w' → w'.cell? ⟨b, 1, none⟩ = some (.slice (some ⟨gb, 0, none⟩) l.length c) := fun cx n β w' hs => by
    have hb : w'.heap[b]? = some (.cells #[p, .slice (some ⟨gb, 0, none⟩) l.length c] ty_strings_Builder (0, 0)) := hs.get 0 rfl
    rw [cell_of_row w' b 1 _ _ _ hb]; rfl
  refine ⟨.slice (some ⟨gb, 0, none⟩) l.length c, hcell _ _, ?_⟩
  refine ⟨.slice (some ⟨gb, 0, none⟩) l.length c, hcell _ _, ?_⟩
  refine ⟨[], _, .c (.v (.pointer (some ⟨gb, 0, none⟩))), fun β w' ty hs => ⟨w', ?_, hs⟩, trivial, Sub.of (List.nil_sublist _) (List.sublist_append_left [_] [_]), ?_⟩
  · have := Lib.run_unsafeSliceData_row (P := Tryd.prog) w' #[ty_sl_uint8] ty ⟨gb, 0, none⟩ l.length c (by omega)
    simp only [builtin, Sem.run_bind]
    erw [this]
    rfl
  refine ⟨[], [bkF b ty_strings_Builder [p, .slice (some ⟨gb, 0, none⟩) l.length c]], .c (.v (.string ⟨l.toArray⟩)), fun β w' ty hs => ⟨w'.freeze ⟨gb, 0, none⟩ l.length, ?_, ?_⟩, trivial, Sub.refl, ?_⟩
  · have hrow' : w'.ownsRow 0 ty_uint8 1 (.slice (some ⟨gb, 0, none⟩) l.length c) l.length (l.map byte) := hs.get 1 rfl
    obtain ⟨cur, hg, hcs⟩ : ∃ cur, w'.heap[gb]? = some (.cells cur ty_uint8 (0, 0)) ∧ cur.size = c * 1 := by
      rcases hrow'.2 with ⟨_, hz⟩ | ⟨g', cap, cur, hv, _, hg, _, _, h3, _⟩
      · exact absurd hz hl0
      · injection hv with h4 h5 h6
        injection h4 with h4
        injection h4 with h4
        subst h4 h6
        exact ⟨cur, hg, h3⟩
    have := Lib.run_unsafeString_row (P := Tryd.prog) w' ty_ptr_uint8 3 ty ty_uint8 ptr_byte Tryd.Builder_Extra_156.cellsByte gb cur.size (by simp [World.shape?, hg]) l hne (by omega) (by rw [maxLen_eq] at hcm; omega) (fun j x hx => by
      have hr := row_rd hrow'
      obtain ⟨ad, q, hc⟩ := hr.2 (by omega)
      obtain rfl := Option.some.inj q
      exact hc j (byte x) (by simp [hx]))
    simp only [builtin, Sem.run_bind]
    erw [this]
    rfl
  · refine hs.swap [1] ⟨rfl, trivial⟩ (Fs := []) (Chg.mono (freeze_chg _ _ _) (fun i _ q => ⟨_, List.mem_singleton.2 rfl, ?_⟩)) (Mem.none _) (fun _ q => by cases q)
    obtain rfl : i = gb := q
    rfl
  intro β w' hs
  exact hs.fin [] ⟨rfl, rfl⟩
end Go.Proofs.YthkjfepbmnabkaaDoor.Sx
