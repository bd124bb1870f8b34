/- The sum of a text. -/
import Derived.Test.YthkjfepbmnabkaaDoorSha5
namespace Go.Proofs.YthkjfepbmnabkaaDoor.Sx
open Go Sha
attribute [local irreducible] Calls

theorem rd_sub_row {e size k n c : Nat} {A : Option Addr} {xs ys : List Value} : ∀ g, (rdF size A k xs).D g → (rowF e size (.slice A n c) n ys).D g := by
  rintro g ⟨_, ad, rfl, rfl⟩
  rfl
/-- The last one is only read. -/
theorem Mem.lastRd {w : World} {f R X : Fact} {e c : Nat} {A : Option Addr} {l : List UInt8} (h : Mem w [f, R, X, browF e A l c]) : Mem w [f, R, X, bsF A l] := by
  have hp : Bs w A l := row_rd (h.fact (browF e A l c) (by simp))
  refine ⟨fun g hg => ?_, fun g hg k hk => ?_, ?_⟩
  · simp only [List.mem_cons, List.not_mem_nil, or_false] at hg
    rcases hg with rfl | rfl | rfl | rfl
    · exact h.fact _ (by simp)
    · exact h.fact _ (by simp)
    · exact h.fact _ (by simp)
    · exact hp
  · simp only [List.mem_cons, List.not_mem_nil, or_false] at hg
    rcases hg with rfl | rfl | rfl | rfl
    · exact h.flt g (by simp) k hk
    · exact h.flt g (by simp) k hk
    · exact h.flt g (by simp) k hk
    · exact h.flt (browF e A l c) (by simp) k (rd_sub_row k hk)
  · obtain ⟨h1, h2⟩ := List.pairwise_cons.1 h.sepf
    obtain ⟨h3, h4⟩ := List.pairwise_cons.1 h2
    obtain ⟨h5, _⟩ := List.pairwise_cons.1 h4
    refine List.pairwise_cons.2 ⟨fun g hg ho => ?_, List.pairwise_cons.2 ⟨fun g hg ho => ?_, List.pairwise_cons.2 ⟨fun g hg ho => ?_, List.pairwise_singleton _ _⟩⟩⟩
    · simp only [List.mem_cons, List.not_mem_nil, or_false] at hg
      rcases hg with rfl | rfl | rfl
      · exact h1 _ (by simp) ho
      · exact h1 _ (by simp) ho
      · exact fun k hk q => h1 (browF e A l c) (by simp) (.inr rfl) k hk (rd_sub_row k q)
    · simp only [List.mem_cons, List.not_mem_nil, or_false] at hg
      rcases hg with rfl | rfl
      · exact h3 _ (by simp) ho
      · exact fun k hk q => h3 (browF e A l c) (by simp) (.inr rfl) k hk (rd_sub_row k q)
    · obtain rfl := List.mem_singleton.1 hg
      exact fun k hk q => h5 (browF e A l c) (by simp) (.inr rfl) k hk (rd_sub_row k q)
theorem Blocks_c (w : World) (A : Option Addr) (n c : Nat) : Con Tryd.prog n_sha_Blocks #[.slice A n c] w [] (fun v Fs => ∃ bx, v = .func (.func n_sha_Blocks_1) #[] #[.pointer (some ⟨bx, 0, none⟩)] ∧ Fs = [bkF bx ty_sl_uint8 [.slice A n c]]) := by
  refine con_of_sx (cx := cx_sha_Blocks w (Un [])) (good_sha_Blocks w (Un [])) b_sha_Blocks rfl rfl (β := Va.z) [.c (.v (.slice A n c))] 0 [] [] rfl rfl (Sat.start rfl) ?_
  intro β w' hs
  exact hs.ofBk.fin [0] ⟨β 0, rfl, rfl⟩
/-- One part. -/
theorem join1_c (w : World) (P A : Option Addr) (cP c : Nat) (l : List UInt8) (hP : Rd 1 P 1 [.slice A l.length c] w) (hr : Bs w A l) (hn : l.length ≤ 140737488355328) :
    Con Tryd.prog n_bytes_Join #[.slice P 1 cP, .slice none 0 0] w [] fun v Fs => ∃ A' c', v = .slice A' l.length c' ∧ l.length ≤ c' ∧ c' ≤ maxLen ∧ Fs = [browF ty_uint8 A' l c'] := by
  have hs0 : Sat (cx_bytes_Join w (Un [])) Va.z 0 [] [oldF w] w := old_sat rfl
  refine con_of_sx (cx := cx_bytes_Join w (Un [])) (good_bytes_Join w (Un [])) b_bytes_Join rfl rfl (β := Va.z) [.c (.v (.slice P 1 cP)), .c (.v (.slice none 0 0))] 0 [] [browF ty_uint8 none [] 0, oldF w] rfl rfl (hs0.nilRow _ _) ?_
  obtain ⟨ad, rfl, hc⟩ := hP.2 (by decide)
  refine ⟨ad, 0, rfl, rfl, by decide, .slice A l.length c, fun β w' hs => ?_, ?_⟩
  · have h1 : Rd 1 (some ad) 1 [.slice A l.length c] w' := hP.old (hs.get 1 rfl)
    obtain ⟨ad', h2, h3⟩ := h1.2 (by decide)
    obtain rfl := Option.some.inj h2
    exact h3 0 _ rfl
  refine ⟨0, 0, l.length, [], l.map byte, _, rfl, fun β w' hs => hr.old (hs.get 1 rfl), bytes_one l, Nat.zero_add _, rfl, by rw [maxLen_eq]; omega, by show l.length * 1 ≤ _; omega, ?_⟩
  intro A' c' h1 h2 h3 β w' hs
  exact hs.fin [0] ⟨A', c', rfl, h1, h2, rfl⟩

theorem step64_c (w : World) (b ty : Nat) (s : S8) (A : Option Addr) (x : List UInt8) (hx : x.length = 64) (hm : Mem w [stF b ty s, bsF A x, oddF 1]) :
    Con Tryd.prog n_sha_state_step #[.pointer (some ⟨b, 0, none⟩), .slice A 64 64] w [stF b ty s] fun v Fs => v = .tuple #[] ∧ Fs = [stF b ty (Sha.step s x)] := by
  have := step_c w b ty s A x 64 hm (by omega) (by omega) (by decide)
  rw [hx] at this
  exact this

/-- The tables that are read. -/
def firstF (g : Nat) : Fact := rdF 1 (some ⟨g, 0, none⟩) 8 (Sha.first.l.map u32)
theorem sum1_c (w : World) (P A : Option Addr) (cP c : Nat) (l : List UInt8) (hP : Rd 1 P 1 [.slice A l.length c] w) (hr : Bs w A l) (hn : l.length ≤ 70368744177664) (h1 : (oddF 1).p w) (h0 : (firstF 0).p w) :
    Con Tryd.prog n_sha_Sum #[.slice P 1 cP] w [] fun v Fs => ∃ A' c', v = .slice A' 32 c' ∧ 32 ≤ c' ∧ c' ≤ maxLen ∧ Fs = [browF ty_uint8 A' (Sha.sum l) c'] := by
  have g := good_sha_Sum w (Un [])
  have hs0 : Sat (cx_sha_Sum w (Un [])) Va.z 0 [] [oldF w] w := old_sat rfl
  have hs1 : Sat (cx_sha_Sum w (Un [])) Va.z 0 [] [oddF 1, oldF w] w := hs0.sub 0 rfl rfl _ rfl h1 (rd_lt h1)
  refine con_of_sx (cx := cx_sha_Sum w (Un [])) g b_sha_Sum rfl rfl (β := Va.z) [.c (.v (.slice P 1 cP))] 0 [] [oddF 1, oldF w] rfl rfl hs1 ?_
  refine ⟨Sha.first.l.map u32, rfl, fun β w' hs j u hu => ?_, ?_⟩
  · have h2 : Rd 1 (some ⟨0, 0, none⟩) 8 (Sha.first.l.map u32) w' := Rd.old h0 (hs.get 1 rfl)
    obtain ⟨ad, h3, h4⟩ := h2.2 (by decide)
    obtain rfl := Option.some.inj h3
    exact h4 j u hu
  refine call_con [] (fun β w' hs => join1_c w' P A cP c l (hP.old (hs.get 1 rfl)) (hr.old (hs.get 1 rfl)) (by omega)) ?_
  rintro v Fs ⟨A1, c1, rfl, h2, h3, rfl⟩
  refine call_con [] (fun β w' hs => Blocks_c w' A1 l.length c1) ?_
  rintro v Fs ⟨bx, rfl, rfl⟩
  refine reify_rule g 0 (fun _ => Sha.first.l.map u32) rfl rfl (fun _ => rfl) (fun sb => ?_)
  obtain ⟨q, hq⟩ : ∃ q, l ++ ends l.length = q := ⟨_, rfl⟩
  have hsum : Sha.sum l = out ((blks q (q.length / 64)).foldl Sha.step Sha.first) := by rw [← go_eq, ← hq]; rfl
  rw [hsum]
  refine range_rule (α := List UInt8) (ι := S8) (κ := S8) g rfl (cv := [.pointer (some ⟨bx, 0, none⟩)]) rfl (by kernel_rfl) 1 (Nat.le_refl 1)
    (fun pre s => s = pre.foldl Sha.step Sha.first) (fun _ => []) (fun s => [stF sb 125 s]) (fun _ => ⟨rfl, trivial⟩)
    (fun _ _ _ => False) (fun _ => []) (fun _ => []) (fun _ => trivial)
    [bkF bx ty_sl_uint8 [.slice A1 l.length c1]] [browF ty_uint8 A1 l c1] [oddF 1] ⟨rfl, trivial⟩ (fun g hg => by obtain rfl := List.mem_singleton.1 hg; rfl)
    Sha.first rfl (fun β w' hs => ⟨β, Agr.refl _ _, hs.perm [1, 2, 0, 3]⟩) insB
    (fun xs Fs' => xs = blks q (q.length / 64) ∧ Fs' = []) (fun _ Fs' => Fs' = [])
    (fun l' w' f0 R J Jx hJ0 hJo hRo hY hm => (blocks_it l' w' bx A1 l c1 f0 R J Jx hJ0 hJo hRo hY hn hm.lastRd).mono fun _ Fs h => by rw [hq] at h; exact h) ?_ ?_ ?_
  · rintro s pre x args X W S l' bs pn pn' hbs hpre ⟨hx, B, rfl, rfl⟩
    refine ⟨_, rfl, ?_⟩
    refine call_con [1] (fun β w' hs => step64_c w' sb 125 s B x hx (hs.mem.take (js := [1, 0, 2]) rfl)) ?_
    rintro v Fs ⟨rfl, rfl⟩
    refine ⟨Sha.step s x, by show Sha.step s x = (pre ++ [x]).foldl Sha.step Sha.first; rw [List.foldl_append, hpre]; rfl, Ent.mk' trivial rfl (fun β w' hs => ?_)⟩
    exact hs.weaken (List.Sublist.refl _) (List.Sublist.cons_cons _ (List.nil_sublist _))
  · rintro xs s Fs hpre ⟨rfl, rfl⟩
    refine call_con [0] (fun β w' hs => stbytes_c w' sb 125 s (hs.mem.take (js := [0]) rfl)) ?_
    rintro v Fs ⟨A3, c3, rfl, h5, h6, rfl⟩
    intro β w' hs
    refine hs.fin [1] ⟨A3, c3, rfl, h5, h6, ?_⟩
    rw [← hpre]
    rfl
  · rintro e pre s Fs h _
    exact h.elim
end Go.Proofs.YthkjfepbmnabkaaDoor.Sx
