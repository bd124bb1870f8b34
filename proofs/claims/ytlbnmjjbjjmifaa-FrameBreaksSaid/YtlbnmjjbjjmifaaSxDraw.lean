/- Regions that draw their order: one walk, by a plan. -/
import Derived.Test.YtlbnmjjbjjmifaaSxCode
namespace Go.Proofs.Ytlbnmjjbjjmifaa.Sx
open Go

inductive Plan where
  | done
  | take (i : Nat) (p : Plan)
  | exec (i : Nat) (p : Plan)
  | fork (i : Nat) (p : Plan) (j : Nat) (q : Plan)

def planOk (ops : Array Oper) : Nat → Array Bool → Plan → Bool
  | _, listed, .done => (Region.ready .any ops listed).isEmpty
  | fuel + 1, listed, .take i p => (ops[i]?).isSome && (Region.free .any ops listed i && ((Region.ready .any ops listed).contains i && planOk ops fuel (listed.setIfInBounds i true) p))
  | fuel + 1, listed, .exec i p => (Region.ready .any ops listed == [i]) && planOk ops fuel (listed.setIfInBounds i true) p
  | fuel + 1, listed, .fork i p j q => (Region.ready .any ops listed == [i, j]) && (planOk ops fuel (listed.setIfInBounds i true) p && planOk ops fuel (listed.setIfInBounds j true) q)
  | 0, _, _ => false
def drawOk (ops : Array Oper) (p : Plan) : Bool := Region.noSelect ops && planOk ops ops.size (Array.replicate ops.size false) p

/-- What is left of the state still holds. -/
def Sub (cx : Cx) (n : Nat) (H : List Bk) (F : List Fact) (H0 : List Bk) (F0 : List Fact) : Prop := ∀ β w, Sat cx β n H F w → Sat cx β n H0 F0 w

/-- An operation that is taken ahead: it reads what is held. -/
def tkwp (cx : Cx) (all : List Oper) (H0 : List Bk) (F0 : List Fact) (n : Nat) (env : Env) (H : List Bk) (F : List Fact) (o : Oper) (K : KT) : Prop :=
  match slOk o.op with
  | true => match o.guard with
    | none => rowp cx n env H0 F0 o.op fun s => put cx.N n env H F o.dst s K
    | some (j, want) => match dstOf all j with
      | some t => match get env t with
        | some (.c (.v (.bool b))) => (match b with
            | true => (match want with | true => rowp cx n ((t, bl true) :: env) H0 F0 o.op (fun s => put cx.N n ((t, bl true) :: env) H F o.dst s K) | false => put cx.N n ((t, bl true) :: env) H F o.dst (.c (.v undef)) K)
            | false => (match want with | true => put cx.N n ((t, bl false) :: env) H F o.dst (.c (.v undef)) K | false => rowp cx n ((t, bl false) :: env) H0 F0 o.op (fun s => put cx.N n ((t, bl false) :: env) H F o.dst s K)))
        | some (.c (.v (.tuple _))) => put cx.N n env H F o.dst (.c (.v undef)) K
        | _ => False
      | none => False
  | false => False

def dwp (cx : Cx) (all : List Oper) (H0 : List Bk) (F0 : List Fact) : Plan → KT → KT
  | .done, K => K
  | .take i p, K => fun n env H F => match nth all i with
    | some o => tkwp cx all H0 F0 n env H F o (dwp cx all H0 F0 p K)
    | none => False
  | .exec i p, K => fun n env H F => match nth all i with
    | some o => gwp cx all n env H F o fun n env H F => Sub cx n H F H0 F0 ∧ dwp cx all H0 F0 p K n env H F
    | none => False
  | .fork i p j q, K => fun n env H F => match nth all i, nth all j with
    | some o, some o' => gwp cx all n env H F o (fun n env H F => Sub cx n H F H0 F0 ∧ dwp cx all H0 F0 p K n env H F) ∧
        gwp cx all n env H F o' (fun n env H F => Sub cx n H F H0 F0 ∧ dwp cx all H0 F0 q K n env H F)
    | _, _ => False

section
variable {cx : Cx} {β β0 : Nat → Nat} {n n0 : Nat} {env : Env} {H H0 : List Bk} {F F0 : List Fact} {a : Act} {w w' : World}

theorem Sat.recast (h : Sat cx β n H F w) {β' : Nat → Nat} {m : Nat} (hb : ∀ i, i < n → β' i = β i) (hle : cx.bs.length ≤ m) (hm : ∀ b ∈ H, b.id < m ∧ ∀ x ∈ b.cells, x.lt m) : Sat cx β' m H F w := by
  have hid : ∀ b ∈ H, β' b.id = β b.id := fun b hm => hb b.id (h.ltb b hm).1
  refine ⟨h.chg, ⟨hle, fun i hi => by rw [hb i (Nat.lt_of_lt_of_le hi h.fix.1)]; exact h.fix.2 i hi⟩, fun b hm => ?_, fun b hm => ?_, ?_, hm, h.fact, h.flt, fun f hf b hm => ?_, h.fown, h.sepf⟩
  · rw [hid b hm, SL.map_congr hb (h.ltb b hm).2]; exact h.blk b hm
  · rw [hid b hm]; exact h.mine b hm
  · exact List.Pairwise.imp_of_mem (fun {b c} hb hc hne => by rw [hid b hb, hid c hc]; exact hne) h.inj
  · rw [hid b hm]; exact h.sepb f hf b hm
theorem Sat.up (h : Sat cx β n H F w) {β' : Nat → Nat} {m : Nat} (hb : ∀ i, i < n → β' i = β i) (hm : n ≤ m) : Sat cx β' m H F w :=
  h.recast hb (Nat.le_trans h.fix.1 hm) fun b hb => ⟨Nat.lt_of_lt_of_le (h.ltb b hb).1 hm, fun x hx => SL.lt_mono hm ((h.ltb b hb).2 x hx)⟩
theorem Sat.down (h : Sat cx β n H F w) {β' : Nat → Nat} {m : Nat} (hle : cx.bs.length ≤ m) (hb : ∀ i, i < m → β i = β' i) (hm : ∀ b ∈ H, b.id < m ∧ ∀ x ∈ b.cells, x.lt m) : Sat cx β' m H F w := by
  have h1 : Sat cx β m H F w := h.recast (fun _ _ => rfl) hle hm
  exact h1.recast (fun i hi => (hb i hi).symm) hle hm

theorem tkwp_sound (g : Good cx) (h : Inv cx β n env H F a w) (h0 : Sat cx β n H0 F0 w) {ops : Array Oper} {o : Oper} {K : KT} (hp : tkwp cx ops.toList H0 F0 n env H F o K) :
    ∃ v, YieldsIf cx.P ops (fun u => Sat cx β n H0 F0 u) o v a ∧ AfterE cx β n K (a.put o.dst v) w := by
  have row : ∀ (env' : Env), Inv cx β n env' H F a w → ∀ (hsl : slOk o.op = true), rowp cx n env' H0 F0 o.op (fun s => put cx.N n env' H F o.dst s K) →
      ∃ v, (∀ u, Sat cx β n H0 F0 u → (execOp a.eval o).run cx.P u = .ok (.value v) u) ∧ AfterE cx β n K (a.put o.dst v) w := by
    intro env' h' hsl hr
    have h'' : Inv cx β n env' H0 F0 a w := ⟨h'.ag, h'.size, h'.df, h'.lte, h0⟩
    obtain ⟨r, h1, h2, h3⟩ := rowp_sound g h'' o (slOk_spec hsl) hr
    exact ⟨r.val β, h3, put_sound h' h1 h2⟩
  unfold tkwp at hp
  split at hp
  · rename_i hsl
    split at hp
    · rename_i hg
      obtain ⟨v, h1, h2⟩ := row env h hsl hp
      exact ⟨v, .inl ⟨by simp [Region.wanted, hg], h1⟩, h2⟩
    · rename_i j want hg
      split at hp
      · rename_i t hdt
        have hop : (ops[j]?).bind (·.dst) = some t := by
          unfold dstOf at hdt
          rw [nth_eq] at hdt
          split at hdt
          · rename_i o' ho'
            have : ops[j]? = some o' := by simpa using ho'
            rw [this]; exact hdt
          · cases hdt
        split at hp
        · rename_i b hb
          have hy : yielded ops a.tmps j = some b := by
            have := h.ag t _ hb
            simp only [SV.val, SL.val] at this
            simp [yielded, hop, this]
          obtain ⟨hT, hF⟩ := (show BIf _ _ _ from hp).out
          have hw : Region.wanted o (yielded ops a.tmps) = (b == want) := by simp [Region.wanted, hg, hy]
          cases b <;> cases want
          · obtain ⟨v, h1, h2⟩ := row _ (h.shadow hb) hsl (hF rfl)
            exact ⟨v, .inl ⟨by rw [hw]; rfl, h1⟩, h2⟩
          · exact ⟨undef, .inr ⟨by rw [hw]; rfl, rfl⟩, put_sound (s := .c (.v undef)) (h.shadow hb) trivial (hF rfl)⟩
          · exact ⟨undef, .inr ⟨by rw [hw]; rfl, rfl⟩, put_sound (s := .c (.v undef)) (h.shadow hb) trivial (hT rfl)⟩
          · obtain ⟨v, h1, h2⟩ := row _ (h.shadow hb) hsl (hT rfl)
            exact ⟨v, .inl ⟨by rw [hw]; rfl, h1⟩, h2⟩
        · rename_i vs hb
          have hy : yielded ops a.tmps j = none := by
            have := h.ag t _ hb
            simp only [SV.val, SL.val] at this
            simp [yielded, hop, this]
          exact ⟨undef, .inr ⟨by simp [Region.wanted, hg, hy], rfl⟩, put_sound (s := .c (.v undef)) h trivial hp⟩
        · exact hp.elim
      · exact hp.elim
  · exact hp.elim

theorem YieldsIf.held {P : Program} {ops : Array Oper} {S T : World → Prop} (hST : ∀ w, T w → S w) {o : Oper} {v : Value} {a : Act} (h : YieldsIf P ops S o v a) : YieldsIf P ops T o v a :=
  h.imp (fun ⟨h1, h2⟩ => ⟨h1, fun w hw => h2 w (hST w hw)⟩) id

theorem dwp_sound (g : Good cx) {ops : Array Oper} {K : KT} {Q : Exit → KT} (hK : K = Q .normal) (hsel : Region.noSelect ops = true) (hm : ∀ b ∈ H0, b.id < n0 ∧ ∀ x ∈ b.cells, x.lt n0) :
    ∀ (p : Plan) (fuel : Nat) (listed : Array Bool) (β : Nat → Nat) (n : Nat) (env : Env) (H : List Bk) (F : List Fact) (a : Act) (w : World), planOk ops fuel listed p = true → (∀ i, i < n0 → β i = β0 i) → n0 ≤ n →
      Inv cx β n env H F a w → Sat cx β0 n0 H0 F0 w → dwp cx ops.toList H0 F0 p K n env H F → wpAnyH cx.P .any ops (Post cx Q) (fun u => Sat cx β0 n0 H0 F0 u) fuel listed a w := by
  have exec1 : ∀ (i : Nat) (p : Plan) (fuel : Nat) (listed : Array Bool), (∀ (β : Nat → Nat) (n : Nat) (env : Env) (H : List Bk) (F : List Fact) (a : Act) (w : World), (∀ i, i < n0 → β i = β0 i) → n0 ≤ n →
      Inv cx β n env H F a w → Sat cx β0 n0 H0 F0 w → dwp cx ops.toList H0 F0 p K n env H F → wpAnyH cx.P .any ops (Post cx Q) (fun u => Sat cx β0 n0 H0 F0 u) fuel (listed.setIfInBounds i true) a w) →
      ∀ (β : Nat → Nat) (n : Nat) (env : Env) (H : List Bk) (F : List Fact) (a : Act) (w : World) (o : Oper), Sat cx β0 n0 H0 F0 w → (∀ i, i < n0 → β i = β0 i) → n0 ≤ n → Inv cx β n env H F a w → ops[i]? = some o →
      gwp cx ops.toList n env H F o (fun n env H F => Sub cx n H F H0 F0 ∧ dwp cx ops.toList H0 F0 p K n env H F) →
      wpOp cx.P ops (Post cx Q) i (fun a' w' => Sat cx β0 n0 H0 F0 w' ∧ wpAnyH cx.P .any ops (Post cx Q) (fun u => Sat cx β0 n0 H0 F0 u) fuel (listed.setIfInBounds i true) a' w') a w := by
    intro i p fuel listed ih β n env H F a w o h0 hb hn h hi hg
    have hs := gwp_sound (Q := Post cx Q) (K' := fun a' w' => Sat cx β0 n0 H0 F0 w' ∧ wpAnyH cx.P .any ops (Post cx Q) (fun u => Sat cx β0 n0 H0 F0 u) fuel (listed.setIfInBounds i true) a' w') g h hg (by
      rintro a' w' ⟨β', n', env', H', F', h1, h2, h3, h4, h5⟩
      have hb' : ∀ i, i < n0 → β' i = β0 i := fun i hi => (h1 i (Nat.lt_of_lt_of_le hi hn)).trans (hb i hi)
      have hsat : Sat cx β0 n0 H0 F0 w' := (h4 β' w' h3.sat).down h0.fix.1 hb' hm
      exact ⟨hsat, ih β' n' env' H' F' a' w' hb' (Nat.le_trans hn h2) h3 hsat h5⟩)
    unfold wpOp
    simp only [hi]
    split at hs
    · rename_i hw; rw [if_pos hw]; exact .inl hs
    · rename_i hw; rw [if_neg hw]; exact hs
  have getop : ∀ i o, nth ops.toList i = some o → ops[i]? = some o := fun i o h => by rw [nth_eq] at h; simpa using h
  intro p
  induction p with
  | done =>
    intro fuel listed β n env H F a w hok hb hn h h0 hp
    have hr : Region.ready .any ops listed = [] := by cases fuel <;> simpa [planOk] using hok
    exact wpAnyH_done hr (by
      subst hK
      exact ⟨β, n, env, H, F, h, hp⟩) fuel
  | take i p ih =>
    intro fuel listed β n env H F a w hok hb hn h h0 hp
    cases fuel with
    | zero => simp [planOk] at hok
    | succ fuel =>
      simp only [planOk, Bool.and_eq_true] at hok
      obtain ⟨hi, hf, hr, hok⟩ := hok
      simp only [dwp] at hp
      split at hp
      · rename_i o ho
        have hoi := getop i o ho
        have hST : ∀ u, Sat cx β0 n0 H0 F0 u → Sat cx β n H0 F0 u := fun u hu => hu.up hb hn
        obtain ⟨v, h1, β', n', env', H', F', h2, h3, h4, h5⟩ := tkwp_sound g h (hST w h0) hp
        refine wpAnyH_take hoi hsel hf hr (fun _ _ _ q => q.elim) (YieldsIf.held hST h1) h0 ?_
        exact ih fuel _ β' n' env' H' F' _ w hok (fun i hi => (h2 i (Nat.lt_of_lt_of_le hi hn)).trans (hb i hi)) (Nat.le_trans hn h3) h4 h0 h5
      · exact hp.elim
  | exec i p ih =>
    intro fuel listed β n env H F a w hok hb hn h h0 hp
    cases fuel with
    | zero => simp [planOk] at hok
    | succ fuel =>
      simp only [planOk, Bool.and_eq_true, beq_iff_eq] at hok
      obtain ⟨hr, hok⟩ := hok
      simp only [dwp] at hp
      split at hp
      · rename_i o ho
        refine wpAnyH_all hr (by simp) (fun j hj => ?_)
        obtain rfl := List.mem_singleton.1 hj
        exact exec1 _ p fuel listed (fun β n env H F a w q1 q2 q3 q4 q5 => ih fuel _ β n env H F a w hok q1 q2 q3 q4 q5) β n env H F a w o h0 hb hn h (getop _ o ho) hp
      · exact hp.elim
  | fork i p j q ihp ihq =>
    intro fuel listed β n env H F a w hok hb hn h h0 hp
    cases fuel with
    | zero => simp [planOk] at hok
    | succ fuel =>
      simp only [planOk, Bool.and_eq_true, beq_iff_eq] at hok
      obtain ⟨hr, hok1, hok2⟩ := hok
      simp only [dwp] at hp
      split at hp
      · rename_i o o' ho ho'
        obtain ⟨hp1, hp2⟩ := hp
        refine wpAnyH_all hr (by simp) (fun k hk => ?_)
        rcases List.mem_cons.1 hk with rfl | hk
        · exact exec1 _ p fuel listed (fun β n env H F a w q1 q2 q3 q4 q5 => ihp fuel _ β n env H F a w hok1 q1 q2 q3 q4 q5) β n env H F a w o h0 hb hn h (getop _ o ho) hp1
        · obtain rfl := List.mem_singleton.1 hk
          exact exec1 _ q fuel listed (fun β n env H F a w q1 q2 q3 q4 q5 => ihq fuel _ β n env H F a w hok2 q1 q2 q3 q4 q5) β n env H F a w o' h0 hb hn h (getop _ o' ho') hp2
      · exact hp.elim

theorem Inv.drew (h : Inv cx β n env H F a w) : Inv cx β n env H F a w.drew := ⟨h.ag, h.size, h.df, h.lte, h.sat.drew⟩

/-- A region that draws its order, by a plan: what is held of the state is H0, F0. -/
theorem draw_rule (g : Good cx) {id : Nat} {ops : Array Oper} {Q : Exit → KT} (p : Plan) (hok : drawOk ops p = true) (H0 : List Bk) (F0 : List Fact) (hsub : Sub cx n H F H0 F0)
    (h : dwp cx ops.toList H0 F0 p (Q .normal) n env H F) : Tri cx (.region id ops true) Q n env H F := by
  refine ⟨fun β a w hi => ?_⟩
  simp only [drawOk, Bool.and_eq_true] at hok
  have hs := (hsub β w.drew hi.drew.sat)
  exact wp_region_held (S := fun u => Sat cx β n H0 F0 u) g.mixed (dwp_sound g rfl hok.1 hs.ltb p ops.size _ β n env H F a w.drew hok.2 (fun _ _ => rfl) (Nat.le_refl _) hi.drew hs h)

/-! ### what is held -/
theorem Sub.refl : Sub cx n H F H F := fun _ _ h => h
theorem Sat.weaken (h : Sat cx β n H F w) {H' : List Bk} {F' : List Fact} (h1 : List.Sublist H' H) (h2 : List.Sublist F' F) : Sat cx β n H' F' w :=
  ⟨h.chg, h.fix, fun b hb => h.blk b (h1.subset hb), fun b hb => h.mine b (h1.subset hb), h.inj.sublist h1, fun b hb => h.ltb b (h1.subset hb), fun f hf => h.fact f (h2.subset hf), fun f hf => h.flt f (h2.subset hf),
    fun f hf b hb => h.sepb f (h2.subset hf) b (h1.subset hb), fun f hf => h.fown f (h2.subset hf), h.sepf.sublist h2⟩
theorem Sub.of {H' : List Bk} {F' : List Fact} (h1 : List.Sublist H' H) (h2 : List.Sublist F' F) : Sub cx n H F H' F' := fun _ _ h => h.weaken h1 h2
theorem Sub.dropF (k : Nat) (h : F.drop k = F0) : Sub cx n H F H F0 := Sub.of (List.Sublist.refl _) (by rw [← h]; exact List.drop_sublist _ _)
theorem Sub.tailF {f : Fact} : Sub cx n H (f :: F) H F := Sub.of (List.Sublist.refl _) (List.sublist_cons_self _ _)
end
end Go.Proofs.Ytlbnmjjbjjmifaa.Sx
