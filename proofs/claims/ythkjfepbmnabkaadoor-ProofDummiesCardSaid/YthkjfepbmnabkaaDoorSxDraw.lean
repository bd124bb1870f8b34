/- Regions that draw their order: one walk, by a plan. -/
import Derived.Test.YthkjfepbmnabkaaDoorSxCode
namespace Go.Proofs.YthkjfepbmnabkaaDoor.Sx
open Go

inductive Plan where
  | done
  | take (i : Nat) (p : Plan)
  | exec (i : Nat) (p : Plan)
  | alt (i : Nat) (p : Plan) (q : Plan)
  | brk (i : Nat) (p : Plan)
  | altb (i : Nat) (p : Plan) (q : Plan)
def heads : Plan → List Nat
  | .exec i _ | .brk i _ => [i]
  | .alt i _ q | .altb i _ q => i :: heads q
  | _ => []

/-- Those that may change what was held. -/
def lastOf : Plan → List Nat
  | .done => []
  | .take _ p | .exec _ p => lastOf p
  | .alt _ p q => lastOf p ++ lastOf q
  | .brk i p => i :: lastOf p
  | .altb i p q => i :: (lastOf p ++ lastOf q)
def planOk (ops : Array Oper) (L : List Nat) : Nat → Array Bool → Bool → Bool → Plan → Bool
  | _, listed, _, _, .done => (Region.ready .any ops listed).isEmpty
  | fuel + 1, listed, br, top, .take i p => (top && !br) && ((ops[i]?).isSome && (Region.free .any ops listed i && ((Region.ready .any ops listed).contains i && (lastB .any ops L i && planOk ops L fuel (listed.setIfInBounds i true) false true p))))
  | fuel + 1, listed, br, top, .exec i p => !br && ((!top || (Region.ready .any ops listed == [i])) && planOk ops L fuel (listed.setIfInBounds i true) false true p)
  | fuel + 1, listed, br, top, .alt i p q => !br && ((!top || (Region.ready .any ops listed == i :: heads q)) && (planOk ops L fuel (listed.setIfInBounds i true) false true p && planOk ops L (fuel + 1) listed false false q))
  | fuel + 1, listed, _, top, .brk i p => memb L i && ((!top || (Region.ready .any ops listed == [i])) && planOk ops L fuel (listed.setIfInBounds i true) true true p)
  | fuel + 1, listed, br, top, .altb i p q => memb L i && ((!top || (Region.ready .any ops listed == i :: heads q)) && (planOk ops L fuel (listed.setIfInBounds i true) true true p && planOk ops L (fuel + 1) listed br false q))
  | 0, _, _, _, _ => false
def drawOk (ops : Array Oper) (p : Plan) : Bool := (Region.noSelect ops && noDefer ops) && planOk ops (lastOf p) ops.size (Array.replicate ops.size false) false true p

/-- What is left of the state still holds. -/
def Sub (cx : Cx) (n : Nat) (H : List Bk) (F : List Fact) (H0 : List Bk) (F0 : List Fact) : Prop := ∀ β w, Sat cx β n H F w → Sat cx β n H0 F0 w

/-- An operation that is taken ahead: it reads what is held. -/
def tkwp (cx : Cx) (all : List Oper) (H0 : List Bk) (F0 : List Fact) (n : Nat) (env : Env) (H : List Bk) (F : List Fact) (o : Oper) (K : KT) : Prop :=
  match slOk o.op with
  | true => match o.guard with
    | none => rowp cx n env H0 F0 o.op fun s => put cx.N n env H F o.dst s K
    | some (j, want) => match dstOf all j with
      | some t => match get env t with
        | some (.c (.v (.bool b))) => (match b with
            | true => (match want with | true => rowp cx n ((t, bl true) :: env) H0 F0 o.op (fun s => put cx.N n ((t, bl true) :: env) H F o.dst s K) | false => put cx.N n ((t, bl true) :: env) H F o.dst (.c (.v undef)) K)
            | false => (match want with | true => put cx.N n ((t, bl false) :: env) H F o.dst (.c (.v undef)) K | false => rowp cx n ((t, bl false) :: env) H0 F0 o.op (fun s => put cx.N n ((t, bl false) :: env) H F o.dst s K)))
        | some (.c (.v (.tuple _))) => put cx.N n env H F o.dst (.c (.v undef)) K
        | _ => False
      | none => False
  | false => False

def dwp (cx : Cx) (all : List Oper) (H0 : List Bk) (F0 : List Fact) : Plan → KT → KT
  | .done, K => K
  | .take i p, K => fun n env H F => match nth all i with
    | some o => tkwp cx all H0 F0 n env H F o (dwp cx all H0 F0 p K)
    | none => False
  | .exec i p, K => fun n env H F => match nth all i with
    | some o => gwp cx all n env H F o fun n env H F => Sub cx n H F H0 F0 ∧ dwp cx all H0 F0 p K n env H F
    | none => False
  | .alt i p q, K => fun n env H F => match nth all i with
    | some o => gwp cx all n env H F o (fun n env H F => Sub cx n H F H0 F0 ∧ dwp cx all H0 F0 p K n env H F) ∧ dwp cx all H0 F0 q K n env H F
    | none => False
  | .brk i p, K => fun n env H F => match nth all i with
    | some o => gwp cx all n env H F o (dwp cx all H0 F0 p K)
    | none => False
  | .altb i p q, K => fun n env H F => match nth all i with
    | some o => gwp cx all n env H F o (dwp cx all H0 F0 p K) ∧ dwp cx all H0 F0 q K n env H F
    | none => False

section
variable {cx : Cx} {β β0 : Va} {n n0 : Nat} {env : Env} {H H0 : List Bk} {F F0 : List Fact} {a : Act} {w w' : World}

theorem Sat.recast (h : Sat cx β n H F w) {β' : Va} {m : Nat} (hb : Agr n β β') (hle : cx.bs.length ≤ m) (hm : ∀ b ∈ H, b.id < m ∧ ∀ x ∈ b.cells, x.lt m) : Sat cx β' m H F w := by
  have hid : ∀ b ∈ H, β' b.id = β b.id := fun b hm => hb.at_ b.id (h.ltb b hm).1
  refine ⟨h.chg, ⟨hle, fun i hi => by rw [hb.at_ i (Nat.lt_of_lt_of_le hi h.fix.1)]; exact h.fix.2 i hi⟩, fun b hm => ?_, fun b hm => ?_, ?_, hm, h.fact, h.flt, fun f hf b hm => ?_, h.fown, h.sepf,
    by rw [hb.pins]; exact h.pin, by rw [hb.pins, hb.marks]; exact h.mrk, by rw [hb.pins, hb.marks]; exact h.rnd⟩
  · rw [hid b hm, SL.map_congr hb (h.ltb b hm).2]; exact h.blk b hm
  · rw [hid b hm]; exact h.mine b hm
  · exact List.Pairwise.imp_of_mem (fun {b c} hb hc hne => by rw [hid b hb, hid c hc]; exact hne) h.inj
  · rw [hid b hm]; exact h.sepb f hf b hm
theorem Sat.up (h : Sat cx β n H F w) {β' : Va} {m : Nat} (hb : Agr n β β') (hm : n ≤ m) : Sat cx β' m H F w :=
  h.recast hb (Nat.le_trans h.fix.1 hm) fun b hb => ⟨Nat.lt_of_lt_of_le (h.ltb b hb).1 hm, fun x hx => SL.lt_mono hm ((h.ltb b hb).2 x hx)⟩
theorem Sat.down (h : Sat cx β n H F w) {β' : Va} {m : Nat} (hle : cx.bs.length ≤ m) (hb : Agr m β' β) (hm : ∀ b ∈ H, b.id < m ∧ ∀ x ∈ b.cells, x.lt m) : Sat cx β' m H F w := by
  have h1 : Sat cx β m H F w := h.recast (Agr.refl _ _) hle hm
  exact h1.recast hb.symm hle hm

theorem tkwp_sound (g : Good cx) (h : Inv cx β n env H F a w) (h0 : Sat cx β n H0 F0 w) {ops : Array Oper} {o : Oper} {K : KT} (hp : tkwp cx ops.toList H0 F0 n env H F o K) :
    ∃ v, YieldsIf cx.P ops (fun u => Sat cx β n H0 F0 u) o v a ∧ AfterE cx β n K (a.put o.dst v) w := by
  have row : ∀ (env' : Env), Inv cx β n env' H F a w → ∀ (hsl : slOk o.op = true), rowp cx n env' H0 F0 o.op (fun s => put cx.N n env' H F o.dst s K) →
      ∃ v, (∀ u, Sat cx β n H0 F0 u → (execOp a.eval o).run cx.P u = .ok (.value v) u) ∧ AfterE cx β n K (a.put o.dst v) w := by
    intro env' h' hsl hr
    have h'' : Inv cx β n env' H0 F0 a w := ⟨h'.ag, h'.size, h'.df, h'.lte, h0⟩
    obtain ⟨r, h1, h2, h3⟩ := rowp_sound g h'' o (slOk_spec hsl) hr
    exact ⟨r.val β, h3, put_sound h' h1 h2⟩
  unfold tkwp at hp
  split at hp
  · rename_i hsl
    split at hp
    · rename_i hg
      obtain ⟨v, h1, h2⟩ := row env h hsl hp
      exact ⟨v, .inl ⟨by simp [Region.wanted, hg], h1⟩, h2⟩
    · rename_i j want hg
      split at hp
      · rename_i t hdt
        have hop : (ops[j]?).bind (·.dst) = some t := by
          unfold dstOf at hdt
          rw [nth_eq] at hdt
          split at hdt
          · rename_i o' ho'
            have : ops[j]? = some o' := by simpa using ho'
            rw [this]; exact hdt
          · cases hdt
        split at hp
        · rename_i b hb
          have hy : yielded ops a.tmps j = some b := by
            have := h.ag t _ hb
            simp only [SV.val, SL.val] at this
            simp [yielded, hop, this]
          obtain ⟨hT, hF⟩ := (show BIf _ _ _ from hp).out
          have hw : Region.wanted o (yielded ops a.tmps) = (b == want) := by simp [Region.wanted, hg, hy]
          cases b <;> cases want
          · obtain ⟨v, h1, h2⟩ := row _ (h.shadow hb) hsl (hF rfl)
            exact ⟨v, .inl ⟨by rw [hw]; rfl, h1⟩, h2⟩
          · exact ⟨undef, .inr ⟨by rw [hw]; rfl, rfl⟩, put_sound (s := .c (.v undef)) (h.shadow hb) trivial (hF rfl)⟩
          · exact ⟨undef, .inr ⟨by rw [hw]; rfl, rfl⟩, put_sound (s := .c (.v undef)) (h.shadow hb) trivial (hT rfl)⟩
          · obtain ⟨v, h1, h2⟩ := row _ (h.shadow hb) hsl (hT rfl)
            exact ⟨v, .inl ⟨by rw [hw]; rfl, h1⟩, h2⟩
        · rename_i vs hb
          have hy : yielded ops a.tmps j = none := by
            have := h.ag t _ hb
            simp only [SV.val, SL.val] at this
            simp [yielded, hop, this]
          exact ⟨undef, .inr ⟨by simp [Region.wanted, hg, hy], rfl⟩, put_sound (s := .c (.v undef)) h trivial hp⟩
        · exact hp.elim
      · exact hp.elim
  · exact hp.elim

theorem YieldsIf.held {P : Program} {ops : Array Oper} {S T : World → Prop} (hST : ∀ w, T w → S w) {o : Oper} {v : Value} {a : Act} (h : YieldsIf P ops S o v a) : YieldsIf P ops T o v a :=
  h.imp (fun ⟨h1, h2⟩ => ⟨h1, fun w hw => h2 w (hST w hw)⟩) id

theorem dwp_sound (g : Good cx) {L : List Nat} {ops : Array Oper} {K : KT} {Q : Exit → KT} (hK : K = Q .normal) (hle : cx.bs.length ≤ n0) (hsel : Region.noSelect ops = true) (hnd : noDefer ops = true) (hm : ∀ b ∈ H0, b.id < n0 ∧ ∀ x ∈ b.cells, x.lt n0) :
    ∀ (p : Plan) (fuel : Nat) (listed : Array Bool) (br top : Bool) (β : Va) (n : Nat) (env : Env) (H : List Bk) (F : List Fact) (a : Act) (w : World), planOk ops L fuel listed br top p = true → Agr n0 β0 β → n0 ≤ n →
      Inv cx β n env H F a w → (br = false → Sat cx β0 n0 H0 F0 w) → dwp cx ops.toList H0 F0 p K n env H F →
      (top = true → anyH cx.fence cx.P .any ops (Post cx Q) (fun u => Sat cx β0 n0 H0 F0 u) L fuel listed a w) ∧
      (∀ m, fuel = m + 1 → ∀ k ∈ heads p, wpOpIn cx.fence 0 cx.P ops (Post cx Q) k (fun a' w' => (Sat cx β0 n0 H0 F0 w' ∨ k ∈ L) ∧ anyH cx.fence cx.P .any ops (Post cx Q) (fun u => Sat cx β0 n0 H0 F0 u) L m (listed.setIfInBounds k true) a' w') a w) := by
  have exec1 : ∀ (i : Nat) (p : Plan) (fuel : Nat) (listed : Array Bool), (∀ (β : Va) (n : Nat) (env : Env) (H : List Bk) (F : List Fact) (a : Act) (w : World), Agr n0 β0 β → n0 ≤ n →
      Inv cx β n env H F a w → Sat cx β0 n0 H0 F0 w → dwp cx ops.toList H0 F0 p K n env H F → anyH cx.fence cx.P .any ops (Post cx Q) (fun u => Sat cx β0 n0 H0 F0 u) L fuel (listed.setIfInBounds i true) a w) →
      ∀ (β : Va) (n : Nat) (env : Env) (H : List Bk) (F : List Fact) (a : Act) (w : World) (o : Oper), Agr n0 β0 β → n0 ≤ n → Inv cx β n env H F a w → ops[i]? = some o →
      gwp cx ops.toList n env H F o (fun n env H F => Sub cx n H F H0 F0 ∧ dwp cx ops.toList H0 F0 p K n env H F) →
      wpOpIn cx.fence 0 cx.P ops (Post cx Q) i (fun a' w' => (Sat cx β0 n0 H0 F0 w' ∨ i ∈ L) ∧ anyH cx.fence cx.P .any ops (Post cx Q) (fun u => Sat cx β0 n0 H0 F0 u) L fuel (listed.setIfInBounds i true) a' w') a w := by
    intro i p fuel listed ih β n env H F a w o hb hn h hi hg
    have hs := gwp_sound (Q := Post cx Q) (K' := fun a' w' => (Sat cx β0 n0 H0 F0 w' ∨ i ∈ L) ∧ anyH cx.fence cx.P .any ops (Post cx Q) (fun u => Sat cx β0 n0 H0 F0 u) L fuel (listed.setIfInBounds i true) a' w') g h hg (by
      rintro a' w' ⟨β', n', env', H', F', h1, h2, h3, h4, h5⟩
      have hb' : Agr n0 β0 β' := hb.trans h1 hn
      have hsat : Sat cx β0 n0 H0 F0 w' := (h4 β' w' h3.sat).down hle hb' hm
      exact ⟨.inl hsat, ih β' n' env' H' F' a' w' hb' (Nat.le_trans hn h2) h3 hsat h5⟩)
    unfold wpOpIn
    simp only [hi]
    split at hs
    · rename_i hw; rw [if_pos hw]; exact hs
    · rename_i hw; rw [if_neg hw]; exact ⟨fun f _ => cx.fence_fn f, hs⟩
  have exec2 : ∀ (i : Nat) (p : Plan) (fuel : Nat) (listed : Array Bool), i ∈ L → (∀ (β : Va) (n : Nat) (env : Env) (H : List Bk) (F : List Fact) (a : Act) (w : World), Agr n0 β0 β → n0 ≤ n →
      Inv cx β n env H F a w → dwp cx ops.toList H0 F0 p K n env H F → anyH cx.fence cx.P .any ops (Post cx Q) (fun u => Sat cx β0 n0 H0 F0 u) L fuel (listed.setIfInBounds i true) a w) →
      ∀ (β : Va) (n : Nat) (env : Env) (H : List Bk) (F : List Fact) (a : Act) (w : World) (o : Oper), Agr n0 β0 β → n0 ≤ n → Inv cx β n env H F a w → ops[i]? = some o →
      gwp cx ops.toList n env H F o (dwp cx ops.toList H0 F0 p K) →
      wpOpIn cx.fence 0 cx.P ops (Post cx Q) i (fun a' w' => (Sat cx β0 n0 H0 F0 w' ∨ i ∈ L) ∧ anyH cx.fence cx.P .any ops (Post cx Q) (fun u => Sat cx β0 n0 H0 F0 u) L fuel (listed.setIfInBounds i true) a' w') a w := by
    intro i p fuel listed hiL ih β n env H F a w o hb hn h hi hg
    have hs := gwp_sound (Q := Post cx Q) (K' := fun a' w' => (Sat cx β0 n0 H0 F0 w' ∨ i ∈ L) ∧ anyH cx.fence cx.P .any ops (Post cx Q) (fun u => Sat cx β0 n0 H0 F0 u) L fuel (listed.setIfInBounds i true) a' w') g h hg (by
      rintro a' w' ⟨β', n', env', H', F', h1, h2, h3, h5⟩
      exact ⟨.inr hiL, ih β' n' env' H' F' a' w' (hb.trans h1 hn) (Nat.le_trans hn h2) h3 h5⟩)
    unfold wpOpIn
    simp only [hi]
    split at hs
    · rename_i hw; rw [if_pos hw]; exact hs
    · rename_i hw; rw [if_neg hw]; exact ⟨fun f _ => cx.fence_fn f, hs⟩
  have getop : ∀ i o, nth ops.toList i = some o → ops[i]? = some o := fun i o h => by rw [nth_eq] at h; simpa using h
  intro p
  induction p with
  | done =>
    intro fuel listed br top β n env H F a w hok hb hn h h0 hp
    have hr : Region.ready .any ops listed = [] := by cases fuel <;> simpa [planOk] using hok
    refine ⟨fun _ => anyH_done hr (by
      subst hK
      exact ⟨β, n, env, H, F, h, hp⟩) fuel, fun m _ k hk => by cases hk⟩
  | take i p ih =>
    intro fuel listed br top β n env H F a w hok hb hn h h0 hp
    cases fuel with
    | zero => simp [planOk] at hok
    | succ fuel =>
      simp only [planOk, Bool.and_eq_true, Bool.not_eq_true'] at hok
      obtain ⟨⟨_, hbr⟩, hi, hf, hr, hlb, hok⟩ := hok
      have h0 := h0 hbr
      simp only [dwp] at hp
      split at hp
      · rename_i o ho
        have hoi := getop i o ho
        have hST : ∀ u, Sat cx β0 n0 H0 F0 u → Sat cx β n H0 F0 u := fun u hu => hu.up hb hn
        obtain ⟨v, h1, β', n', env', H', F', h2, h3, h4, h5⟩ := tkwp_sound g h (hST w h0) hp
        refine ⟨fun _ => anyH_take cx.fence_fn hnd hoi hsel hf hr hlb (fun _ _ _ q => q.elim) (YieldsIf.held hST h1) h0 ?_, fun m _ k hk => by cases hk⟩
        exact (ih fuel _ false true β' n' env' H' F' _ w hok (hb.trans h2 hn) (Nat.le_trans hn h3) h4 (fun _ => h0) h5).1 rfl
      · exact hp.elim
  | exec i p ih =>
    intro fuel listed br top β n env H F a w hok hb hn h h0 hp
    cases fuel with
    | zero => simp [planOk] at hok
    | succ fuel =>
      simp only [planOk, Bool.and_eq_true, Bool.or_eq_true, Bool.not_eq_true', beq_iff_eq] at hok
      obtain ⟨_, hr, hok⟩ := hok
      simp only [dwp] at hp
      split at hp
      · rename_i o ho
        have key := exec1 i p fuel listed (fun β n env H F a w q1 q2 q3 q4 q5 => (ih fuel _ false true β n env H F a w hok q1 q2 q3 (fun _ => q4) q5).1 rfl) β n env H F a w o hb hn h (getop _ o ho) hp
        refine ⟨fun ht => ?_, fun m hm k hk => ?_⟩
        · subst ht
          refine anyH_all (rs := [i]) (by simpa using hr) (by simp) (fun j hj => ?_)
          obtain rfl := List.mem_singleton.1 hj
          exact key
        · obtain rfl := List.mem_singleton.1 hk
          obtain rfl : fuel = m := by omega
          exact key
      · exact hp.elim
  | brk i p ih =>
    intro fuel listed br top β n env H F a w hok hb hn h h0 hp
    cases fuel with
    | zero => simp [planOk] at hok
    | succ fuel =>
      simp only [planOk, Bool.and_eq_true, Bool.or_eq_true, Bool.not_eq_true', beq_iff_eq] at hok
      obtain ⟨hiL, hr, hok⟩ := hok
      simp only [dwp] at hp
      split at hp
      · rename_i o ho
        have key := exec2 i p fuel listed (memb_mem hiL) (fun β n env H F a w q1 q2 q3 q5 => (ih fuel _ true true β n env H F a w hok q1 q2 q3 (fun q => by cases q) q5).1 rfl) β n env H F a w o hb hn h (getop _ o ho) hp
        refine ⟨fun ht => ?_, fun m hm k hk => ?_⟩
        · subst ht
          refine anyH_all (rs := [i]) (by simpa using hr) (by simp) (fun j hj => ?_)
          obtain rfl := List.mem_singleton.1 hj
          exact key
        · obtain rfl := List.mem_singleton.1 hk
          obtain rfl : fuel = m := by omega
          exact key
      · exact hp.elim
  | alt i p q ihp ihq =>
    intro fuel listed br top β n env H F a w hok hb hn h h0 hp
    cases fuel with
    | zero => simp [planOk] at hok
    | succ fuel =>
      simp only [planOk, Bool.and_eq_true, Bool.or_eq_true, Bool.not_eq_true', beq_iff_eq] at hok
      obtain ⟨hbr, hr, hok1, hok2⟩ := hok
      simp only [dwp] at hp
      split at hp
      · rename_i o ho
        obtain ⟨hp1, hp2⟩ := hp
        have key := exec1 i p fuel listed (fun β n env H F a w q1 q2 q3 q4 q5 => (ihp fuel _ false true β n env H F a w hok1 q1 q2 q3 (fun _ => q4) q5).1 rfl) β n env H F a w o hb hn h (getop _ o ho) hp1
        have key2 := (ihq (fuel + 1) listed false false β n env H F a w hok2 hb hn h (fun _ => h0 hbr) hp2).2 fuel rfl
        have both : ∀ k ∈ i :: heads q, wpOpIn cx.fence 0 cx.P ops (Post cx Q) k (fun a' w' => (Sat cx β0 n0 H0 F0 w' ∨ k ∈ L) ∧ anyH cx.fence cx.P .any ops (Post cx Q) (fun u => Sat cx β0 n0 H0 F0 u) L fuel (listed.setIfInBounds k true) a' w') a w := by
          intro k hk
          rcases List.mem_cons.1 hk with rfl | hk
          · exact key
          · exact key2 k hk
        refine ⟨fun ht => ?_, fun m hm k hk => ?_⟩
        · subst ht
          exact anyH_all (rs := i :: heads q) (by simpa using hr) (by simp) both
        · obtain rfl : fuel = m := by omega
          exact both k hk
      · exact hp.elim
  | altb i p q ihp ihq =>
    intro fuel listed br top β n env H F a w hok hb hn h h0 hp
    cases fuel with
    | zero => simp [planOk] at hok
    | succ fuel =>
      simp only [planOk, Bool.and_eq_true, Bool.or_eq_true, Bool.not_eq_true', beq_iff_eq] at hok
      obtain ⟨hiL, hr, hok1, hok2⟩ := hok
      simp only [dwp] at hp
      split at hp
      · rename_i o ho
        obtain ⟨hp1, hp2⟩ := hp
        have key := exec2 i p fuel listed (memb_mem hiL) (fun β n env H F a w q1 q2 q3 q5 => (ihp fuel _ true true β n env H F a w hok1 q1 q2 q3 (fun q => by cases q) q5).1 rfl) β n env H F a w o hb hn h (getop _ o ho) hp1
        have key2 := (ihq (fuel + 1) listed br false β n env H F a w hok2 hb hn h h0 hp2).2 fuel rfl
        have both : ∀ k ∈ i :: heads q, wpOpIn cx.fence 0 cx.P ops (Post cx Q) k (fun a' w' => (Sat cx β0 n0 H0 F0 w' ∨ k ∈ L) ∧ anyH cx.fence cx.P .any ops (Post cx Q) (fun u => Sat cx β0 n0 H0 F0 u) L fuel (listed.setIfInBounds k true) a' w') a w := by
          intro k hk
          rcases List.mem_cons.1 hk with rfl | hk
          · exact key
          · exact key2 k hk
        refine ⟨fun ht => ?_, fun m hm k hk => ?_⟩
        · subst ht
          exact anyH_all (rs := i :: heads q) (by simpa using hr) (by simp) both
        · obtain rfl : fuel = m := by omega
          exact both k hk
      · exact hp.elim

theorem Inv.drew (h : Inv cx β n env H F a w) : Inv cx β n env H F a w.drew := ⟨h.ag, h.size, h.df, h.lte, h.sat.drew⟩

/-- A region that draws its order, by a plan: what is held of the state is H0, F0. -/
theorem draw_rule (g : Good cx) {id : Nat} {ops : Array Oper} {Q : Exit → KT} (p : Plan) (hok : drawOk ops p = true) (H0 : List Bk) (F0 : List Fact) (hsub : Sub cx n H F H0 F0)
    (h : dwp cx ops.toList H0 F0 p (Q .normal) n env H F) : Tri cx (.region id ops true) Q n env H F := by
  refine ⟨fun β a w hi => ?_⟩
  simp only [drawOk, Bool.and_eq_true] at hok
  have hs := (hsub β w.drew hi.drew.sat)
  exact region_anyH (S := fun u => Sat cx β n H0 F0 u) g.mixed ((dwp_sound g rfl hs.fix.1 hok.1.1 hok.1.2 hs.ltb p ops.size _ false true β n env H F a w.drew hok.2 (Agr.refl _ _) (Nat.le_refl _) hi.drew (fun _ => hs) h).1 rfl)

/-! ### what is held -/
theorem Sub.refl : Sub cx n H F H F := fun _ _ h => h
theorem Sat.weaken (h : Sat cx β n H F w) {H' : List Bk} {F' : List Fact} (h1 : List.Sublist H' H) (h2 : List.Sublist F' F) : Sat cx β n H' F' w :=
  ⟨h.chg, h.fix, fun b hb => h.blk b (h1.subset hb), fun b hb => h.mine b (h1.subset hb), h.inj.sublist h1, fun b hb => h.ltb b (h1.subset hb), fun f hf => h.fact f (h2.subset hf), fun f hf => h.flt f (h2.subset hf),
    fun f hf b hb => h.sepb f (h2.subset hf) b (h1.subset hb), fun f hf => h.fown f (h2.subset hf), h.sepf.sublist h2, fun p hp => ⟨(h.pin p hp).1, (h.pin p hp).2.1, fun f hf => (h.pin p hp).2.2 f (h2.subset hf)⟩, h.mrk, h.rnd⟩
theorem Sub.of {H' : List Bk} {F' : List Fact} (h1 : List.Sublist H' H) (h2 : List.Sublist F' F) : Sub cx n H F H' F' := fun _ _ h => h.weaken h1 h2
theorem Sub.dropF (k : Nat) (h : F.drop k = F0) : Sub cx n H F H F0 := Sub.of (List.Sublist.refl _) (by rw [← h]; exact List.drop_sublist _ _)
theorem Sub.tailF {f : Fact} : Sub cx n H (f :: F) H F := Sub.of (List.Sublist.refl _) (List.sublist_cons_self _ _)
end
end Go.Proofs.YthkjfepbmnabkaaDoor.Sx
