/- Texts joined: SxDraw, SxUse, SxCon, SxRange, SxIt, SxTri, SxTriL, SxGo, SxOpen, SxPlus, SxArr, SxEff. -/
import Derived.Test.YteenjgfbbkdlhaaGreatDoorMOrderBare1
import Derived.ChangeSlices
import Derived.WideShapes
set_option linter.unusedVariables false
set_option linter.unusedSimpArgs false
namespace Go.Proofs.YteenjgfbbkdlhaaGreatDoor.Sx
open Go
inductive Plan where
  | done
  | take (i : Nat) (p : Plan)
  | exec (i : Nat) (p : Plan)
  | alt (i : Nat) (p : Plan) (q : Plan)
  | brk (i : Nat) (p : Plan)
  | altb (i : Nat) (p : Plan) (q : Plan)
def heads : Plan → List Nat
  | .exec i _ | .brk i _ => [i]
  | .alt i _ q | .altb i _ q => i :: heads q
  | _ => []
def lastOf : Plan → List Nat
  | .done => []
  | .take _ p | .exec _ p => lastOf p
  | .alt _ p q => lastOf p ++ lastOf q
  | .brk i p => i :: lastOf p
  | .altb i p q => i :: (lastOf p ++ lastOf q)
def planOk (ops : Array Oper) (L : List Nat) : Nat → Array Bool → Bool → Bool → Plan → Bool
  | _, listed, _, _, .done => (Region.ready .any ops listed).isEmpty
  | fuel + 1, listed, br, top, .take i p => (top && !br) && ((ops[i]?).isSome && (Region.free .any ops listed i && ((Region.ready .any ops listed).contains i && (lastB .any ops L i && planOk ops L fuel (listed.setIfInBounds i true) false true p))))
  | fuel + 1, listed, br, top, .exec i p => !br && ((!top || (Region.ready .any ops listed == [i])) && planOk ops L fuel (listed.setIfInBounds i true) false true p)
  | fuel + 1, listed, br, top, .alt i p q => !br && ((!top || (Region.ready .any ops listed == i :: heads q)) && (planOk ops L fuel (listed.setIfInBounds i true) false true p && planOk ops L (fuel + 1) listed false false q))
  | fuel + 1, listed, _, top, .brk i p => memb L i && ((!top || (Region.ready .any ops listed == [i])) && planOk ops L fuel (listed.setIfInBounds i true) true true p)
  | fuel + 1, listed, br, top, .altb i p q => memb L i && ((!top || (Region.ready .any ops listed == i :: heads q)) && (planOk ops L fuel (listed.setIfInBounds i true) true true p && planOk ops L (fuel + 1) listed br false q))
  | 0, _, _, _, _ => false
def drawOk (ops : Array Oper) (p : Plan) : Bool := (Region.noSelect ops && noDefer ops) && planOk ops (lastOf p) ops.size (Array.replicate ops.size false) false true p
def Sub (cx : Cx) (n : Nat) (H : List Bk) (F : List Fact) (H0 : List Bk) (F0 : List Fact) : Prop := ∀ β w, Sat cx β n H F w → Sat cx β n H0 F0 w
def tkwp (cx : Cx) (all : List Oper) (H0 : List Bk) (F0 : List Fact) (n : Nat) (env : Env) (H : List Bk) (F : List Fact) (o : Oper) (K : KT) : Prop :=
  match slOk o.op with
  | true => match o.guard with
    | none => rowp cx n env H0 F0 o.op fun s => put cx.N n env H F o.dst s K
    | some (j, want) => match dstOf all j with
      | some t => match get env t with
        | some (.c (.v (.bool b))) => (match b with
            | true => (match want with | true => rowp cx n ((t, bl true) :: env) H0 F0 o.op (fun s => put cx.N n ((t, bl true) :: env) H F o.dst s K) | false => put cx.N n ((t, bl true) :: env) H F o.dst (.c (.v undef)) K)
            | false => (match want with | true => put cx.N n ((t, bl false) :: env) H F o.dst (.c (.v undef)) K | false => rowp cx n ((t, bl false) :: env) H0 F0 o.op (fun s => put cx.N n ((t, bl false) :: env) H F o.dst s K)))
        | some (.c (.v (.tuple _))) => put cx.N n env H F o.dst (.c (.v undef)) K
        | _ => False
      | none => False
  | false => False
def dwp (cx : Cx) (all : List Oper) (H0 : List Bk) (F0 : List Fact) : Plan → KT → KT
  | .done, K => K
  | .take i p, K => fun n env H F => match nth all i with
    | some o => tkwp cx all H0 F0 n env H F o (dwp cx all H0 F0 p K)
    | none => False
  | .exec i p, K => fun n env H F => match nth all i with
    | some o => gwp cx all n env H F o fun n env H F => Sub cx n H F H0 F0 ∧ dwp cx all H0 F0 p K n env H F
    | none => False
  | .alt i p q, K => fun n env H F => match nth all i with
    | some o => gwp cx all n env H F o (fun n env H F => Sub cx n H F H0 F0 ∧ dwp cx all H0 F0 p K n env H F) ∧ dwp cx all H0 F0 q K n env H F
    | none => False
  | .brk i p, K => fun n env H F => match nth all i with
    | some o => gwp cx all n env H F o (dwp cx all H0 F0 p K)
    | none => False
  | .altb i p q, K => fun n env H F => match nth all i with
    | some o => gwp cx all n env H F o (dwp cx all H0 F0 p K) ∧ dwp cx all H0 F0 q K n env H F
    | none => False
section
variable {cx : Cx} {β β0 : Va} {n n0 : Nat} {env : Env} {H H0 : List Bk} {F F0 : List Fact} {a : Act} {w w' : World}
theorem Sat.recast (h : Sat cx β n H F w) {β' : Va} {m : Nat} (hb : Agr n β β') (hle : cx.bs.length ≤ m) (hm : ∀ b ∈ H, b.id < m ∧ ∀ x ∈ b.cells, x.lt m) : Sat cx β' m H F w := by
  have hid : ∀ b ∈ H, β' b.id = β b.id := fun b hm => hb.at_ b.id (h.ltb b hm).1
  refine ⟨h.chg, ⟨hle, fun i hi => by rw [hb.at_ i (Nat.lt_of_lt_of_le hi h.fix.1)]; exact h.fix.2 i hi⟩, fun b hm => ?_, fun b hm => ?_, ?_, hm, h.fact, h.flt, fun f hf b hm => ?_, h.fown, h.sepf,
    by rw [hb.pins]; exact h.pin, by rw [hb.pins, hb.marks]; exact h.mrk, by rw [hb.pins, hb.marks]; exact h.rnd⟩
  · rw [hid b hm, SL.map_congr hb (h.ltb b hm).2]; exact h.blk b hm
  · rw [hid b hm]; exact h.mine b hm
  · exact List.Pairwise.imp_of_mem (fun {b c} hb hc hne => by rw [hid b hb, hid c hc]; exact hne) h.inj
  · rw [hid b hm]; exact h.sepb f hf b hm
theorem Sat.up (h : Sat cx β n H F w) {β' : Va} {m : Nat} (hb : Agr n β β') (hm : n ≤ m) : Sat cx β' m H F w :=
  h.recast hb (Nat.le_trans h.fix.1 hm) fun b hb => ⟨Nat.lt_of_lt_of_le (h.ltb b hb).1 hm, fun x hx => SL.lt_mono hm ((h.ltb b hb).2 x hx)⟩
theorem Sat.down (h : Sat cx β n H F w) {β' : Va} {m : Nat} (hle : cx.bs.length ≤ m) (hb : Agr m β' β) (hm : ∀ b ∈ H, b.id < m ∧ ∀ x ∈ b.cells, x.lt m) : Sat cx β' m H F w := by
  have h1 : Sat cx β m H F w := h.recast (Agr.refl _ _) hle hm
  exact h1.recast hb.symm hle hm
theorem tkwp_sound (g : Good cx) (h : Inv cx β n env H F a w) (h0 : Sat cx β n H0 F0 w) {ops : Array Oper} {o : Oper} {K : KT} (hp : tkwp cx ops.toList H0 F0 n env H F o K) :
    ∃ v, YieldsIf cx.P ops (fun u => Sat cx β n H0 F0 u) o v a ∧ AfterE cx β n K (a.put o.dst v) w := by
  have row : ∀ (env' : Env), Inv cx β n env' H F a w → ∀ (hsl : slOk o.op = true), rowp cx n env' H0 F0 o.op (fun s => put cx.N n env' H F o.dst s K) →
      ∃ v, (∀ u, Sat cx β n H0 F0 u → (execOp a.eval o).run cx.P u = .ok (.value v) u) ∧ AfterE cx β n K (a.put o.dst v) w := by
    intro env' h' hsl hr
    have h'' : Inv cx β n env' H0 F0 a w := ⟨h'.ag, h'.size, h'.df, h'.lte, h0⟩
    obtain ⟨r, h1, h2, h3⟩ := rowp_sound g h'' o (slOk_spec hsl) hr
    exact ⟨r.val β, h3, put_sound h' h1 h2⟩
  unfold tkwp at hp
  split at hp
  · rename_i hsl
    split at hp
    · rename_i hg
      obtain ⟨v, h1, h2⟩ := row env h hsl hp
      exact ⟨v, .inl ⟨by simp [Region.wanted, hg], h1⟩, h2⟩
    · rename_i j want hg
      split at hp
      · rename_i t hdt
        have hop : (ops[j]?).bind (·.dst) = some t := by
          unfold dstOf at hdt
          rw [nth_eq] at hdt
          split at hdt
          · rename_i o' ho'
            have : ops[j]? = some o' := by simpa using ho'
            rw [this]; exact hdt
          · cases hdt
        split at hp
        · rename_i b hb
          have hy : yielded ops a.tmps j = some b := by
            have := h.ag t _ hb
            simp only [SV.val, SL.val] at this
            simp [yielded, hop, this]
          obtain ⟨hT, hF⟩ := (show BIf _ _ _ from hp).out
          have hw : Region.wanted o (yielded ops a.tmps) = (b == want) := by simp [Region.wanted, hg, hy]
          cases b <;> cases want
          · obtain ⟨v, h1, h2⟩ := row _ (h.shadow hb) hsl (hF rfl)
            exact ⟨v, .inl ⟨by rw [hw]; rfl, h1⟩, h2⟩
          · exact ⟨undef, .inr ⟨by rw [hw]; rfl, rfl⟩, put_sound (s := .c (.v undef)) (h.shadow hb) trivial (hF rfl)⟩
          · exact ⟨undef, .inr ⟨by rw [hw]; rfl, rfl⟩, put_sound (s := .c (.v undef)) (h.shadow hb) trivial (hT rfl)⟩
          · obtain ⟨v, h1, h2⟩ := row _ (h.shadow hb) hsl (hT rfl)
            exact ⟨v, .inl ⟨by rw [hw]; rfl, h1⟩, h2⟩
        · rename_i vs hb
          have hy : yielded ops a.tmps j = none := by
            have := h.ag t _ hb
            simp only [SV.val, SL.val] at this
            simp [yielded, hop, this]
          exact ⟨undef, .inr ⟨by simp [Region.wanted, hg, hy], rfl⟩, put_sound (s := .c (.v undef)) h trivial hp⟩
        · exact hp.elim
      · exact hp.elim
  · exact hp.elim
theorem YieldsIf.held {P : Program} {ops : Array Oper} {S T : World → Prop} (hST : ∀ w, T w → S w) {o : Oper} {v : Value} {a : Act} (h : YieldsIf P ops S o v a) : YieldsIf P ops T o v a :=
  h.imp (fun ⟨h1, h2⟩ => ⟨h1, fun w hw => h2 w (hST w hw)⟩) id
theorem dwp_sound (g : Good cx) {L : List Nat} {ops : Array Oper} {K : KT} {Q : Exit → KT} (hK : K = Q .normal) (hle : cx.bs.length ≤ n0) (hsel : Region.noSelect ops = true) (hnd : noDefer ops = true) (hm : ∀ b ∈ H0, b.id < n0 ∧ ∀ x ∈ b.cells, x.lt n0) :
    ∀ (p : Plan) (fuel : Nat) (listed : Array Bool) (br top : Bool) (β : Va) (n : Nat) (env : Env) (H : List Bk) (F : List Fact) (a : Act) (w : World), planOk ops L fuel listed br top p = true → Agr n0 β0 β → n0 ≤ n →
      Inv cx β n env H F a w → (br = false → Sat cx β0 n0 H0 F0 w) → dwp cx ops.toList H0 F0 p K n env H F →
      (top = true → anyH cx.fence cx.P .any ops (Post cx Q) (fun u => Sat cx β0 n0 H0 F0 u) L fuel listed a w) ∧
      (∀ m, fuel = m + 1 → ∀ k ∈ heads p, wpOpIn cx.fence 0 cx.P ops (Post cx Q) k (fun a' w' => (Sat cx β0 n0 H0 F0 w' ∨ k ∈ L) ∧ anyH cx.fence cx.P .any ops (Post cx Q) (fun u => Sat cx β0 n0 H0 F0 u) L m (listed.setIfInBounds k true) a' w') a w) := by
  have exec1 : ∀ (i : Nat) (p : Plan) (fuel : Nat) (listed : Array Bool), (∀ (β : Va) (n : Nat) (env : Env) (H : List Bk) (F : List Fact) (a : Act) (w : World), Agr n0 β0 β → n0 ≤ n →
      Inv cx β n env H F a w → Sat cx β0 n0 H0 F0 w → dwp cx ops.toList H0 F0 p K n env H F → anyH cx.fence cx.P .any ops (Post cx Q) (fun u => Sat cx β0 n0 H0 F0 u) L fuel (listed.setIfInBounds i true) a w) →
      ∀ (β : Va) (n : Nat) (env : Env) (H : List Bk) (F : List Fact) (a : Act) (w : World) (o : Oper), Agr n0 β0 β → n0 ≤ n → Inv cx β n env H F a w → ops[i]? = some o →
      gwp cx ops.toList n env H F o (fun n env H F => Sub cx n H F H0 F0 ∧ dwp cx ops.toList H0 F0 p K n env H F) →
      wpOpIn cx.fence 0 cx.P ops (Post cx Q) i (fun a' w' => (Sat cx β0 n0 H0 F0 w' ∨ i ∈ L) ∧ anyH cx.fence cx.P .any ops (Post cx Q) (fun u => Sat cx β0 n0 H0 F0 u) L fuel (listed.setIfInBounds i true) a' w') a w := by
    intro i p fuel listed ih β n env H F a w o hb hn h hi hg
    have hs := gwp_sound (Q := Post cx Q) (K' := fun a' w' => (Sat cx β0 n0 H0 F0 w' ∨ i ∈ L) ∧ anyH cx.fence cx.P .any ops (Post cx Q) (fun u => Sat cx β0 n0 H0 F0 u) L fuel (listed.setIfInBounds i true) a' w') g h hg (by
      rintro a' w' ⟨β', n', env', H', F', h1, h2, h3, h4, h5⟩
      have hb' : Agr n0 β0 β' := hb.trans h1 hn
      have hsat : Sat cx β0 n0 H0 F0 w' := (h4 β' w' h3.sat).down hle hb' hm
      exact ⟨.inl hsat, ih β' n' env' H' F' a' w' hb' (Nat.le_trans hn h2) h3 hsat h5⟩)
    unfold wpOpIn
    simp only [hi]
    split at hs
    · rename_i hw; rw [if_pos hw]; exact hs
    · rename_i hw; rw [if_neg hw]; exact ⟨fun f _ => cx.fence_fn f, hs⟩
  have exec2 : ∀ (i : Nat) (p : Plan) (fuel : Nat) (listed : Array Bool), i ∈ L → (∀ (β : Va) (n : Nat) (env : Env) (H : List Bk) (F : List Fact) (a : Act) (w : World), Agr n0 β0 β → n0 ≤ n →
      Inv cx β n env H F a w → dwp cx ops.toList H0 F0 p K n env H F → anyH cx.fence cx.P .any ops (Post cx Q) (fun u => Sat cx β0 n0 H0 F0 u) L fuel (listed.setIfInBounds i true) a w) →
      ∀ (β : Va) (n : Nat) (env : Env) (H : List Bk) (F : List Fact) (a : Act) (w : World) (o : Oper), Agr n0 β0 β → n0 ≤ n → Inv cx β n env H F a w → ops[i]? = some o →
      gwp cx ops.toList n env H F o (dwp cx ops.toList H0 F0 p K) →
      wpOpIn cx.fence 0 cx.P ops (Post cx Q) i (fun a' w' => (Sat cx β0 n0 H0 F0 w' ∨ i ∈ L) ∧ anyH cx.fence cx.P .any ops (Post cx Q) (fun u => Sat cx β0 n0 H0 F0 u) L fuel (listed.setIfInBounds i true) a' w') a w := by
    intro i p fuel listed hiL ih β n env H F a w o hb hn h hi hg
    have hs := gwp_sound (Q := Post cx Q) (K' := fun a' w' => (Sat cx β0 n0 H0 F0 w' ∨ i ∈ L) ∧ anyH cx.fence cx.P .any ops (Post cx Q) (fun u => Sat cx β0 n0 H0 F0 u) L fuel (listed.setIfInBounds i true) a' w') g h hg (by
      rintro a' w' ⟨β', n', env', H', F', h1, h2, h3, h5⟩
      exact ⟨.inr hiL, ih β' n' env' H' F' a' w' (hb.trans h1 hn) (Nat.le_trans hn h2) h3 h5⟩)
    unfold wpOpIn
    simp only [hi]
    split at hs
    · rename_i hw; rw [if_pos hw]; exact hs
    · rename_i hw; rw [if_neg hw]; exact ⟨fun f _ => cx.fence_fn f, hs⟩
  have getop : ∀ i o, nth ops.toList i = some o → ops[i]? = some o := fun i o h => by rw [nth_eq] at h; simpa using h
  intro p
  induction p with
  | done =>
    intro fuel listed br top β n env H F a w hok hb hn h h0 hp
    have hr : Region.ready .any ops listed = [] := by cases fuel <;> simpa [planOk] using hok
    refine ⟨fun _ => anyH_done hr (by
      subst hK
      exact ⟨β, n, env, H, F, h, hp⟩) fuel, fun m _ k hk => by cases hk⟩
  | take i p ih =>
    intro fuel listed br top β n env H F a w hok hb hn h h0 hp
    cases fuel with
    | zero => simp [planOk] at hok
    | succ fuel =>
      simp only [planOk, Bool.and_eq_true, Bool.not_eq_true'] at hok
      obtain ⟨⟨_, hbr⟩, hi, hf, hr, hlb, hok⟩ := hok
      have h0 := h0 hbr
      simp only [dwp] at hp
      split at hp
      · rename_i o ho
        have hoi := getop i o ho
        have hST : ∀ u, Sat cx β0 n0 H0 F0 u → Sat cx β n H0 F0 u := fun u hu => hu.up hb hn
        obtain ⟨v, h1, β', n', env', H', F', h2, h3, h4, h5⟩ := tkwp_sound g h (hST w h0) hp
        refine ⟨fun _ => anyH_take cx.fence_fn hnd hoi hsel hf hr hlb (fun _ _ _ q => q.elim) (YieldsIf.held hST h1) h0 ?_, fun m _ k hk => by cases hk⟩
        exact (ih fuel _ false true β' n' env' H' F' _ w hok (hb.trans h2 hn) (Nat.le_trans hn h3) h4 (fun _ => h0) h5).1 rfl
      · exact hp.elim
  | exec i p ih =>
    intro fuel listed br top β n env H F a w hok hb hn h h0 hp
    cases fuel with
    | zero => simp [planOk] at hok
    | succ fuel =>
      simp only [planOk, Bool.and_eq_true, Bool.or_eq_true, Bool.not_eq_true', beq_iff_eq] at hok
      obtain ⟨_, hr, hok⟩ := hok
      simp only [dwp] at hp
      split at hp
      · rename_i o ho
        have key := exec1 i p fuel listed (fun β n env H F a w q1 q2 q3 q4 q5 => (ih fuel _ false true β n env H F a w hok q1 q2 q3 (fun _ => q4) q5).1 rfl) β n env H F a w o hb hn h (getop _ o ho) hp
        refine ⟨fun ht => ?_, fun m hm k hk => ?_⟩
        · subst ht
          refine anyH_all (rs := [i]) (by simpa using hr) (by simp) (fun j hj => ?_)
          obtain rfl := List.mem_singleton.1 hj
          exact key
        · obtain rfl := List.mem_singleton.1 hk
          obtain rfl : fuel = m := by omega
          exact key
      · exact hp.elim
  | brk i p ih =>
    intro fuel listed br top β n env H F a w hok hb hn h h0 hp
    cases fuel with
    | zero => simp [planOk] at hok
    | succ fuel =>
      simp only [planOk, Bool.and_eq_true, Bool.or_eq_true, Bool.not_eq_true', beq_iff_eq] at hok
      obtain ⟨hiL, hr, hok⟩ := hok
      simp only [dwp] at hp
      split at hp
      · rename_i o ho
        have key := exec2 i p fuel listed (memb_mem hiL) (fun β n env H F a w q1 q2 q3 q5 => (ih fuel _ true true β n env H F a w hok q1 q2 q3 (fun q => by cases q) q5).1 rfl) β n env H F a w o hb hn h (getop _ o ho) hp
        refine ⟨fun ht => ?_, fun m hm k hk => ?_⟩
        · subst ht
          refine anyH_all (rs := [i]) (by simpa using hr) (by simp) (fun j hj => ?_)
          obtain rfl := List.mem_singleton.1 hj
          exact key
        · obtain rfl := List.mem_singleton.1 hk
          obtain rfl : fuel = m := by omega
          exact key
      · exact hp.elim
  | alt i p q ihp ihq =>
    intro fuel listed br top β n env H F a w hok hb hn h h0 hp
    cases fuel with
    | zero => simp [planOk] at hok
    | succ fuel =>
      simp only [planOk, Bool.and_eq_true, Bool.or_eq_true, Bool.not_eq_true', beq_iff_eq] at hok
      obtain ⟨hbr, hr, hok1, hok2⟩ := hok
      simp only [dwp] at hp
      split at hp
      · rename_i o ho
        obtain ⟨hp1, hp2⟩ := hp
        have key := exec1 i p fuel listed (fun β n env H F a w q1 q2 q3 q4 q5 => (ihp fuel _ false true β n env H F a w hok1 q1 q2 q3 (fun _ => q4) q5).1 rfl) β n env H F a w o hb hn h (getop _ o ho) hp1
        have key2 := (ihq (fuel + 1) listed false false β n env H F a w hok2 hb hn h (fun _ => h0 hbr) hp2).2 fuel rfl
        have both : ∀ k ∈ i :: heads q, wpOpIn cx.fence 0 cx.P ops (Post cx Q) k (fun a' w' => (Sat cx β0 n0 H0 F0 w' ∨ k ∈ L) ∧ anyH cx.fence cx.P .any ops (Post cx Q) (fun u => Sat cx β0 n0 H0 F0 u) L fuel (listed.setIfInBounds k true) a' w') a w := by
          intro k hk
          rcases List.mem_cons.1 hk with rfl | hk
          · exact key
          · exact key2 k hk
        refine ⟨fun ht => ?_, fun m hm k hk => ?_⟩
        · subst ht
          exact anyH_all (rs := i :: heads q) (by simpa using hr) (by simp) both
        · obtain rfl : fuel = m := by omega
          exact both k hk
      · exact hp.elim
  | altb i p q ihp ihq =>
    intro fuel listed br top β n env H F a w hok hb hn h h0 hp
    cases fuel with
    | zero => simp [planOk] at hok
    | succ fuel =>
      simp only [planOk, Bool.and_eq_true, Bool.or_eq_true, Bool.not_eq_true', beq_iff_eq] at hok
      obtain ⟨hiL, hr, hok1, hok2⟩ := hok
      simp only [dwp] at hp
      split at hp
      · rename_i o ho
        obtain ⟨hp1, hp2⟩ := hp
        have key := exec2 i p fuel listed (memb_mem hiL) (fun β n env H F a w q1 q2 q3 q5 => (ihp fuel _ true true β n env H F a w hok1 q1 q2 q3 (fun q => by cases q) q5).1 rfl) β n env H F a w o hb hn h (getop _ o ho) hp1
        have key2 := (ihq (fuel + 1) listed br false β n env H F a w hok2 hb hn h h0 hp2).2 fuel rfl
        have both : ∀ k ∈ i :: heads q, wpOpIn cx.fence 0 cx.P ops (Post cx Q) k (fun a' w' => (Sat cx β0 n0 H0 F0 w' ∨ k ∈ L) ∧ anyH cx.fence cx.P .any ops (Post cx Q) (fun u => Sat cx β0 n0 H0 F0 u) L fuel (listed.setIfInBounds k true) a' w') a w := by
          intro k hk
          rcases List.mem_cons.1 hk with rfl | hk
          · exact key
          · exact key2 k hk
        refine ⟨fun ht => ?_, fun m hm k hk => ?_⟩
        · subst ht
          exact anyH_all (rs := i :: heads q) (by simpa using hr) (by simp) both
        · obtain rfl : fuel = m := by omega
          exact both k hk
      · exact hp.elim
theorem Inv.drew (h : Inv cx β n env H F a w) : Inv cx β n env H F a w.drew := ⟨h.ag, h.size, h.df, h.lte, h.sat.drew⟩
theorem draw_rule (g : Good cx) {id : Nat} {ops : Array Oper} {Q : Exit → KT} (p : Plan) (hok : drawOk ops p = true) (H0 : List Bk) (F0 : List Fact) (hsub : Sub cx n H F H0 F0)
    (h : dwp cx ops.toList H0 F0 p (Q .normal) n env H F) : Tri cx (.region id ops true) Q n env H F := by
  refine ⟨fun β a w hi => ?_⟩
  simp only [drawOk, Bool.and_eq_true] at hok
  have hs := (hsub β w.drew hi.drew.sat)
  exact region_anyH (S := fun u => Sat cx β n H0 F0 u) g.mixed ((dwp_sound g rfl hs.fix.1 hok.1.1 hok.1.2 hs.ltb p ops.size _ false true β n env H F a w.drew hok.2 (Agr.refl _ _) (Nat.le_refl _) hi.drew (fun _ => hs) h).1 rfl)
theorem Sub.refl : Sub cx n H F H F := fun _ _ h => h
theorem Sat.weaken (h : Sat cx β n H F w) {H' : List Bk} {F' : List Fact} (h1 : List.Sublist H' H) (h2 : List.Sublist F' F) : Sat cx β n H' F' w :=
  ⟨h.chg, h.fix, fun b hb => h.blk b (h1.subset hb), fun b hb => h.mine b (h1.subset hb), h.inj.sublist h1, fun b hb => h.ltb b (h1.subset hb), fun f hf => h.fact f (h2.subset hf), fun f hf => h.flt f (h2.subset hf),
    fun f hf b hb => h.sepb f (h2.subset hf) b (h1.subset hb), fun f hf => h.fown f (h2.subset hf), h.sepf.sublist h2, fun p hp => ⟨(h.pin p hp).1, (h.pin p hp).2.1, fun f hf => (h.pin p hp).2.2 f (h2.subset hf)⟩, h.mrk, h.rnd⟩
theorem Sub.of {H' : List Bk} {F' : List Fact} (h1 : List.Sublist H' H) (h2 : List.Sublist F' F) : Sub cx n H F H' F' := fun _ _ h => h.weaken h1 h2
theorem Sub.dropF (k : Nat) (h : F.drop k = F0) : Sub cx n H F H F0 := Sub.of (List.Sublist.refl _) (by rw [← h]; exact List.drop_sublist _ _)
end
end Go.Proofs.YteenjgfbbkdlhaaGreatDoor.Sx

namespace Go.Proofs.YteenjgfbbkdlhaaGreatDoor.Sx
open Go
theorem fmc {α : Type _} {p : α → Prop} {a : α} {l : List α} (h : p a ∧ ∀ x ∈ l, p x) : ∀ x ∈ a :: l, p x := List.forall_mem_cons.2 h
section
variable {cx : Cx} {β : Va} {n : Nat} {env : Env} {H : List Bk} {F : List Fact} {a : Act} {w w' : World}
theorem Sat.get (h : Sat cx β n H F w) (j : Nat) {f : Fact} (hj : nth F j = some f) : f.p w := h.fact f (List.mem_of_getElem? (by rw [← nth_eq]; exact hj))
theorem Sat.getLt (h : Sat cx β n H F w) (j : Nat) {f : Fact} (hj : nth F j = some f) : ∀ k, f.D k → k < w.heap.size := h.flt f (List.mem_of_getElem? (by rw [← nth_eq]; exact hj))
theorem Sat.getNew (h : Sat cx β n H F w) (j : Nat) {f : Fact} (hj : nth F j = some f) (ho : f.own = true) : ∀ k, f.D k → cx.S k ∨ cx.W0.heap.size ≤ k := h.fown f (List.mem_of_getElem? (by rw [← nth_eq]; exact hj)) ho
theorem Sat.startB (hw : cx.W0 = w) (hn : cx.bs.length ≤ n) (hb : ∀ i, i < cx.bs.length → β i = cx.bs.getD i 0) (hp : β.pins = [] := by rfl) (hm : β.marks = [] := by rfl) (hr : cx.rnd = none := by rfl) (hpn : cx.pn = [] := by rfl) : Sat cx β n [] [] w := by
  subst hw
  refine ⟨Chg.refl _ _, ⟨hn, hb⟩, ?_, ?_, List.Pairwise.nil, ?_, ?_, ?_, ?_, ?_, List.Pairwise.nil, ?_, ⟨by rw [hm]; exact List.nodup_nil, ?_⟩, ⟨?_, ?_⟩⟩
  · intro x hx; cases hx
  · intro x hx; cases hx
  · intro x hx; cases hx
  · intro x hx; cases hx
  · intro x hx; cases hx
  · intro x hx; cases hx
  · intro x hx; cases hx
  · intro x hx; rw [hp] at hx; cases hx
  · intro x hx; rw [hm] at hx; cases hx
  · intro x hx; rw [hpn] at hx; cases hx
  · intro l hl; rw [hr] at hl; cases hl
theorem Sat.start (hw : cx.W0 = w) (hbs : cx.bs = [] := by rfl) (hp : β.pins = [] := by rfl) (hm : β.marks = [] := by rfl) (hr : cx.rnd = none := by rfl) (hpn : cx.pn = [] := by rfl) : Sat cx β n [] [] w :=
  Sat.startB hw (by rw [hbs]; exact Nat.zero_le _) (fun i hi => by rw [hbs] at hi; cases hi) hp hm hr hpn
theorem Sat.old (h : Sat cx β n H F w) (f : Fact) (hp : f.p w) (hD : ∀ k, f.D k → k < w.heap.size) (hb : ∀ b ∈ H, ¬ f.D (β b.id)) (ho : f.own = true → ∀ k, f.D k → cx.S k ∨ cx.W0.heap.size ≤ k)
    (hs : ∀ g ∈ F, f.own = true ∨ g.own = true → ∀ k, f.D k → ¬ g.D k) (hpp : ∀ p ∈ β.pins, ¬ f.D p.1 := by (intro p hp; exact absurd hp List.not_mem_nil)) : Sat cx β n H (f :: F) w := by
  refine ⟨h.chg, h.fix, h.blk, h.mine, h.inj, h.ltb, ?_, ?_, ?_, ?_, List.pairwise_cons.2 ⟨hs, h.sepf⟩, fun p hp' => ⟨(h.pin p hp').1, (h.pin p hp').2.1, ?_⟩, h.mrk, h.rnd⟩ <;> intro g hg <;> rcases List.mem_cons.1 hg with rfl | hg
  · assumption
  · exact h.fact g hg
  · exact hD
  · exact h.flt g hg
  · exact hb
  · exact h.sepb g hg
  · exact ho
  · exact h.fown g hg
  · exact hpp p hp'
  · exact (h.pin p hp').2.2 g hg
theorem Sat.sub (h : Sat cx β n H F w) (j : Nat) {f : Fact} (hj : nth F j = some f) (hfo : f.own = false) (g : Fact) (hgo : g.own = false) (hp : g.p w) (hD : ∀ k, g.D k → f.D k) : Sat cx β n H (g :: F) w := by
  have hm : f ∈ F := List.mem_of_getElem? (by rw [← nth_eq]; exact hj)
  refine h.old g hp (fun k hk => h.flt f hm k (hD k hk)) (fun b hb q => h.sepb f hm b hb (hD _ q)) (fun q => by rw [hgo] at q; cases q) (fun g' hg' ho k hk hk' => ?_) (fun p hpp q => (h.pin p hpp).2.2 f hm (hD _ q))
  have ho' : g'.own = true := ho.resolve_left (by rw [hgo]; decide)
  rw [nth_eq] at hj
  obtain ⟨i, hi⟩ := List.getElem?_of_mem hg'
  have hne : i ≠ j := fun q => by subst q; rw [hi] at hj; obtain rfl := Option.some.inj hj; rw [hfo] at ho'; cases ho'
  exact h.apart hi hj hne (.inl ho') k hk' (hD k hk)
theorem rd_lt {size : Nat} {A : Option Addr} {k : Nat} {xs : List Value} (h : Rd size A k xs w) : ∀ g, (rdF size A k xs).D g → g < w.heap.size := by
  rintro g ⟨hk, ad, rfl, rfl⟩
  obtain ⟨ad', q, hc⟩ := h.2 (Nat.pos_of_mul_pos_right hk)
  obtain rfl := Option.some.inj q
  have hl : 0 < xs.length := by rw [h.1]; exact hk
  have h0 := hc 0 _ (List.getElem?_eq_getElem hl)
  simp only [Addr.add, if_true] at h0
  rcases Nat.lt_or_ge ad.block w.heap.size with hlt | hge
  · exact hlt
  · simp [World.cell?, Array.getElem?_eq_none hge] at h0
theorem Sat.rd (h : Sat cx β n [] F w) (hF : ∀ g ∈ F, g.own = false) {size : Nat} {A : Option Addr} {k : Nat} {xs : List Value} (hr : Rd size A k xs w) (hpp : ∀ p ∈ β.pins, ¬ (rdF size A k xs).D p.1 := by (intro p hp; exact absurd hp List.not_mem_nil)) : Sat cx β n [] (rdF size A k xs :: F) w :=
  h.old _ hr (rd_lt hr) (fun _ hb => by cases hb) (fun q => by cases q) (fun g hg ho => by
    rcases ho with q | q
    · cases q
    · rw [hF g hg] at q; cases q) hpp
end
def EntE (env : Env) : Env → Prop
  | [] => True
  | (t, s) :: r => get env t = some s ∧ EntE env r
theorem EntE.get {env : Env} : ∀ {env' : Env}, EntE env env' → ∀ t s, get env' t = some s → get env t = some s
  | [], _, t, s, h => by cases h
  | (u, s') :: r, hE, t, s, h => by
    by_cases hut : u = t
    · subst hut
      rw [get_same] at h
      obtain rfl := Option.some.inj h
      exact hE.1
    · rw [get_other _ _ hut] at h
      exact EntE.get hE.2 t s h
def envLt (n : Nat) : Env → Bool
  | [] => true
  | (_, s) :: r => match s.ltB n with | true => envLt n r | false => false
theorem envLt_get {n : Nat} : ∀ {env : Env}, envLt n env = true → ∀ t s, get env t = some s → s.lt n
  | [], _, t, s, h => by cases h
  | (u, s') :: r, hE, t, s, h => by
    simp only [envLt] at hE
    cases hl : s'.ltB n with
    | false => rw [hl] at hE; cases hE
    | true =>
      rw [hl] at hE
      by_cases hut : u = t
      · subst hut
        rw [get_same] at h
        obtain rfl := Option.some.inj h
        exact SV.ltB_lt hl
      · rw [get_other _ _ hut] at h
        exact envLt_get hE t s h
theorem Ent.mk' {cx : Cx} {n n' : Nat} {env env' : Env} {H H' : List Bk} {F F' : List Fact} (hE : EntE env env') (hl : envLt n' env' = true) (hs : ∀ β w, Sat cx β n H F w → Sat cx β n' H' F' w) : Ent cx n env H F n' env' H' F' :=
  ⟨fun β a w h => ⟨β, rfl, rfl, fun t s ht => h.ag t s (hE.get t s ht), h.size, h.df, envLt_get hl, hs β w h.sat⟩⟩
theorem Ent.same {cx : Cx} {n : Nat} {env env' : Env} {H : List Bk} {F : List Fact} (hE : EntE env env') (hl : envLt n env' = true) : Ent cx n env H F n env' H F := Ent.mk' hE hl fun _ _ h => h
theorem Sat.rowSet {cx : Cx} {β : Va} {n : Nat} {H : List Bk} {F : List Fact} {w : World} (h : Sat cx β n H F w) {j : Nat} {b k c e size : Nat} {xs us : List Value} {o : Nat}
    (hj : nth F j = some (rowF e size (.slice (some ⟨b, 0, none⟩) k c) k xs)) (hlt : o + us.length ≤ k * size) (h1 : ∀ u ∈ us, u.oneCell' = true) :
    ∃ w', (storeCells ((⟨b, 0, none⟩ : Addr).add o) us 0).run cx.P w = .ok () w' ∧ Sat cx β n H (putAt F j (rowF e size (.slice (some ⟨b, 0, none⟩) k c) k (putAll xs o us))) w' := by
  have hp : w.ownsRow 0 e size (.slice (some ⟨b, 0, none⟩) k c) k xs := h.get j hj
  rcases hp.2 with ⟨q, _⟩ | ⟨g, cap, cur, hv, _, hg, hnc, hcm, hcs, htake⟩
  · cases q
  · have hbg : b = g := by injection hv with h1 h2 h3; injection h1 with h1; injection h1
    have hcc : c = cap := by injection hv
    subst hbg hcc
    have hks : k * size ≤ c * size := Nat.mul_le_mul_right _ hnc
    have hcl : cur.toList.length = c * size := by simpa using hcs
    obtain ⟨w', e1, e2, e3, e4⟩ := run_storeCells (P := cx.P) b e us o 0 w cur.toList (by simpa using hg) h1 (by rw [hcl]; omega)
    rw [add_none, Nat.zero_add]
    refine ⟨w', e1, h.upd hj rfl (Chg.mono e3 (fun i _ q => by subst q; rfl)) ?_ (fun q hq => .inl hq)⟩
    refine ⟨by rw [length_putAll]; exact hp.1, .inr ⟨b, c, _, rfl, Nat.zero_le _, e2, hnc, hcm, by simp [length_putAll, hcs], ?_⟩⟩
    rw [Nat.add_zero, ← htake]
    have key : ∀ (us l : List Value) (o m : Nat), o + us.length ≤ m → (putAll l o us).take m = putAll (l.take m) o us := by
      intro us
      induction us with
      | nil => intro l o m _; rfl
      | cons u us ih =>
        intro l o m hm
        simp only [List.length_cons] at hm
        rw [putAll, putAll, putAt_eq, putAt_eq, ih _ _ _ (by omega), List.take_set]
    simpa using key us cur.toList o (k * size) hlt
abbrev Bs (w : World) (A : Option Addr) (l : List UInt8) : Prop := Rd 1 A l.length (l.map byte) w
abbrev bsF (A : Option Addr) (l : List UInt8) : Fact := rdF 1 A l.length (l.map byte)
theorem bytes_one (l : List UInt8) : ∀ u ∈ l.map byte, u.oneCell' = true := by
  intro u hu
  obtain ⟨x, _, rfl⟩ := List.mem_map.1 hu
  rfl
theorem Bs.cell {w : World} {A : Option Addr} {l : List UInt8} (h : Bs w A l) {ad : Addr} (hA : A = some ad) {j : Nat} (hj : j < l.length) : w.cell? (ad.add (j * 1)) = some (byte l[j]) := by
  obtain ⟨ad', q, hc⟩ := h.2 (by omega)
  rw [hA] at q
  obtain rfl := Option.some.inj q
  rw [Nat.mul_one]
  exact hc j _ (by simp [List.getElem?_eq_getElem hj])
theorem Bs.addr {w : World} {A : Option Addr} {l : List UInt8} (h : Bs w A l) (hl : 0 < l.length) : ∃ ad, A = some ad := by
  obtain ⟨ad', q, _⟩ := h.2 hl
  exact ⟨ad', q⟩
theorem Bs.same {w w' : World} {A : Option Addr} {l : List UInt8} (h : Bs w A l) {S : Nat → Prop} (hc : Chg S w w') (hd : ∀ k, (bsF A l).D k → ¬ S k) : Bs w' A l :=
  (bsF A l).st w w' (fun k hk => hc.same k (rd_lt h k hk) (hd k hk)) h
theorem Bs.chg {w w' : World} {A : Option Addr} {l : List UInt8} (h : Bs w A l) (hc : Chg None_ w w') : Bs w' A l := h.same hc (fun _ _ q => q)
theorem Bs.nil (w : World) (A : Option Addr) : Bs w A [] := ⟨rfl, fun h => by simp at h⟩
theorem Bs.cut {w : World} {A : Option Addr} {l : List UInt8} (h : Bs w A l) {c m i j : Nat} (hl : l.length ≤ c) (hm : m = c ∨ j ≤ m) (hij : i ≤ j) (hj : j ≤ l.length) (hmc : m ≤ c) : Rd 1 (cutA A m i 1) (j - i) (((l.drop i).take (j - i)).map byte) w := by
  refine ⟨by simp; omega, fun hp => ?_⟩
  obtain ⟨ad, rfl, hc⟩ := h.2 (by omega)
  have hne : ¬ m = i := by rcases hm with rfl | hm <;> omega
  refine ⟨ad.add (i * 1), by simp [cutA, hne], fun k u hk => ?_⟩
  rw [add_add', Nat.mul_one]
  refine hc (i + k) u ?_
  rw [← hk]
  simp only [List.getElem?_map, List.getElem?_take, List.getElem?_drop]
  have hkl : k < j - i := by
    have := (List.getElem?_eq_some_iff.1 hk).1
    simp at this; omega
  simp [hkl]
theorem Bs.cutB {w : World} {A : Option Addr} {l m : List UInt8} (h : Bs w A l) {c i j : Nat} (hl : l.length ≤ c) (hij : i ≤ j) (hj : j ≤ l.length) (hm : (l.drop i).take (j - i) = m) : Bs w (cutA A c i 1) m := by
  have h1 := h.cut (c := c) (m := c) hl (.inl rfl) hij hj (Nat.le_refl _)
  have h2 : m.length = j - i := by rw [← hm]; simp; omega
  show Rd 1 _ m.length _ w
  rw [h2, ← hm]
  exact h1
def NewRow (w w' : World) (A : Option Addr) (l : List UInt8) (c e : Nat) : Prop :=
  l.length ≤ c ∧ c ≤ maxLen ∧ w'.ownsRow 0 e 1 (.slice A l.length c) l.length (l.map byte) ∧ ∀ k, Value.ownBlock (.slice A l.length c) = some k → w.heap.size ≤ k
theorem NewRow.bs {w w' : World} {A : Option Addr} {l : List UInt8} {c e : Nat} (h : NewRow w w' A l c e) : Bs w' A l := row_rd h.2.2.1
abbrev browF (e : Nat) (A : Option Addr) (l : List UInt8) (c : Nat) : Fact := rowF e 1 (.slice A l.length c) l.length (l.map byte)
theorem NewRow.lt {w w' : World} {A : Option Addr} {l : List UInt8} {c e : Nat} (h : NewRow w w' A l c e) : ∀ k, (browF e A l c).D k → w.heap.size ≤ k ∧ k < w'.heap.size := fun k hk => ⟨h.2.2.2 k hk, (h.2.2.1.lt k hk).2⟩
section
variable {cx : Cx} {β : Va} {n : Nat} {env : Env} {H : List Bk} {F : List Fact} {a : Act} {w w' : World}
theorem Sat.newRow (h : Sat cx β n H F w) (hS : cx.S = None_) (j : Nat) {A : Option Addr} {l : List UInt8} {c e : Nat} (hj : nth F j = some (browF e A l c)) (h1 : l.length ≤ c) (h2 : c ≤ maxLen) : NewRow cx.W0 w A l c e := by
  refine ⟨h1, h2, h.get j hj, fun k hk => ?_⟩
  rcases h.getNew j hj rfl k hk with q | q
  · rw [hS] at q; exact q.elim
  · exact q
end
theorem mx (a b : Nat) : max (a : Int) b = ((max a b : Nat) : Int) := by omega
theorem wrap_i64 {x : Int} (h1 : -9223372036854775808 ≤ x) (h2 : x < 9223372036854775808) : IntKind.i64.wrap x = x := by rw [IntKind.wrap_i64]; omega
end Go.Proofs.YteenjgfbbkdlhaaGreatDoor.Sx

namespace Go.Proofs.YteenjgfbbkdlhaaGreatDoor.Sx
open Go
def Un (Gs : List Fact) : Nat → Prop := fun k => ∃ g ∈ Gs, g.D k
structure Mem (w : World) (F : List Fact) : Prop where
  fact : ∀ f ∈ F, f.p w
  flt : ∀ f ∈ F, ∀ k, f.D k → k < w.heap.size
  sepf : F.Pairwise (fun f g => f.own = true ∨ g.own = true → ∀ k, f.D k → ¬ g.D k)
def Owns : List Fact → Prop
  | [] => True
  | f :: r => f.own = true ∧ Owns r
theorem Owns.mem : ∀ {l : List Fact}, Owns l → ∀ f ∈ l, f.own = true
  | _ :: _, h, g, hg => by
    rcases List.mem_cons.1 hg with rfl | hg
    · exact h.1
    · exact Owns.mem h.2 g hg
def takeIx (F : List Fact) : List Nat → List Fact
  | [] => []
  | j :: r => match nth F j with | some f => f :: takeIx F r | none => []
def dropIx (js : List Nat) : Nat → List Fact → List Fact
  | _, [] => []
  | i, f :: r => match memb js i with | true => dropIx js (i + 1) r | false => f :: dropIx js (i + 1) r
def nodupB : List Nat → Bool
  | [] => true
  | j :: r => match memb r j with | true => false | false => nodupB r
theorem memb_not {l : List Nat} {y : Nat} (h : memb l y = false) : y ∉ l := by
  induction l with
  | nil => exact List.not_mem_nil
  | cons x r ih =>
    simp only [memb] at h
    cases hb : Nat.beq x y with
    | true => rw [hb] at h; cases h
    | false =>
      rw [hb] at h
      intro q
      rcases List.mem_cons.1 q with rfl | q
      · rw [Nat.beq_refl] at hb; cases hb
      · exact ih h q
theorem takeIx_mem {F : List Fact} : ∀ {js : List Nat} {g : Fact}, g ∈ takeIx F js → ∃ j ∈ js, F[j]? = some g
  | j :: r, g, h => by
    simp only [takeIx] at h
    split at h
    · rename_i f hf
      rw [nth_eq] at hf
      rcases List.mem_cons.1 h with rfl | h
      · exact ⟨j, List.mem_cons_self, hf⟩
      · obtain ⟨i, hi, q⟩ := takeIx_mem h
        exact ⟨i, List.mem_cons_of_mem _ hi, q⟩
    · cases h
theorem dropIx_mem {js : List Nat} : ∀ {F : List Fact} {i : Nat} {g : Fact}, g ∈ dropIx js i F → ∃ k, F[k]? = some g ∧ (i + k) ∉ js
  | f :: r, i, g, h => by
    simp only [dropIx] at h
    cases hb : memb js i with
    | true =>
      rw [hb] at h
      obtain ⟨k, h1, h2⟩ := dropIx_mem h
      exact ⟨k + 1, by simpa using h1, by rw [Nat.add_comm k 1, ← Nat.add_assoc]; exact h2⟩
    | false =>
      rw [hb] at h
      rcases List.mem_cons.1 h with rfl | h
      · exact ⟨0, rfl, memb_not hb⟩
      · obtain ⟨k, h1, h2⟩ := dropIx_mem h
        exact ⟨k + 1, by simpa using h1, by rw [Nat.add_comm k 1, ← Nat.add_assoc]; exact h2⟩
theorem dropIx_sub (js : List Nat) : ∀ (F : List Fact) (i : Nat), List.Sublist (dropIx js i F) F
  | [], _ => List.Sublist.slnil
  | f :: r, i => by
    simp only [dropIx]
    cases memb js i with
    | true => exact (dropIx_sub js r (i + 1)).cons _
    | false => exact (dropIx_sub js r (i + 1)).cons_cons _
section
variable {cx : Cx} {β : Va} {n : Nat} {env : Env} {H : List Bk} {F : List Fact} {a : Act} {w w' : World}
theorem Sat.mem (h : Sat cx β n H F w) : Mem w F := ⟨h.fact, h.flt, h.sepf⟩
theorem Mem.take (h : Mem w F) : ∀ {js : List Nat}, nodupB js = true → Mem w (takeIx F js)
  | [], _ => ⟨fun _ q => (by cases q), fun _ q => (by cases q), List.Pairwise.nil⟩
  | j :: r, hn => by
    simp only [nodupB] at hn
    cases hb : memb r j with
    | true => rw [hb] at hn; cases hn
    | false =>
      rw [hb] at hn
      have ih := Mem.take h hn
      simp only [takeIx]
      split
      · rename_i f hf
        rw [nth_eq] at hf
        have hfm := List.mem_of_getElem? hf
        refine ⟨fun g hg => ?_, fun g hg => ?_, List.pairwise_cons.2 ⟨fun g hg ho k hk hk' => ?_, ih.sepf⟩⟩
        · rcases List.mem_cons.1 hg with rfl | hg
          · exact h.fact _ hfm
          · exact ih.fact g hg
        · rcases List.mem_cons.1 hg with rfl | hg
          · exact h.flt _ hfm
          · exact ih.flt g hg
        · obtain ⟨i, hi, hgi⟩ := takeIx_mem hg
          have hne : j ≠ i := fun q => by subst q; exact memb_not hb hi
          obtain ⟨hjl, rfl⟩ := List.getElem?_eq_some_iff.1 hf
          obtain ⟨hil, rfl⟩ := List.getElem?_eq_some_iff.1 hgi
          have hp := List.pairwise_iff_getElem.1 h.sepf
          rcases Nat.lt_or_gt_of_ne hne with hlt | hgt
          · exact hp j i hjl hil hlt ho k hk hk'
          · exact hp i j hil hjl hgt ho.symm k hk' hk
      · exact ⟨fun _ q => (by cases q), fun _ q => (by cases q), List.Pairwise.nil⟩
theorem Sat.swap (h : Sat cx β n H F w) (js : List Nat) (hown : Owns (takeIx F js)) {Fs : List Fact} (hc : Chg (Un (takeIx F js)) w w') (hm : Mem w' Fs)
    (hD : ∀ f ∈ Fs, ∀ k, f.D k → Un (takeIx F js) k ∨ w.heap.size ≤ k) : Sat cx β n H (Fs ++ dropIx js 0 F) w' := by
  have hfm : ∀ g ∈ takeIx F js, g ∈ F := fun g hg => by obtain ⟨j, _, q⟩ := takeIx_mem hg; exact List.mem_of_getElem? q
  have hdm : ∀ g ∈ dropIx js 0 F, g ∈ F := fun g hg => (dropIx_sub js F 0).subset hg
  have hap : ∀ g ∈ takeIx F js, ∀ d ∈ dropIx js 0 F, ∀ k, g.D k → ¬ d.D k := by
    intro g hg d hd
    obtain ⟨j, hj, hgj⟩ := takeIx_mem hg
    obtain ⟨i, hi, hni⟩ := dropIx_mem hd
    exact h.apart hgj hi (fun q => by subst q; rw [Nat.zero_add] at hni; exact hni hj) (.inl (hown.mem g hg))
  have hS : ∀ k, Un (takeIx F js) k → cx.S k ∨ cx.W0.heap.size ≤ k := fun k ⟨g, hg, hk⟩ => h.fown g (hfm g hg) (hown.mem g hg) k hk
  refine ⟨?_, h.fix, fun b hb => ?_, h.mine, h.inj, h.ltb, fun f hf => ?_, fun f hf k hk => ?_, fun f hf b hb => ?_, fun f hf ho k hk => ?_, List.pairwise_append.2 ⟨hm.sepf, h.sepf.sublist (dropIx_sub js F 0), fun f hf d hd _ k hk hk' => ?_⟩, fun p hp => ⟨?_, (h.pin p hp).2.1, fun f hf => ?_⟩, h.mrk, h.rnd⟩
  · refine ⟨hc.os.trans h.chg.os, hc.tape.trans h.chg.tape, hc.output.trans h.chg.output, Nat.le_trans h.chg.size hc.size, fun k hk hn => ?_⟩
    rw [hc.same k (Nat.lt_of_lt_of_le hk h.chg.size) (fun q => ?_)]
    · exact h.chg.same k hk hn
    · rcases hS k q with q | q
      · exact hn q
      · omega
  · rw [hc.same _ (h.lt hb) (fun ⟨g, hg, hk⟩ => h.sepb g (hfm g hg) b hb hk)]; exact h.blk b hb
  · rcases List.mem_append.1 hf with hf | hf
    · exact hm.fact f hf
    · exact f.st _ _ (fun k hk => hc.same k (h.flt f (hdm f hf) k hk) (fun ⟨g, hg, hk'⟩ => hap g hg f hf k hk' hk)) (h.fact f (hdm f hf))
  · rcases List.mem_append.1 hf with hf | hf
    · exact hm.flt f hf k hk
    · exact Nat.lt_of_lt_of_le (h.flt f (hdm f hf) k hk) hc.size
  · rcases List.mem_append.1 hf with hf | hf
    · intro q
      rcases hD f hf _ q with ⟨g, hg, hk⟩ | q
      · exact h.sepb g (hfm g hg) b hb hk
      · have := h.lt hb; omega
    · exact h.sepb f (hdm f hf) b hb
  · rcases List.mem_append.1 hf with hf | hf
    · rcases hD f hf k hk with q | q
      · exact hS k q
      · exact .inr (Nat.le_trans h.chg.size q)
    · exact h.fown f (hdm f hf) ho k hk
  · rcases hD f hf k hk with ⟨g, hg, q⟩ | q
    · exact hap g hg d hd k q hk'
    · have := h.flt d (hdm d hd) k hk'; omega
  · rw [hc.same _ (h.pinLt hp) (fun ⟨g, hg, hk⟩ => (h.pin p hp).2.2 g (hfm g hg) hk)]; exact (h.pin p hp).1
  · rcases List.mem_append.1 hf with hf | hf
    · intro q
      rcases hD f hf _ q with ⟨g, hg, hk⟩ | q
      · exact (h.pin p hp).2.2 g (hfm g hg) hk
      · have := h.pinLt hp; omega
    · exact (h.pin p hp).2.2 f (hdm f hf)
end
theorem Sat.perm {cx : Cx} {β : Va} {n : Nat} {H : List Bk} {F : List Fact} {w : World} (h : Sat cx β n H F w) (js : List Nat) (hn : nodupB js = true := by rfl) : Sat cx β n H (takeIx F js) w := by
  have hm := h.mem.take hn
  have hfm : ∀ f ∈ takeIx F js, f ∈ F := fun f hf => by obtain ⟨j, _, q⟩ := takeIx_mem hf; exact List.mem_of_getElem? q
  exact ⟨h.chg, h.fix, h.blk, h.mine, h.inj, h.ltb, hm.fact, hm.flt, fun f hf => h.sepb f (hfm f hf), fun f hf => h.fown f (hfm f hf), hm.sepf, fun p hp => ⟨(h.pin p hp).1, (h.pin p hp).2.1, fun f hf => (h.pin p hp).2.2 f (hfm f hf)⟩, h.mrk, h.rnd⟩
def bksLt (n : Nat) : List Bk → Bool
  | [] => true
  | b :: r => match Nat.blt b.id n, allLtL n b.cells with | true, true => bksLt n r | _, _ => false
theorem bksLt_mem {n : Nat} : ∀ {H : List Bk}, bksLt n H = true → ∀ b ∈ H, b.id < n ∧ ∀ x ∈ b.cells, x.lt n
  | b :: r, h, c, hc => by
    simp only [bksLt] at h
    split at h
    · rename_i h1 h2
      rcases List.mem_cons.1 hc with rfl | hc
      · exact ⟨by simpa [Nat.blt_eq] using h1, allLtL_mem h2⟩
      · exact bksLt_mem h c hc
    · cases h
theorem Sat.lower {cx : Cx} {β : Va} {n n' : Nat} {H : List Bk} {F : List Fact} {w : World} (h : Sat cx β n H F w) (hH : bksLt n' H = true := by rfl) (hb : cx.bs.length ≤ n' := by first | exact Nat.zero_le _ | exact Nat.le_refl _ | assumption | exact Nat.le_of_ble_eq_true rfl) : Sat cx β n' H F w :=
  h.recast (Agr.refl _ _) hb (bksLt_mem hH)
theorem Sat.keepB {cx : Cx} {β : Va} {n : Nat} {H : List Bk} {F : List Fact} {w : World} (h : Sat cx β n H F w) {H' : List Bk} (hs : List.Sublist H' H) : Sat cx β n H' F w := h.weaken hs (List.Sublist.refl _)
theorem Ent.sub {cx : Cx} {n n' : Nat} {env env0 env' : Env} {H H' : List Bk} {F F' : List Fact} (h : Ent cx n env0 H F n' env' H' F') (hE : EntE env env0) (hl : envLt n env0 = true := by rfl) : Ent cx n env H F n' env' H' F' :=
  ⟨fun β a w hi => h.run β a w ⟨fun t s ht => hi.ag t s (hE.get t s ht), hi.size, hi.df, envLt_get hl, hi.sat⟩⟩
theorem flat_get {α γ : Type} (f : α → List γ) (k : Nat) (hf : ∀ x, (f x).length = k) : ∀ (l : List α) (i j : Nat) (x : α) (u : γ), l[i]? = some x → (f x)[j]? = some u → (l.flatMap f)[i * k + j]? = some u
  | y :: r, 0, j, x, u, h, hu => by
    obtain rfl : y = x := by simpa using h
    have hj : j < (f y).length := (List.getElem?_eq_some_iff.1 hu).1
    rw [List.flatMap_cons, Nat.zero_mul, Nat.zero_add, List.getElem?_append_left hj]
    exact hu
  | y :: r, i + 1, j, x, u, h, hu => by
    have h' : r[i]? = some x := by simpa using h
    rw [List.flatMap_cons, List.getElem?_append_right (by rw [hf, Nat.succ_mul]; omega), hf, show (i + 1) * k + j - k = i * k + j by rw [Nat.succ_mul]; omega]
    exact flat_get f k hf r i j x u h' hu
theorem Rd.elem {α : Type} {f : α → List Value} {k : Nat} (hf : ∀ x, (f x).length = k) {A : Option Addr} {l : List α} {w : World} (h : Rd k A l.length (l.flatMap f) w) {ad : Addr} (hA : A = some ad) {i : Nat} (hi : i < l.length) : ∀ j u, (f l[i])[j]? = some u → w.cell? ((ad.add (i * k)).add j) = some u := by
  intro j u hu
  obtain ⟨ad', q, hc⟩ := h.2 (by omega)
  rw [hA] at q
  obtain rfl := Option.some.inj q
  rw [add_add']
  exact hc _ _ (flat_get f k hf l i j _ u (List.getElem?_eq_getElem hi) hu)
def Fin (w : World) (Gs : List Fact) (R : Value → List Fact → Prop) (v : Value) (w' : World) : Prop :=
  ∃ Fs, R v Fs ∧ Chg (Un Gs) w w' ∧ Mem w' Fs ∧ Owns Fs ∧ ∀ f ∈ Fs, ∀ k, f.D k → Un Gs k ∨ w.heap.size ≤ k
def Con (P : Program) (f : FuncId) (args : Array Value) (w : World) (Gs : List Fact) (R : Value → List Fact → Prop) : Prop :=
  Calls P f args w fun e w' => ∃ v, e = .returned v ∧ Fin w Gs R v w'
def Pu (P : Program) (f : FuncId) (args : Array Value) (w : World) (v : Value) : Prop := Con P f args w [] fun u Fs => u = v ∧ Fs = []
section
variable {cx : Cx} {β : Va} {n : Nat} {env : Env} {H : List Bk} {F : List Fact} {a : Act} {w w' : World} {dst : Option Tmp} {K : KT} {k : FuncId}
theorem Un.nil : Un [] = None_ := by
  funext k
  simp [Un, None_]
theorem Fin.mono {Gs : List Fact} {R R' : Value → List Fact → Prop} {v : Value} (h : Fin w Gs R v w') (hr : ∀ Fs, R v Fs → R' v Fs) : Fin w Gs R' v w' :=
  let ⟨Fs, h1, h2⟩ := h; ⟨Fs, hr _ h1, h2⟩
theorem Con.mono {P : Program} {args : Array Value} {Gs : List Fact} {R R' : Value → List Fact → Prop} (h : Con P k args w Gs R) (hr : ∀ v Fs, R v Fs → R' v Fs) : Con P k args w Gs R' :=
  Calls.mono h fun _ _ ⟨v, he, hf⟩ => ⟨v, he, hf.mono (hr v)⟩
theorem call_con (js : List Nat) {A : Va → Array Value} {R : Value → List Fact → Prop} (hc : ∀ β w, Sat cx β n H F w → Con cx.P k (A β) w (takeIx F js) R)
    (hk : ∀ v Fs, R v Fs → put cx.N n env H (Fs ++ dropIx js 0 F) dst (ofValue v) K) (hown : Owns (takeIx F js) := by first | exact trivial | exact ⟨rfl, trivial⟩ | exact ⟨rfl, rfl, trivial⟩ | exact ⟨by assumption, trivial⟩) :
    ∀ β w, Sat cx β n H F w → Calls cx.P k (A β) w fun e w' => ∃ v, e = .returned v ∧ Ret cx β n env dst K v w' := fun β w hs =>
  Calls.mono (hc β w hs) fun _ _ ⟨v, he, Fs, hR, hch, hm, _, hD⟩ => ⟨v, he, Ret.mk _ _ (hs.swap js hown hch hm hD) (hk v Fs hR)⟩
theorem call_conS (js : List Nat) {A : Va → Array Value} {R : Value → List Fact → Prop} (hc : ∀ β w, Sat cx β n H F w → Con cx.P k (A β) w (takeIx F js) R)
    (hk : ∀ v Fs, R v Fs → ∃ H' F', (∀ β w, Sat cx β n H (Fs ++ dropIx js 0 F) w → Sat cx β n H' F' w) ∧ put cx.N n env H' F' dst (ofValue v) K) (hown : Owns (takeIx F js) := by first | exact trivial | exact ⟨rfl, trivial⟩ | exact ⟨rfl, rfl, trivial⟩ | exact ⟨by assumption, trivial⟩) :
    ∀ β w, Sat cx β n H F w → Calls cx.P k (A β) w fun e w' => ∃ v, e = .returned v ∧ Ret cx β n env dst K v w' := fun β w hs =>
  Calls.mono (hc β w hs) fun _ w' ⟨v, he, Fs, hR, hch, hm, _, hD⟩ => ⟨v, he, by
    obtain ⟨H', F', h1, h2⟩ := hk v Fs hR
    exact Ret.mk _ _ (h1 β w' (hs.swap js hown hch hm hD)) h2⟩
theorem call_pu {A : Va → Array Value} {v : Value} (hc : ∀ β w, Sat cx β n H F w → Pu cx.P k (A β) w v) (hk : put cx.N n env H F dst (ofValue v) K) :
    ∀ β w, Sat cx β n H F w → Calls cx.P k (A β) w fun e w' => ∃ v, e = .returned v ∧ Ret cx β n env dst K v w' := fun β w hs =>
  Calls.mono (hc β w hs) fun _ _ ⟨v, he, Fs, ⟨h1, h2⟩, hch, hm, _, hD⟩ => ⟨v, he, by
    subst h1 h2
    exact Ret.mk _ _ (hs.same (by rw [← Un.nil]; exact hch)) hk⟩
theorem con_of_sx {f : FuncId} {fn : Func} {c : Code} {Gs : List Fact} {R : Value → List Fact → Prop} (g : Good cx) (hf : cx.P.funcs[f]? = some fn) (hb : fn.body = some c) (hN : fn.ntmps = cx.N)
    {β : Va} (svs : List SV) (n : Nat) (H : List Bk) (F : List Fact) (hlen : Nat.ble svs.length cx.N = true) (hltB : allLt n svs = true) (hs : Sat cx β n H F w)
    (hw : cwp cx c (fnPost cx fn.results.toList (Fin w Gs R)) n (pairs 0 svs) H F) (hr : cx.rnd = none := by rfl) (hm : β.marks = [] := by rfl) (hp0 : cx.pn = [] := by rfl) :
    Con cx.P f (svs.map (SV.val β)).toArray w Gs R := calls_of_sx g hf hb hN svs n H F hlen hltB hs hw hr hm hp0
theorem Sat.fin {Gs : List Fact} {R : Value → List Fact → Prop} {v : Value} (h : Sat cx β n H F w') (js : List Nat) (hR : R v (takeIx F js)) (hW : cx.W0 = w := by rfl) (hS : cx.S = Un Gs := by rfl)
    (hn : nodupB js = true := by rfl) (hown : Owns (takeIx F js) := by first | exact trivial | exact ⟨rfl, trivial⟩ | exact ⟨rfl, rfl, trivial⟩ | exact ⟨by assumption, trivial⟩) : Fin w Gs R v w' := by
  refine ⟨_, hR, by rw [← hW, ← hS]; exact h.chg, h.mem.take hn, hown, fun f hf k hk => ?_⟩
  obtain ⟨j, _, hj⟩ := takeIx_mem hf
  rw [← hS, ← hW]
  exact h.fown f (List.mem_of_getElem? hj) (hown.mem f hf) k hk
theorem Mem.sat (h : Mem w F) (hW : cx.W0 = w := by rfl) (hS : ∀ f ∈ F, f.own = true → ∀ k, f.D k → cx.S k) (hfix : cx.bs.length ≤ n ∧ ∀ i, i < cx.bs.length → β i = cx.bs.getD i 0)
    (hp : β.pins = [] := by rfl) (hm : β.marks = [] := by rfl) (hr : cx.rnd = none := by rfl) (hpn : cx.pn = [] := by rfl) : Sat cx β n [] F w := by
  have h0 : Sat cx β n [] [] w := Sat.startB hW hfix.1 hfix.2 hp hm hr hpn
  refine ⟨h0.chg, h0.fix, h0.blk, h0.mine, h0.inj, h0.ltb, h.fact, h.flt, fun _ _ b hb => (by cases hb), fun f hf ho k hk => .inl (hS f hf ho k hk), h.sepf, fun p hq => ?_, h0.mrk, h0.rnd⟩
  rw [hp] at hq; cases hq
def sepF (Fs : List Fact) : Fact where
  own := true
  D := Un Fs
  p := fun w => (∀ f ∈ Fs, f.p w) ∧ Fs.Pairwise (fun f g : Fact => ∀ k : Nat, f.D k → ¬ g.D k)
  st := fun w w' hs h => ⟨fun f hf => f.st w w' (fun k hk => hs k ⟨f, hf, hk⟩) (h.1 f hf), h.2⟩
theorem Sat.unsep (h : Sat cx β n H F w) (j : Nat) {Fs : List Fact} (hj : nth F j = some (sepF Fs)) : Sat cx β n H (Fs ++ dropIx [j] 0 F) w := by
  have hj' : F[j]? = some (sepF Fs) := by rw [← nth_eq]; exact hj
  have hm : sepF Fs ∈ F := List.mem_of_getElem? hj'
  have hp := h.fact _ hm
  have hdm : ∀ g ∈ dropIx [j] 0 F, g ∈ F := fun g hg => (dropIx_sub [j] F 0).subset hg
  have hap : ∀ f ∈ Fs, ∀ d ∈ dropIx [j] 0 F, ∀ k, f.D k → ¬ d.D k := by
    intro f hf d hd k hk
    obtain ⟨i, hi, hni⟩ := dropIx_mem hd
    exact h.apart hj' hi (fun q => by subst q; simp at hni) (.inl rfl) k ⟨f, hf, hk⟩
  refine ⟨h.chg, h.fix, h.blk, h.mine, h.inj, h.ltb, fun f hf => ?_, fun f hf k hk => ?_, fun f hf b hb q => ?_, fun f hf ho k hk => ?_, List.pairwise_append.2 ⟨(by refine hp.2.imp ?_; intro f g q _; exact q), h.sepf.sublist (dropIx_sub [j] F 0), fun f hf d hd _ => hap f hf d hd⟩, fun p hpp => ⟨(h.pin p hpp).1, (h.pin p hpp).2.1, fun f hf q => ?_⟩, h.mrk, h.rnd⟩
  all_goals rcases List.mem_append.1 hf with hf | hf
  · exact hp.1 f hf
  · exact h.fact f (hdm f hf)
  · exact h.flt _ hm k ⟨f, hf, hk⟩
  · exact h.flt f (hdm f hf) k hk
  · exact h.sepb _ hm b hb ⟨f, hf, q⟩
  · exact h.sepb f (hdm f hf) b hb q
  · exact h.fown _ hm rfl k ⟨f, hf, hk⟩
  · exact h.fown f (hdm f hf) ho k hk
  · exact (h.pin p hpp).2.2 _ hm ⟨f, hf, q⟩
  · exact (h.pin p hpp).2.2 f (hdm f hf) q
theorem Sat.sep (h : Sat cx β n H F w) (js : List Nat) (hn : nodupB js = true := by rfl) (hown : Owns (takeIx F js) := by first | exact trivial | exact ⟨rfl, trivial⟩ | exact ⟨rfl, rfl, trivial⟩ | exact ⟨rfl, rfl, rfl, trivial⟩) : Sat cx β n H (sepF (takeIx F js) :: dropIx js 0 F) w := by
  have hm := h.mem.take hn
  refine h.swap js hown (Fs := [sepF (takeIx F js)]) (Chg.refl _ _) ⟨fun f hf => ?_, fun f hf k hk => ?_, List.pairwise_singleton _ _⟩ (fun f hf k hk => ?_)
  · obtain rfl := List.mem_singleton.1 hf
    refine ⟨hm.fact, List.Pairwise.imp_of_mem (fun {f g} hf _ q => q (.inl (hown.mem f hf))) hm.sepf⟩
  · obtain rfl := List.mem_singleton.1 hf
    obtain ⟨g, hg, q⟩ := hk
    exact hm.flt g hg k q
  · obtain rfl := List.mem_singleton.1 hf
    exact .inl hk
theorem Sat.fuse (h : Sat cx β n H F w) (js : List Nat) (g : Fact) (hg : ∀ w, Mem w (takeIx F js) → g.p w) (hD : ∀ k, g.D k → Un (takeIx F js) k) (hn : nodupB js = true := by rfl) (hown : Owns (takeIx F js) := by first | exact trivial | exact ⟨rfl, trivial⟩ | exact ⟨rfl, rfl, trivial⟩ | exact ⟨rfl, rfl, rfl, trivial⟩) : Sat cx β n H (g :: dropIx js 0 F) w := by
  have hm := h.mem.take hn
  refine h.swap js hown (Fs := [g]) (Chg.refl _ _) ⟨fun f hf => ?_, fun f hf k hk => ?_, List.pairwise_singleton _ _⟩ (fun f hf k hk => ?_)
  · obtain rfl := List.mem_singleton.1 hf; exact hg w hm
  · obtain rfl := List.mem_singleton.1 hf
    obtain ⟨d, hd, q⟩ := hD k hk
    exact hm.flt d hd k q
  · obtain rfl := List.mem_singleton.1 hf
    exact .inl (hD k hk)
theorem Sat.noMem (h : Sat cx β n H F w) (g : Fact) (hp : g.p w) (hD : ∀ k, ¬ g.D k) : Sat cx β n H (g :: F) w := h.add (Chg.refl _ _) g hp (fun k hk => (hD k hk).elim)
theorem Sat.nilRow (h : Sat cx β n H F w) (e : TypeId) (size : Nat) : Sat cx β n H (rowF e size (.slice none 0 0) 0 [] :: F) w :=
  h.noMem _ ⟨by simp, .inl ⟨rfl, rfl⟩⟩ (fun k hk => by cases hk)
theorem Sat.ofBk {id : Nat} {ty : TypeId} {cells : List SL} (h : Sat cx β n (⟨id, ty, cells⟩ :: H) F w) : Sat cx β n H (bkF (β id) ty (cells.map (SL.val β)) :: F) w := by
  have hb := h.blk _ List.mem_cons_self
  have h1 := h.weaken (List.sublist_cons_self _ H) (List.Sublist.refl F)
  refine h1.old (bkF (β id) ty (cells.map (SL.val β))) hb (fun k hk => ?_) (fun b hb' q => ?_) (fun _ k hk => ?_) (fun g hg _ k hk q => ?_) (fun p hp q => ?_)
  · obtain rfl : k = β id := hk; exact h.lt (b := ⟨id, ty, cells⟩) List.mem_cons_self
  · exact (List.pairwise_cons.1 h.inj).1 b hb' (Eq.symm q)
  · obtain rfl : k = β id := hk; exact h.mine _ List.mem_cons_self
  · obtain rfl : k = β id := hk; exact h.sepb g hg _ List.mem_cons_self q
  · exact h.pinBk hp List.mem_cons_self (Eq.symm q)
theorem Sat.toBk (h : Sat cx β n H F w) (j : Nat) {b : Nat} {ty : TypeId} {cs : List Value} (hj : nth F j = some (bkF b ty cs)) (id : Nat) (hid : id < n) (hb : β id = b) :
    Sat cx β n (⟨id, ty, cs.map SL.v⟩ :: H) (dropIx [j] 0 F) w := by
  subst hb
  have hj' : F[j]? = some (bkF (β id) ty cs) := by rw [← nth_eq]; exact hj
  have hm := List.mem_of_getElem? hj'
  have hp : w.heap[β id]? = some (.cells cs.toArray ty (0, 0)) := h.fact _ hm
  have h1 := h.weaken (List.Sublist.refl H) (dropIx_sub [j] F 0)
  refine ⟨h1.chg, h1.fix, fun b hb => ?_, fun b hb => ?_, List.pairwise_cons.2 ⟨fun b hb q => ?_, h1.inj⟩, fun b hb => ?_, h1.fact, h1.flt, fun f hf b hb => ?_, h1.fown, h1.sepf, h1.pin, h1.mrk, h1.rnd⟩
  · rcases List.mem_cons.1 hb with rfl | hb
    · rw [hp]; simp [Function.comp_def, SL.val]
    · exact h1.blk b hb
  · rcases List.mem_cons.1 hb with rfl | hb
    · exact h.fown _ hm rfl _ rfl
    · exact h1.mine b hb
  · exact h.sepb _ hm b hb q.symm
  · rcases List.mem_cons.1 hb with rfl | hb
    · refine ⟨hid, fun x hx => ?_⟩
      obtain ⟨y, _, rfl⟩ := List.mem_map.1 hx
      trivial
    · exact h1.ltb b hb
  · rcases List.mem_cons.1 hb with rfl | hb
    · obtain ⟨i, hi, hni⟩ := dropIx_mem hf
      intro q
      exact h.apart hj' hi (fun e => by subst e; simp at hni) (.inl rfl) (β id) rfl q
    · exact h1.sepb f hf b hb
end
#print axioms Sat.toBk
end Go.Proofs.YteenjgfbbkdlhaaGreatDoor.Sx

namespace Go.Proofs.YteenjgfbbkdlhaaGreatDoor.Sx
open Go
def heldF (β : Va) (H : List Bk) (F : List Fact) (ps : List (Nat × Obj)) : Fact where
  own := true
  D := fun k => (∃ b ∈ H, β b.id = k) ∨ (∃ f ∈ F, f.D k) ∨ (∃ p ∈ ps, p.1 = k)
  p := fun w => (∀ b ∈ H, w.heap[β b.id]? = some (.cells (b.cells.map (SL.val β)).toArray b.ty (0, 0))) ∧ (∀ f ∈ F, f.p w) ∧ (∀ p ∈ ps, w.heap[p.1]? = some p.2)
  st := fun w w' hs h => ⟨fun b hb => by rw [hs _ (.inl ⟨b, hb, rfl⟩)]; exact h.1 b hb, fun f hf => f.st w w' (fun k hk => hs k (.inr (.inl ⟨f, hf, hk⟩))) (h.2.1 f hf), fun p hp => by rw [hs _ (.inr (.inr ⟨p, hp, rfl⟩))]; exact h.2.2 p hp⟩
def readF (Fs : List Fact) : Fact where
  own := false
  D := Un Fs
  p := fun w => ∀ f ∈ Fs, f.p w
  st := fun w w' hs h f hf => f.st w w' (fun k hk => hs k ⟨f, hf, hk⟩) (h f hf)
structure Sta (β : Va) (n : Nat) (H : List Bk) (F : List Fact) (ps : List (Nat × Obj)) : Prop where
  inj : H.Pairwise (fun b c => β b.id ≠ β c.id)
  ltb : ∀ b ∈ H, b.id < n ∧ ∀ x ∈ b.cells, x.lt n
  sepb : ∀ f ∈ F, ∀ b ∈ H, ¬ f.D (β b.id)
  sepf : F.Pairwise (fun f g => f.own = true ∨ g.own = true → ∀ k, f.D k → ¬ g.D k)
  own : Owns F
  pinf : ∀ p ∈ ps, p.2.isCells = false ∧ ∀ f ∈ F, ¬ f.D p.1
def gv (X : Fact) : List Fact := match X.own with | true => [X] | false => []
theorem gv_own {X : Fact} (h : X.own = true) : gv X = [X] := by unfold gv; rw [h]
theorem gv_not {X : Fact} (h : X.own = false) : gv X = [] := by unfold gv; rw [h]
def Yc {α : Type} (P : Program) (l : Nat) (J Jx : List α → Fact → Prop) (R : Fact) (ins : List α → α → Array Value → Fact → Prop) : Prop :=
  ∀ (pre : List α) (x : α) (f : Fact) (w : World) (args : Array Value) (X : Fact), J pre f → Mem w [f, R, X] → ins pre x args X →
    Yld P l args w fun v w' => ∃ f', Chg (Un (f :: gv X)) w w' ∧ f'.own = true ∧ f'.p w' ∧ (∀ k, f'.D k → (Un (f :: gv X) k ∨ w.heap.size ≤ k) ∧ k < w'.heap.size) ∧
      ((v = .bool true ∧ J (pre ++ [x]) f') ∨ (v = .bool false ∧ Jx (pre ++ [x]) f'))
abbrev rcx (cx : Cx) (w : World) (S : Nat → Prop) (l : Nat) (bs : List Nat) (pn : List (Nat × Obj)) : Cx := ⟨cx.P, w, S, cx.N, cx.tt, cx.fns, bs, some l, pn⟩
theorem rcx_good {cx : Cx} (g : Good cx) {w : World} {S : Nat → Prop} {l : Nat} {bs : List Nat} {pn : List (Nat × Obj)} : Good (rcx cx w S l bs pn) := ⟨g.ok, g.fn, g.mixed⟩
def bindP (N : Nat) : List Tmp → List Value → Env → Option Env
  | [], [], e => some e
  | t :: ts, v :: vs, e => match Nat.blt t N with | true => bindP N ts vs ((t, ofValue v) :: e) | false => none
  | _, _, _ => none
def norm (k : KT) : Exit → KT
  | .normal => k
  | _ => fun _ _ _ _ => False
def jumpOf : Exit → Option Code
  | .ret => some .ret
  | .exit id => some (.exit id)
  | _ => none
section
variable {cx : Cx} {β : Va} {n : Nat} {env : Env} {H : List Bk} {F : List Fact} {a : Act} {w w' : World}
theorem bindP_ag {N : Nat} : ∀ (ts : List Tmp) (vs : List Value) (e e' : Env) (tmps : Array Value), bindP N ts vs e = some e' → tmps.size = N → (∀ t s, get e t = some s → tmps[t]? = some (s.val β)) → (∀ t s, get e t = some s → s.lt n) →
    (((ts.zip vs).foldl (fun t (q : Tmp × Value) => t.setIfInBounds q.1 q.2) tmps).size = N) ∧ (∀ t s, get e' t = some s → ((ts.zip vs).foldl (fun t (q : Tmp × Value) => t.setIfInBounds q.1 q.2) tmps)[t]? = some (s.val β)) ∧ (∀ t s, get e' t = some s → s.lt n) ∧ ts.length = vs.length
  | [], [], e, e', tmps, h, hN, hag, hlt => by
    simp only [bindP, Option.some.injEq] at h
    subst h
    exact ⟨hN, hag, hlt, rfl⟩
  | t :: ts, v :: vs, e, e', tmps, h, hN, hag, hlt => by
    simp only [bindP] at h
    cases hb : Nat.blt t N with
    | false => rw [hb] at h; cases h
    | true =>
      rw [hb] at h
      have ht : t < N := by simpa [Nat.blt_eq] using hb
      have := bindP_ag ts vs _ e' (tmps.setIfInBounds t v) h (by simp [hN]) ?_ ?_
      · exact ⟨this.1, this.2.1, this.2.2.1, by simp [this.2.2.2]⟩
      · intro u s hu
        by_cases htu : t = u
        · subst htu
          rw [get_same] at hu
          obtain rfl := Option.some.inj hu
          rw [Array.getElem?_setIfInBounds]
          simp [hN, ht, ofValue_val]
        · rw [get_other _ _ htu] at hu
          rw [Array.getElem?_setIfInBounds_ne htu]
          exact hag u s hu
      · intro u s hu
        by_cases htu : t = u
        · subst htu
          rw [get_same] at hu
          obtain rfl := Option.some.inj hu
          exact ofValue_lt _ _
        · rw [get_other _ _ htu] at hu
          exact hlt u s hu
  | [], _ :: _, _, _, _, h, _, _, _ => by cases h
  | _ :: _, [], _, _, _, h, _, _, _ => by cases h
theorem Mem.three {f R X : Fact} {w : World} (hf : f.own = true) (_hR : R.own = false) (h : Mem w [f, R, X]) : f.p w ∧ R.p w ∧ X.p w ∧ (∀ k, f.D k → k < w.heap.size) ∧ (∀ k, R.D k → k < w.heap.size) ∧ (∀ k, X.D k → k < w.heap.size) ∧ (∀ k, f.D k → ¬ R.D k) ∧ (∀ k, f.D k → ¬ X.D k) ∧ (X.own = true → ∀ k, R.D k → ¬ X.D k) := by
  have h1 := List.pairwise_cons.1 h.sepf
  have h2 := List.pairwise_cons.1 h1.2
  exact ⟨h.fact f (by simp), h.fact R (by simp), h.fact X (by simp), h.flt f (by simp), h.flt R (by simp), h.flt X (by simp), h1.1 R (by simp) (.inl hf), h1.1 X (by simp) (.inl hf), fun q => h2.1 X (by simp) (.inr q)⟩
theorem round_sat {Fr : List Fact} {X : Fact} {ps : List (Nat × Obj)} (hst : Sta β n H F ps) (hFr : ∀ g ∈ Fr, g.own = false)
    (hm : Mem w [heldF β H F ps, readF Fr, X]) {n0 : Nat} (hn : n0 ≤ n) {bs : List Nat} (hbs : bs.length = n0) (hbi : ∀ i, i < n0 → β i = bs.getD i 0) {l : Nat} {r : Loop} (hl : (l, Obj.loop r) ∈ ps) (hps : β.pins = ps) (hmk : β.marks = []) :
    Sat (rcx cx w (Un (heldF β H F ps :: gv X)) l bs ps) β n H (X :: F ++ Fr) w := by
  obtain ⟨h1, h2, h3, h4, h5, h6, h7, h8, h9⟩ := hm.three rfl rfl
  have inS : ∀ k, (heldF β H F ps).D k → Un (heldF β H F ps :: gv X) k := fun k hk => ⟨_, List.mem_cons_self, hk⟩
  have hmemF : ∀ f ∈ X :: F ++ Fr, f = X ∨ f ∈ F ∨ f ∈ Fr := by
    intro f hf
    rcases List.mem_append.1 hf with hf | hf
    · rcases List.mem_cons.1 hf with rfl | hf
      · exact .inl rfl
      · exact .inr (.inl hf)
    · exact .inr (.inr hf)
  refine ⟨Chg.refl _ _, ⟨by show bs.length ≤ n; omega, fun i hi => hbi i (by rw [← hbs]; exact hi)⟩, h1.1, fun b hb => .inl (inS _ (.inl ⟨b, hb, rfl⟩)), hst.inj, hst.ltb, fun f hf => ?_, fun f hf k hk => ?_, fun f hf b hb q => ?_, fun f hf ho k hk => ?_, ?_, fun p hp => ?_, ⟨by rw [hmk]; exact List.nodup_nil, fun q hq => by rw [hmk] at hq; cases hq⟩, ⟨fun p hp => by rw [hps]; exact hp, fun l' hl' => ⟨hmk, r, by rw [hps]; obtain rfl : l = l' := Option.some.inj hl'; exact hl⟩⟩⟩
  · rcases hmemF f hf with rfl | hf | hf
    · exact h3
    · exact h1.2.1 f hf
    · exact h2 f hf
  · rcases hmemF f hf with rfl | hf | hf
    · exact h6 k hk
    · exact h4 k (.inr (.inl ⟨f, hf, hk⟩))
    · exact h5 k ⟨f, hf, hk⟩
  · rcases hmemF f hf with rfl | hf | hf
    · exact h8 _ (.inl ⟨b, hb, rfl⟩) q
    · exact hst.sepb f hf b hb q
    · exact h7 _ (.inl ⟨b, hb, rfl⟩) ⟨f, hf, q⟩
  · rcases hmemF f hf with rfl | hf | hf
    · exact .inl ⟨f, List.mem_cons_of_mem _ (by rw [gv_own ho]; exact List.mem_singleton.2 rfl), hk⟩
    · exact .inl (inS _ (.inr (.inl ⟨f, hf, hk⟩)))
    · rw [hFr f hf] at ho; cases ho
  · refine List.pairwise_append.2 ⟨List.pairwise_cons.2 ⟨fun g hg _ k hk hk' => h8 k (.inr (.inl ⟨g, hg, hk'⟩)) hk, hst.sepf⟩, ?_, fun f hf g hg ho k hk hk' => ?_⟩
    · refine List.pairwise_iff_getElem.2 fun i j hi hj _ ho => ?_
      rw [hFr _ (List.getElem_mem hi), hFr _ (List.getElem_mem hj)] at ho
      rcases ho with q | q <;> cases q
    · rcases List.mem_cons.1 hf with rfl | hf
      · rw [hFr g hg] at ho
        exact h9 (ho.resolve_right (by decide)) k ⟨g, hg, hk'⟩ hk
      · exact h7 k (.inr (.inl ⟨f, hf, hk⟩)) ⟨g, hg, hk'⟩
  · rw [hps] at hp
    refine ⟨h1.2.2 p hp, (hst.pinf p hp).1, fun f hf q => ?_⟩
    rcases hmemF f hf with rfl | hf | hf
    · exact h8 _ (.inr (.inr ⟨p, hp, rfl⟩)) q
    · exact (hst.pinf p hp).2 f hf q
    · exact h7 _ (.inr (.inr ⟨p, hp, rfl⟩)) ⟨f, hf, q⟩
theorem Sat.repin {W0 : World} {S : Nat → Prop} {l : Nat} {bs : List Nat} {o o' : Obj} {P0 : List (Nat × Obj)} (h : Sat (rcx cx W0 S l bs ((l, o) :: P0)) β n H F w) (ho' : o'.isCells = false) (hr : ∃ r, o' = Obj.loop r) (hP : ∀ p ∈ P0, p.1 ≠ l) (hS : S l) :
    Sat (rcx cx W0 S l bs ((l, o') :: P0)) ⟨β.b, (l, o') :: P0, []⟩ n H F (w.putObj l o') := by
  have hlp : (l, o) ∈ β.pins := h.rnd.1 _ List.mem_cons_self
  have hlf : ∀ f ∈ F, ¬ f.D l := (h.pin _ hlp).2.2
  have hll : l < w.heap.size := h.pinLt hlp
  have hoth : ∀ k, k ≠ l → (w.putObj l o').heap[k]? = w.heap[k]? := fun k hk => World.putObj_heap_other hk
  refine ⟨⟨h.chg.os, h.chg.tape, h.chg.output, by rw [World.putObj_size]; exact h.chg.size, fun k hk hs => ?_⟩, h.fix, fun b hb => ?_, h.mine, h.inj, h.ltb, fun f hf => ?_, fun f hf k hk => ?_, h.sepb, h.fown, h.sepf, fun p hp => ?_, ⟨List.nodup_nil, fun q hq => by cases hq⟩, ⟨fun p hp => hp, fun l' hl' => ⟨rfl, ?_⟩⟩⟩
  · rw [hoth k (fun q => hs (q ▸ hS))]; exact h.chg.same k hk hs
  · rw [hoth _ (h.pinBk hlp hb)]; exact h.blk b hb
  · exact f.st _ _ (fun k hk => hoth k (fun q => by subst q; exact hlf f hf hk)) (h.fact f hf)
  · rw [World.putObj_size]; exact h.flt f hf k hk
  · rcases List.mem_cons.1 hp with rfl | hp
    · exact ⟨World.putObj_heap_same hll, ho', hlf⟩
    · have := h.pin p (h.rnd.1 p (List.mem_cons_of_mem _ hp))
      exact ⟨by rw [hoth _ (hP p hp)]; exact this.1, this.2⟩
  · obtain ⟨r, rfl⟩ := hr
    obtain rfl : l = l' := Option.some.inj hl'
    exact ⟨r, List.mem_cons_self⟩
theorem round_end {W0 : World} {S : Nat → Prop} {l : Nat} {bs : List Nat} {o o' : Obj} {P0 : List (Nat × Obj)} (h : Sat (rcx cx W0 S l bs ((l, o) :: P0)) β n H F w) (hown : Owns F) (ho : ∃ r, o' = Obj.loop r) (hP : ∀ p ∈ P0, p.1 ≠ l) (hS : ∀ p ∈ (l, o) :: P0, S p.1) :
    Chg S W0 (w.putObj l o') ∧ (heldF β H F ((l, o') :: P0)).p (w.putObj l o') ∧ (∀ k, (heldF β H F ((l, o') :: P0)).D k → (S k ∨ W0.heap.size ≤ k) ∧ k < (w.putObj l o').heap.size) ∧ Sta β n H F ((l, o') :: P0) := by
  have h' := h.repin (by obtain ⟨r, rfl⟩ := ho; rfl) ho hP (hS _ List.mem_cons_self)
  refine ⟨h'.chg, ⟨h'.blk, h'.fact, fun p hp => (h'.pin p hp).1⟩, fun k hk => ?_, ⟨h.inj, h.ltb, h.sepb, h.sepf, hown, fun p hp => (h'.pin p hp).2⟩⟩
  rcases hk with ⟨b, hb, rfl⟩ | ⟨f, hf, hk⟩ | ⟨p, hp, rfl⟩
  · exact ⟨h'.mine b hb, h'.lt hb⟩
  · exact ⟨h'.fown f hf (hown.mem f hf) k hk, h'.flt f hf k hk⟩
  · refine ⟨.inl ?_, h'.pinLt hp⟩
    rcases List.mem_cons.1 hp with rfl | hp
    · exact hS (l, o) List.mem_cons_self
    · exact hS p (List.mem_cons_of_mem _ hp)
theorem range_end {β0 β' : Va} {H0 Hn : List Bk} {Gi Ri F0 Fr Fn Fs : List Fact} {w1 w2 : World} {l : Nat} {o o' o2 : Obj} {P0 : List (Nat × Obj)} {mks : List Nat} {n0 : Nat}
    (hs : Sat cx β0 n H0 (Gi ++ (Ri ++ (F0 ++ Fr))) w) (hGi : Owns Gi) (hF0 : Owns F0)
    (hc1 : Chg None_ w w1) (hl : w.heap.size ≤ l) (hP0 : ∀ p ∈ P0, w1.heap[p.1]? = some p.2 ∧ p.2.isCells = false ∧ p.1 ≠ l ∧ (p ∈ β0.pins ∨ w.heap.size ≤ p.1)) (hPb : ∀ p ∈ β0.pins, p ∈ P0)
    (hc2 : Chg (Un (heldF β0 H0 F0 ((l, o) :: P0) :: Gi)) w1 w2) (hm : Mem w2 (heldF β' Hn Fn ((l, o') :: P0) :: Fs))
    (hD : ∀ f ∈ heldF β' Hn Fn ((l, o') :: P0) :: Fs, ∀ k, f.D k → Un (heldF β0 H0 F0 ((l, o) :: P0) :: Gi) k ∨ w1.heap.size ≤ k) (hst : Sta β' n Hn Fn ((l, o') :: P0))
    (hn0 : cx.bs.length ≤ n0) (hag : ∀ i, i < n0 → β' i = β0 i) (hmk : mks.Nodup ∧ ∀ r ∈ mks, (r, Obj.deferred (some [])) ∈ P0 ∧ cx.W0.heap.size ≤ r) (hmr : ∀ l', cx.rnd = some l' → mks = []) :
    Sat cx ⟨β'.b, P0, mks⟩ n Hn (Fs ++ (Fn ++ Fr)) (w2.putObj l o2) := by
  obtain ⟨sG, sRest, cG⟩ := List.pairwise_append.1 hs.sepf
  obtain ⟨_, sRest2, _⟩ := List.pairwise_append.1 sRest
  obtain ⟨sF0, sFr, cF0⟩ := List.pairwise_append.1 sRest2
  have mG : ∀ g ∈ Gi, g ∈ Gi ++ (Ri ++ (F0 ++ Fr)) := fun g hg => by simp [hg]
  have mF0 : ∀ g ∈ F0, g ∈ Gi ++ (Ri ++ (F0 ++ Fr)) := fun g hg => by simp [hg]
  have mFr : ∀ g ∈ Fr, g ∈ Gi ++ (Ri ++ (F0 ++ Fr)) := fun g hg => by simp [hg]
  have hfp := hm.fact _ List.mem_cons_self
  obtain ⟨hfs, hfd⟩ := List.pairwise_cons.1 hm.sepf
  have hoth : ∀ k, k ≠ l → (w2.putObj l o2).heap[k]? = w2.heap[k]? := fun k hk => World.putObj_heap_other hk
  have hsz : w.heap.size ≤ w1.heap.size := hc1.size
  have D1 : ∀ k, Un (heldF β0 H0 F0 ((l, o) :: P0) :: Gi) k → (∃ b ∈ H0, β0 b.id = k) ∨ (∃ g ∈ F0, g.D k) ∨ k = l ∨ (∃ p ∈ P0, p.1 = k) ∨ (∃ g ∈ Gi, g.D k) := by
    rintro k ⟨g, hg, hk⟩
    rcases List.mem_cons.1 hg with rfl | hg
    · rcases hk with q | q | ⟨p, hp, q⟩
      · exact .inl q
      · exact .inr (.inl q)
      · rcases List.mem_cons.1 hp with rfl | hp
        · exact .inr (.inr (.inl q.symm))
        · exact .inr (.inr (.inr (.inl ⟨p, hp, q⟩)))
    · exact .inr (.inr (.inr (.inr ⟨g, hg, hk⟩)))
  have D2 : ∀ k, Un (heldF β0 H0 F0 ((l, o) :: P0) :: Gi) k ∨ w1.heap.size ≤ k → k ≠ l → (∀ p ∈ P0, p.1 ≠ k) → (cx.S k ∨ cx.W0.heap.size ≤ k) ∧ ∀ g ∈ Fr, ¬ g.D k := by
    intro k hk hkl hkp
    rcases hk with hk | hk
    · rcases D1 k hk with ⟨b, hb, rfl⟩ | ⟨g, hg, q⟩ | q | ⟨p, hp, q⟩ | ⟨g, hg, q⟩
      · exact ⟨hs.mine b hb, fun d hd => hs.sepb d (mFr d hd) b hb⟩
      · exact ⟨hs.fown g (mF0 g hg) (hF0.mem g hg) k q, fun d hd => cF0 g hg d hd (.inl (hF0.mem g hg)) k q⟩
      · exact (hkl q).elim
      · exact (hkp p hp q).elim
      · exact ⟨hs.fown g (mG g hg) (hGi.mem g hg) k q, fun d hd => cG g hg d (by simp [hd]) (.inl (hGi.mem g hg)) k q⟩
    · exact ⟨.inr (Nat.le_trans hs.chg.size (Nat.le_trans hsz hk)), fun d hd q => by have := hs.flt d (mFr d hd) k q; omega⟩
  have pinO : ∀ p ∈ ((l, o') :: P0), w2.heap[p.1]? = some p.2 ∧ p.2.isCells = false := fun p hp => ⟨hfp.2.2 p hp, (hst.pinf p hp).1⟩
  have bkNP : ∀ b ∈ Hn, β' b.id ≠ l ∧ ∀ p ∈ P0, p.1 ≠ β' b.id := by
    intro b hb
    have h1 := hfp.1 b hb
    have key : ∀ p ∈ ((l, o') :: P0), p.1 ≠ β' b.id := by
      intro p hp q
      have h2 := pinO p hp
      rw [q, h1] at h2
      have h3 := h2.2
      rw [← Option.some.inj h2.1] at h3
      cases h3
    exact ⟨fun q => key (l, o') List.mem_cons_self q.symm, fun p hp => key p (List.mem_cons_of_mem _ hp)⟩
  have fnNP : ∀ f ∈ Fn, ∀ k, f.D k → k ≠ l ∧ ∀ p ∈ P0, p.1 ≠ k := fun f hf k hk => ⟨fun q => (hst.pinf (l, o') List.mem_cons_self).2 f hf (q ▸ hk), fun p hp q => (hst.pinf p (List.mem_cons_of_mem _ hp)).2 f hf (q ▸ hk)⟩
  have fsNP : ∀ f ∈ Fs, ∀ k, f.D k → k ≠ l ∧ ∀ p ∈ P0, p.1 ≠ k := fun f hf k hk => ⟨fun q => hfs f hf (.inl rfl) k (.inr (.inr ⟨(l, o'), List.mem_cons_self, q.symm⟩)) hk, fun p hp q => hfs f hf (.inl rfl) k (.inr (.inr ⟨p, List.mem_cons_of_mem _ hp, q⟩)) hk⟩
  have bkD : ∀ b ∈ Hn, (cx.S (β' b.id) ∨ cx.W0.heap.size ≤ β' b.id) ∧ ∀ g ∈ Fr, ¬ g.D (β' b.id) := fun b hb => D2 _ (hD _ List.mem_cons_self _ (.inl ⟨b, hb, rfl⟩)) (bkNP b hb).1 (bkNP b hb).2
  have fnD : ∀ f ∈ Fn, ∀ k, f.D k → (cx.S k ∨ cx.W0.heap.size ≤ k) ∧ ∀ g ∈ Fr, ¬ g.D k := fun f hf k hk => D2 _ (hD _ List.mem_cons_self _ (.inr (.inl ⟨f, hf, hk⟩))) (fnNP f hf k hk).1 (fnNP f hf k hk).2
  have fsD : ∀ f ∈ Fs, ∀ k, f.D k → (cx.S k ∨ cx.W0.heap.size ≤ k) ∧ ∀ g ∈ Fr, ¬ g.D k := fun f hf k hk => D2 _ (hD _ (List.mem_cons_of_mem _ hf) _ hk) (fsNP f hf k hk).1 (fsNP f hf k hk).2
  have frl : ∀ g ∈ Fr, ∀ k, g.D k → k < w.heap.size := fun g hg => hs.flt g (mFr g hg)
  have frNU : ∀ g ∈ Fr, ∀ k, g.D k → ¬ Un (heldF β0 H0 F0 ((l, o) :: P0) :: Gi) k := by
    intro g hg k hk q
    by_cases hkl : k = l
    · have := frl g hg k hk; omega
    by_cases hkp : ∀ p ∈ P0, p.1 ≠ k
    · exact (D2 k (.inl q) hkl hkp).2 g hg hk
    · simp only [Classical.not_forall, Decidable.not_not] at hkp
      obtain ⟨p, hp, rfl⟩ := hkp
      rcases (hP0 p hp).2.2.2 with q2 | q2
      · exact (hs.pin p q2).2.2 g (mFr g hg) hk
      · have := frl g hg _ hk; omega
  have cases3 : ∀ f ∈ Fs ++ (Fn ++ Fr), f ∈ Fs ∨ f ∈ Fn ∨ f ∈ Fr := fun f hf => by
    rcases List.mem_append.1 hf with q | q
    · exact .inl q
    · exact .inr (List.mem_append.1 q)
  refine ⟨?_, ⟨hs.fix.1, fun i hi => (hag i (Nat.lt_of_lt_of_le hi hn0)).trans (hs.fix.2 i hi)⟩, fun b hb => ?_, fun b hb => (bkD b hb).1, hst.inj, hst.ltb, fun f hf => ?_, fun f hf k hk => ?_, fun f hf b hb q => ?_, fun f hf ho k hk => ?_, ?_, fun p hp => ⟨?_, (hP0 p hp).2.1, fun f hf q => ?_⟩, hmk,
    ⟨fun p hp => hPb p (hs.rnd.1 p hp), fun l' hl' => ⟨hmr l' hl', by obtain ⟨r, hr⟩ := (hs.rnd.2 l' hl').2; exact ⟨r, hPb _ hr⟩⟩⟩⟩
  · refine ⟨hc2.os.trans (hc1.os.trans hs.chg.os), hc2.tape.trans (hc1.tape.trans hs.chg.tape), hc2.output.trans (hc1.output.trans hs.chg.output), ?_, fun k hk hns => ?_⟩
    · rw [World.putObj_size]; exact Nat.le_trans hs.chg.size (Nat.le_trans hsz hc2.size)
    · have hkw : k < w.heap.size := Nat.lt_of_lt_of_le hk hs.chg.size
      have hkl : k ≠ l := by omega
      rw [hoth k hkl]
      have e1 : w1.heap[k]? = cx.W0.heap[k]? := (hc1.same k hkw (fun q => q)).trans (hs.chg.same k hk hns)
      by_cases hU : Un (heldF β0 H0 F0 ((l, o) :: P0) :: Gi) k
      · by_cases hkp : ∀ p ∈ P0, p.1 ≠ k
        · rcases (D2 k (.inl hU) hkl hkp).1 with q | q
          · exact (hns q).elim
          · omega
        · simp only [Classical.not_forall, Decidable.not_not] at hkp
          obtain ⟨p, hp, rfl⟩ := hkp
          rw [(pinO p (List.mem_cons_of_mem _ hp)).1, ← e1, (hP0 p hp).1]
      · rw [hc2.same k (by omega) hU, e1]
  · rw [hoth _ (bkNP b hb).1]; exact hfp.1 b hb
  · rcases cases3 f hf with hf | hf | hf
    · exact f.st _ _ (fun k hk => hoth k (fsNP f hf k hk).1) (hm.fact f (List.mem_cons_of_mem _ hf))
    · exact f.st _ _ (fun k hk => hoth k (fnNP f hf k hk).1) (hfp.2.1 f hf)
    · refine f.st _ _ (fun k hk => ?_) (hs.fact f (mFr f hf))
      have := frl f hf k hk
      rw [hoth k (by omega), hc2.same k (by omega) (frNU f hf k hk), hc1.same k this (fun q => q)]
  · rw [World.putObj_size]
    rcases cases3 f hf with hf | hf | hf
    · exact hm.flt f (List.mem_cons_of_mem _ hf) k hk
    · exact hm.flt _ List.mem_cons_self k (.inr (.inl ⟨f, hf, hk⟩))
    · exact Nat.lt_of_lt_of_le (frl f hf k hk) (Nat.le_trans hsz hc2.size)
  · rcases cases3 f hf with hf | hf | hf
    · exact hfs f hf (.inl rfl) _ (.inl ⟨b, hb, rfl⟩) q
    · exact hst.sepb f hf b hb q
    · exact (bkD b hb).2 f hf q
  · rcases cases3 f hf with hf | hf | hf
    · exact (fsD f hf k hk).1
    · exact (fnD f hf k hk).1
    · exact hs.fown f (mFr f hf) ho k hk
  · refine List.pairwise_append.2 ⟨hfd, List.pairwise_append.2 ⟨hst.sepf, sFr, fun f hf g hg _ k hk => (fnD f hf k hk).2 g hg⟩, fun f hf g hg ho k hk hk' => ?_⟩
    rcases List.mem_append.1 hg with hg | hg
    · exact hfs f hf (.inl rfl) k (.inr (.inl ⟨g, hg, hk'⟩)) hk
    · exact (fsD f hf k hk).2 g hg hk'
  · rw [hoth _ (hP0 p hp).2.2.1]; exact (pinO p (List.mem_cons_of_mem _ hp)).1
  · rcases cases3 f hf with hf | hf | hf
    · exact (fsNP f hf _ q).2 p hp rfl
    · exact (fnNP f hf _ q).2 p hp rfl
    · rcases (hP0 p hp).2.2.2 with q2 | q2
      · exact (hs.pin p q2).2.2 f (mFr f hf) q
      · have := frl f hf _ q; omega
theorem SL.val_eqb {β β' : Va} (h : β.b = β'.b) (x : SL) : x.val β = x.val β' := by
  cases x with
  | v x => rfl
  | p id o => simp only [SL.val, h]
theorem SV.val_eqb {β β' : Va} (h : β.b = β'.b) (s : SV) : s.val β = s.val β' := by
  have : SL.val β = SL.val β' := funext (SL.val_eqb h)
  cases s <;> simp only [SV.val, this]
theorem callable_run {P : Program} {k : FuncId} (hcall : callable P k = true) (args : Array Value) (w : World) : (callFunc k args).run P w = .ok (.enter k args) w := by
  unfold callable at hcall
  cases hq : P.funcs[k]? with
  | none => rw [hq] at hcall; cases hcall
  | some fn =>
    rw [hq] at hcall
    simp only [Bool.and_eq_true, Bool.not_eq_true'] at hcall
    obtain ⟨hb, hn⟩ := hcall
    have hn' : ¬ fn.name = "runtime.NumGoroutine" := by simpa using hn
    have hb' : ¬ fn.body = none := by intro q; rw [q] at hb; cases hb
    simp [callFunc, hq, hn', hb']
theorem enter_loop (h : Sat cx β n H F w) (fn : FuncId) (tmps : Array Value) (ps : Array Tmp) (assign body : Code) :
    ∃ (l : Nat) (mk : List Nat) (w1 : World) (d : Nat) (newp : List (Nat × Obj)), (Instr.enterLoop fn tmps ps assign body cx.rnd).run cx.P w = .ok (l, mk.map (fun r => { target := .collected r, args := #[] })) w1 ∧ Chg None_ w w1 ∧ w.heap.size ≤ l ∧
      w1.heap[l]? = some (.loop { state := .ready, pending := none, fn, tmps, params := ps, assign, body, defers := d }) ∧ (∀ p ∈ newp, w1.heap[p.1]? = some p.2 ∧ p.2.isCells = false ∧ p.1 ≠ l ∧ w.heap.size ≤ p.1) ∧
      mk.Nodup ∧ (∀ r ∈ mk, (r, Obj.deferred (some [])) ∈ newp ∧ w.heap.size ≤ r) ∧ (∀ l', cx.rnd = some l' → mk = []) := by
  cases hr : cx.rnd with
  | none =>
    refine ⟨w.heap.size + 1, [w.heap.size], _, w.heap.size, [(w.heap.size, .deferred (some []))], run_enterLoop_outer fn tmps ps assign body, ?_, by omega, ?_, fun p hp => ?_, by simp, fun r hr' => ?_, fun l' hl' => by cases hl'⟩
    · exact Chg.trans (S := None_) (T := None_) (U := None_) (Chg.alloc w _) (Chg.alloc _ _) (fun _ _ q => q) (fun _ _ q => q)
    · have := World.alloc_heap_new (w.alloc (.deferred (some []))) (.loop { state := .ready, pending := none, fn, tmps, params := ps, assign, body, defers := w.heap.size }); rwa [World.size_alloc] at this
    · obtain rfl := List.mem_singleton.1 hp
      exact ⟨(RowKit.Below.heap_alloc _ _ _ (by simp)).trans (World.alloc_heap_new w _), rfl, by simp, Nat.le_refl _⟩
    · obtain rfl := List.mem_singleton.1 hr'
      exact ⟨List.mem_singleton.2 rfl, Nat.le_refl _⟩
  | some l0 =>
    obtain ⟨r0, hr0⟩ := (h.rnd.2 l0 hr).2
    refine ⟨w.heap.size, [], _, r0.defers, [], run_enterLoop_inner (h.pin _ hr0).1 fn tmps ps assign body, Chg.alloc w _, Nat.le_refl _, World.alloc_heap_new w _, (fun p hp => by cases hp), List.nodup_nil, (fun r hr' => by cases hr'), fun _ _ => rfl⟩
def RoundQ {α ι κ : Type} (cx : Cx) (n' : Nat) (Pre : List α → ι → Prop) (HH : ι → List Bk) (FF : ι → List Fact) (Stp : Exit → List α → κ → Prop) (HX : κ → List Bk) (FX : κ → List Fact) (pre : List α) : Exit → KT
  | .normal => fun m env H F => ∃ j, Pre pre j ∧ Ent cx m env H F n' [] (HH j) (FF j)
  | .ret => fun m env H F => ∃ j, Stp .ret pre j ∧ Ent cx m env H F n' [] (HX j) (FX j)
  | .exit id => fun m env H F => ∃ j, Stp (.exit id) pre j ∧ Ent cx m env H F n' [] (HX j) (FX j)
  | _ => fun _ _ _ _ => False
theorem range_ruleP {α ι κ : Type} (g : Good cx) {fo : Operand} {ps : Array Tmp} {assign body : Code} {Q : Exit → KT} {k : FuncId} {cv : List Value} {sv : SV}
    (hsv : ev env fo = some sv) (hfn : fnOf sv = some (k, [], cv.map SL.v)) (hcall : callable cx.P k = true) (n' : Nat) (hn' : n ≤ n')
    (Pre : List α → ι → Prop) (HH : ι → List Bk) (FF : ι → List Fact) (hFF : ∀ i, Owns (FF i))
    (Stp : Exit → List α → κ → Prop) (HX : κ → List Bk) (FX : κ → List Fact) (hFX : ∀ j, Owns (FX j))
    (Gi Ri Fr : List Fact) (hGi : Owns Gi) (hFr : ∀ g ∈ Fr, g.own = false)
    (i0 : ι) (h0 : Pre [] i0) (hent : ∀ β w, Sat cx β n H F w → ∃ β', Agr n β β' ∧ Sat cx β' n' (HH i0) (Gi ++ (Ri ++ (FF i0 ++ Fr))) w)
    (ins : List α → α → Array Value → Fact → Prop) (Done Stopd : List α → List Fact → Prop)
    (hit : ∀ (l : Nat) (w : World) (f0 R : Fact) (J Jx : List α → Fact → Prop), J [] f0 → (∀ pre f, J pre f → f.own = true) → R.own = false → Yc cx.P l J Jx R ins → (∀ pre f, J pre f → ∃ i, Pre pre i) → Mem w (f0 :: R :: (Gi ++ Ri)) →
      Con cx.P k (#[Value.func (.yield l) #[] #[]] ++ cv.toArray) w (f0 :: Gi) (fun _ Fs => ∃ f Fs', Fs = f :: Fs' ∧ ((∃ xs, J xs f ∧ Done xs Fs') ∨ (∃ pre, Jx pre f ∧ Stopd pre Fs'))))
    (hround : ∀ (i : ι) (pre : List α) (x : α) (args : Array Value) (X : Fact) (W : World) (S : Nat → Prop) (l : Nat) (bs : List Nat) (pn pn' : List (Nat × Obj)), bs.length ≤ n' → Pre pre i → ins pre x args X → ∃ er, bindP cx.N ps.toList args.toList env = some er ∧
      cwp (rcx cx W S l bs pn) assign (norm (cwp (rcx cx W S l bs pn') body (RoundQ (rcx cx W S l bs pn') n' Pre HH FF Stp HX FX (pre ++ [x])))) n' er (HH i) (X :: FF i ++ Fr))
    (hdone : ∀ xs i Fs, Pre xs i → Done xs Fs → Q .normal n' env (HH i) (Fs ++ (FF i ++ Fr)))
    (hstop : ∀ e pre j Fs, Stp e pre j → Stopd pre Fs → Q e n' env (HX j) (Fs ++ (FX j ++ Fr))) :
    Tri cx (.rangeFunc fo ps assign body) Q n env H F := by
  refine ⟨fun β a w hi => ?_⟩
  obtain ⟨β0, hag0, hs0⟩ := hent β w hi.sat
  obtain ⟨hev, _⟩ := hi.ev hsv
  have hval : a.eval fo = .func (.func k) #[] cv.toArray := by
    rw [hev]
    unfold fnOf at hfn
    split at hfn
    · simp only [Option.some.injEq, Prod.mk.injEq, List.map_eq_nil_iff, Array.toList_eq_nil_iff] at hfn
      obtain ⟨rfl, rfl, h3⟩ := hfn
      have : _ = cv := (List.map_inj_right (f := SL.v) (fun x y q => by injection q)).1 h3
      simp only [SV.val, SL.val, ← this]
    · simp only [Option.some.injEq, Prod.mk.injEq] at hfn
      obtain ⟨rfl, rfl, rfl⟩ := hfn
      simp [SV.val, SL.val, Function.comp_def]
    · cases hfn
  refine wpIn_rangeFunc fun fn _ => ?_
  rw [cx.fence_round]
  obtain ⟨l, mk, w1, dd, newp, hrun, hc1, hll, hrec, hnewp, hmk1, hmk2, hmk3⟩ := enter_loop hs0 fn a.tmps ps assign body
  obtain ⟨rec, hrecD⟩ : ∃ rec : LoopState → Option Code → Loop, rec = fun st pe => { state := st, pending := pe, fn, tmps := a.tmps, params := ps, assign, body, defers := dd } := ⟨_, rfl⟩
  have hrec' : w1.heap[l]? = some (.loop (rec .ready none)) := by rw [hrecD]; exact hrec
  obtain ⟨P0, hP0D⟩ : ∃ P0, P0 = newp ++ β0.pins := ⟨_, rfl⟩
  have hP0 : ∀ p ∈ P0, w1.heap[p.1]? = some p.2 ∧ p.2.isCells = false ∧ p.1 ≠ l ∧ (p ∈ β0.pins ∨ w.heap.size ≤ p.1) := by
    intro p hp
    rw [hP0D] at hp
    rcases List.mem_append.1 hp with hp | hp
    · exact ⟨(hnewp p hp).1, (hnewp p hp).2.1, (hnewp p hp).2.2.1, .inr (hnewp p hp).2.2.2⟩
    · have := hs0.pinLt hp
      exact ⟨by rw [hc1.same _ this (fun q => q)]; exact (hs0.pin p hp).1, (hs0.pin p hp).2.1, by omega, .inl hp⟩
  have hPb : ∀ p ∈ β0.pins, p ∈ P0 := fun p hp => by rw [hP0D]; exact List.mem_append_right _ hp
  have hPl : ∀ p ∈ P0, p.1 ≠ l := fun p hp => (hP0 p hp).2.2.1
  -- what the rounds own, at each of their ends
  let J : List α → Fact → Prop := fun pre f => ∃ (i : ι) (β' : Va), Pre pre i ∧ (∀ q, q < n → β' q = β0 q) ∧ Sta β' n' (HH i) (FF i) ((l, .loop (rec .ready none)) :: P0) ∧ f = heldF β' (HH i) (FF i) ((l, .loop (rec .ready none)) :: P0)
  let Jx : List α → Fact → Prop := fun pre f => ∃ (e : Exit) (c : Code) (j : κ) (β' : Va), jumpOf e = some c ∧ Stp e pre j ∧ (∀ q, q < n → β' q = β0 q) ∧ Sta β' n' (HX j) (FX j) ((l, .loop (rec .done (some c))) :: P0) ∧ f = heldF β' (HX j) (FX j) ((l, .loop (rec .done (some c))) :: P0)
  have mF0 : ∀ f ∈ FF i0, f ∈ Gi ++ (Ri ++ (FF i0 ++ Fr)) := fun f hf => by simp [hf]
  have mFr : ∀ f ∈ Fr, f ∈ Gi ++ (Ri ++ (FF i0 ++ Fr)) := fun f hf => by simp [hf]
  have mGR : ∀ f ∈ Gi ++ Ri, f ∈ Gi ++ (Ri ++ (FF i0 ++ Fr)) := fun f hf => by rcases List.mem_append.1 hf with q | q <;> simp [q]
  have hsz : w.heap.size ≤ w1.heap.size := hc1.size
  have hpinf : ∀ f ∈ Gi ++ (Ri ++ (FF i0 ++ Fr)), ∀ p ∈ ((l, Obj.loop (rec .ready none)) :: P0), ¬ f.D p.1 := by
    intro f hf p hp q
    rcases List.mem_cons.1 hp with rfl | hp
    · have := hs0.flt f hf l q; omega
    · rcases (hP0 p hp).2.2.2 with q2 | q2
      · exact (hs0.pin p q2).2.2 f hf q
      · have := hs0.flt f hf _ q; omega
  have hsta0 : Sta β0 n' (HH i0) (FF i0) ((l, .loop (rec .ready none)) :: P0) := by
    refine ⟨hs0.inj, hs0.ltb, fun f hf => hs0.sepb f (mF0 f hf), ?_, hFF i0, fun p hp => ⟨?_, fun f hf => hpinf f (mF0 f hf) p hp⟩⟩
    · exact (List.pairwise_append.1 (List.pairwise_append.1 (List.pairwise_append.1 hs0.sepf).2.1).2.1).1
    · rcases List.mem_cons.1 hp with rfl | hp
      · rfl
      · exact (hP0 p hp).2.1
  have hsat1 := hs0.same hc1
  have hmem1 : Mem w1 (heldF β0 (HH i0) (FF i0) ((l, .loop (rec .ready none)) :: P0) :: readF Fr :: (Gi ++ Ri)) := by
    obtain ⟨sG, sRest, cG⟩ := List.pairwise_append.1 hs0.sepf
    obtain ⟨sR, sRest2, cR⟩ := List.pairwise_append.1 sRest
    obtain ⟨_, _, cF0⟩ := List.pairwise_append.1 sRest2
    have dsep : ∀ d ∈ Gi ++ (Ri ++ Fr), ∀ q, (heldF β0 (HH i0) (FF i0) ((l, .loop (rec .ready none)) :: P0)).D q → ¬ d.D q := by
      intro d hd q hq hdq
      have hdm : d ∈ Gi ++ (Ri ++ (FF i0 ++ Fr)) := by
        rcases List.mem_append.1 hd with x | x
        · simp [x]
        · rcases List.mem_append.1 x with x | x <;> simp [x]
      rcases hq with ⟨b, hb, rfl⟩ | ⟨f, hf, hk⟩ | ⟨p, hp, rfl⟩
      · exact hs0.sepb d hdm b hb hdq
      · rcases List.mem_append.1 hd with x | x
        · exact cG d x f (by simp [hf]) (.inr ((hFF i0).mem f hf)) q hdq hk
        · rcases List.mem_append.1 x with x | x
          · exact cR d x f (by simp [hf]) (.inr ((hFF i0).mem f hf)) q hdq hk
          · exact cF0 f hf d x (.inl ((hFF i0).mem f hf)) q hk hdq
      · exact hpinf d hdm p hp hdq
    refine ⟨fun f hf => ?_, fun f hf q hq => ?_, List.pairwise_cons.2 ⟨fun d hd _ q hq => ?_, List.pairwise_cons.2 ⟨fun d hd ho q hq hdq => ?_, ?_⟩⟩⟩
    · rcases List.mem_cons.1 hf with rfl | hf
      · refine ⟨hsat1.blk, fun f hf => hsat1.fact f (mF0 f hf), fun p hp => ?_⟩
        rcases List.mem_cons.1 hp with rfl | hp
        · exact hrec'
        · exact (hP0 p hp).1
      · rcases List.mem_cons.1 hf with rfl | hf
        · exact fun f hf => hsat1.fact f (mFr f hf)
        · exact hsat1.fact f (mGR f hf)
    · rcases List.mem_cons.1 hf with rfl | hf
      · rcases hq with ⟨b, hb, rfl⟩ | ⟨f, hf, hk⟩ | ⟨p, hp, rfl⟩
        · exact hsat1.lt hb
        · exact hsat1.flt f (mF0 f hf) q hk
        · rcases List.mem_cons.1 hp with rfl | hp
          · exact (Array.getElem?_eq_some_iff.1 hrec').1
          · exact (Array.getElem?_eq_some_iff.1 (hP0 p hp).1).1
      · rcases List.mem_cons.1 hf with rfl | hf
        · obtain ⟨f, hf, hk⟩ := hq; exact hsat1.flt f (mFr f hf) q hk
        · exact hsat1.flt f (mGR f hf) q hq
    · rcases List.mem_cons.1 hd with rfl | hd
      · rintro ⟨d', hd', hk⟩
        exact dsep d' (by simp [hd']) q hq hk
      · refine dsep d ?_ q hq
        rcases List.mem_append.1 hd with x | x <;> simp [x]
    · obtain ⟨d', hd', hk⟩ := hq
      have hdo : d.own = true := ho.resolve_left (by simp [readF])
      rcases List.mem_append.1 hd with x | x
      · exact cG d x d' (by simp [hd']) (.inl hdo) q hdq hk
      · exact cR d x d' (by simp [hd']) (.inl hdo) q hdq hk
    · refine List.pairwise_append.2 ⟨sG, sR, fun f hf d hd => cG f hf d (by simp [hd])⟩
  -- one round
  have hY : Yc cx.P l J Jx (readF Fr) ins := by
    rintro pre x f wy args X ⟨i, β', hpre, hagb, hsta, rfl⟩ hm hx
    obtain ⟨hf1, _, _, hf4, _⟩ := hm.three rfl rfl
    have hlrec := hf1.2.2 _ List.mem_cons_self
    simp only at hlrec
    have hps' := hround i pre x args X wy (Un (heldF β' (HH i) (FF i) ((l, .loop (rec .ready none)) :: P0) :: gv X)) l ((List.range n).map β0) ((l, .loop (rec .ready none)) :: P0) ((l, .loop (rec .busy none)) :: P0) (by simpa using hn') hpre hx
    obtain ⟨er, hbind, hcwp⟩ := hps'
    have hszt : a.tmps.size = cx.N := hi.size
    have hagA : ∀ t s, get env t = some s → a.tmps[t]? = some (s.val (⟨β'.b, ((l, .loop (rec .ready none)) :: P0), []⟩ : Va)) := by
      intro t s ht
      rw [hi.ag t s ht]
      congr 1
      have h1 : s.val β0 = s.val β := SV.val_congr hag0 (hi.lte t s ht)
      have h2 : s.val (⟨β'.b, ((l, .loop (rec .ready none)) :: P0), []⟩ : Va) = s.val (⟨β0.b, ((l, .loop (rec .ready none)) :: P0), []⟩ : Va) := SV.val_congr (n := n) (β := (⟨β0.b, ((l, .loop (rec .ready none)) :: P0), []⟩ : Va)) (β' := (⟨β'.b, ((l, .loop (rec .ready none)) :: P0), []⟩ : Va)) ⟨rfl, rfl, hagb⟩ (hi.lte t s ht)
      have h3 : s.val (⟨β0.b, ((l, .loop (rec .ready none)) :: P0), []⟩ : Va) = s.val β0 := SV.val_eqb rfl s
      rw [← h1, ← h3, ← h2]
    have hb4 := bindP_ag (n := n') ps.toList args.toList env er a.tmps hbind hszt hagA (fun t s ht => SV.lt_mono hn' (hi.lte t s ht))
    have hasz : args.size = ps.size := by have := hb4.2.2.2; simpa using this.symm
    refine ⟨fn, (ps.zip args).foldl (fun tmps (t, v) => tmps.setIfInBounds t v) a.tmps, assign, body, ?_, ?_⟩
    · have := run_yield (P := cx.P) (args := args) hlrec (by rw [hrecD]; exact hasz)
      rw [hrecD] at this
      exact this
    · have hfence : ∀ pn, (rcx cx wy (Un (heldF β' (HH i) (FF i) ((l, .loop (rec .ready none)) :: P0) :: gv X)) l ((List.range n).map β0) pn).fence = Fence.wide.inRound l := fun _ => rfl
      refine roundIn_of_wpIn trivial ?_
      have hsat : Sat (rcx cx wy (Un (heldF β' (HH i) (FF i) ((l, .loop (rec .ready none)) :: P0) :: gv X)) l ((List.range n).map β0) ((l, .loop (rec .ready none)) :: P0)) ⟨β'.b, ((l, .loop (rec .ready none)) :: P0), []⟩ n' (HH i) (X :: FF i ++ Fr) wy :=
        round_sat (β := ⟨β'.b, ((l, .loop (rec .ready none)) :: P0), []⟩) ⟨hsta.inj, hsta.ltb, hsta.sepb, hsta.sepf, hsta.own, hsta.pinf⟩ hFr hm hn' (by simp) (fun q hq => by simp [hq, hagb q hq]) List.mem_cons_self rfl rfl
      have hw1 := (cwp_sound (rcx_good g) _ _ _ _ _ _ hcwp).run ⟨β'.b, ((l, .loop (rec .ready none)) :: P0), []⟩ { tmps := (ps.toList.zip args.toList).foldl (fun t (q : Tmp × Value) => t.setIfInBounds q.1 q.2) a.tmps, defers := [] } wy ⟨hb4.2.1, hb4.1, rfl, hb4.2.2.1, hsat⟩
      rw [hfence] at hw1
      have htmp : (ps.zip args).foldl (fun tmps (t, v) => tmps.setIfInBounds t v) a.tmps = (ps.toList.zip args.toList).foldl (fun t (q : Tmp × Value) => t.setIfInBounds q.1 q.2) a.tmps := by
        rw [← Array.foldl_toList, Array.toList_zip]
      rw [htmp]
      refine wpIn_mono hw1 fun e a1 wa hq => ?_
      cases e with
      | normal =>
        obtain ⟨β1, n1, env1, H1, F1, hi1, hq1⟩ := hq
        have hl1 := (hi1.sat.pin _ (hi1.sat.rnd.1 _ List.mem_cons_self)).1
        simp only at hl1
        refine ⟨_, run_beginRound hl1 (by rw [hrecD]), ?_⟩
        have hSl : Un (heldF β' (HH i) (FF i) ((l, .loop (rec .ready none)) :: P0) :: gv X) l := ⟨_, List.mem_cons_self, .inr (.inr ⟨_, List.mem_cons_self, rfl⟩)⟩
        have hs2 := hi1.sat.repin (o' := .loop (rec .busy none)) rfl ⟨_, rfl⟩ hPl hSl
        have hi2 : Inv (rcx cx wy (Un (heldF β' (HH i) (FF i) ((l, .loop (rec .ready none)) :: P0) :: gv X)) l ((List.range n).map β0) ((l, .loop (rec .busy none)) :: P0)) ⟨β1.b, ((l, .loop (rec .busy none)) :: P0), []⟩ n1 env1 H1 F1 a1 (wa.putObj l (.loop (rec .busy none))) := by
          refine ⟨fun t s ht => ?_, hi1.size, ?_, hi1.lte, hs2⟩
          · rw [hi1.ag t s ht]
            congr 1
          · have := hi1.df
            rw [(hi1.sat.rnd.2 l rfl).1] at this
            exact this
        have hrb : ({ rec .ready none with state := .busy } : Loop) = rec .busy none := by rw [hrecD]
        rw [hrb]
        have hw2 := (cwp_sound (rcx_good g) _ _ _ _ _ _ hq1).run _ _ _ hi2
        rw [hfence] at hw2
        refine wpIn_mono hw2 fun e2 a2 wb hq2 => ?_
        have hSp : ∀ p ∈ (l, Obj.loop (rec .busy none)) :: P0, Un (heldF β' (HH i) (FF i) ((l, .loop (rec .ready none)) :: P0) :: gv X) p.1 := by
          intro p hp
          rcases List.mem_cons.1 hp with rfl | hp
          · exact hSl
          · exact ⟨_, List.mem_cons_self, .inr (.inr ⟨p, List.mem_cons_of_mem _ hp, rfl⟩)⟩
        have stopx : ∀ (e : Exit) (c : Code), jumpOf e = some c → After (rcx cx wy (Un (heldF β' (HH i) (FF i) ((l, .loop (rec .ready none)) :: P0) :: gv X)) l ((List.range n).map β0) ((l, .loop (rec .busy none)) :: P0)) (fun m env H F => ∃ j, Stp e (pre ++ [x]) j ∧ Ent (rcx cx wy (Un (heldF β' (HH i) (FF i) ((l, .loop (rec .ready none)) :: P0) :: gv X)) l ((List.range n).map β0) ((l, .loop (rec .busy none)) :: P0)) m env H F n' [] (HX j) (FX j)) a2 wb →
            ∃ v w4, (Instr.endRound l (some c)).run cx.P wb = .ok v w4 ∧ ∃ u, Ending.returned v = .returned u ∧ ∃ f', Chg (Un (heldF β' (HH i) (FF i) ((l, .loop (rec .ready none)) :: P0) :: gv X)) wy w4 ∧ f'.own = true ∧ f'.p w4 ∧ (∀ k, f'.D k → (Un (heldF β' (HH i) (FF i) ((l, .loop (rec .ready none)) :: P0) :: gv X) k ∨ wy.heap.size ≤ k) ∧ k < w4.heap.size) ∧ ((u = .bool true ∧ J (pre ++ [x]) f') ∨ (u = .bool false ∧ Jx (pre ++ [x]) f')) := by
          rintro e c hc ⟨β2, n2, env2, H2, F2, hi3, j, hst, hentj⟩
          obtain ⟨β3, _, _, hi4⟩ := hentj.run β2 a2 wb hi3
          have hl3 := (hi4.sat.pin _ (hi4.sat.rnd.1 _ List.mem_cons_self)).1
          simp only at hl3
          have her := run_endRound (P := cx.P) (some c) hl3
          simp only [Option.isNone_some, Bool.false_eq_true, if_false] at her
          have hrd : ({ rec .busy none with state := .done, pending := some c } : Loop) = rec .done (some c) := by rw [hrecD]
          rw [hrd] at her
          obtain ⟨q1, q2, q3, q4⟩ := round_end hi4.sat (hFX j) (o' := .loop (rec .done (some c))) ⟨_, rfl⟩ hPl hSp
          refine ⟨_, _, her, _, rfl, _, q1, rfl, q2, q3, .inr ⟨rfl, e, c, j, β3, hc, hst, fun q hq => ?_, q4, rfl⟩⟩
          have := hi4.sat.fix.2 q (by simpa [rcx] using hq)
          rw [this]
          simp [rcx, hq]
        cases e2 with
        | normal =>
          obtain ⟨β2, n2, env2, H2, F2, hi3, j, hst, hentj⟩ := hq2
          obtain ⟨β3, _, _, hi4⟩ := hentj.run β2 a2 wb hi3
          have hl3 := (hi4.sat.pin _ (hi4.sat.rnd.1 _ List.mem_cons_self)).1
          simp only at hl3
          have her := run_endRound (P := cx.P) none hl3
          simp only [Option.isNone_none, if_true] at her
          have hrd : ({ rec .busy none with state := .ready, pending := none } : Loop) = rec .ready none := by rw [hrecD]
          rw [hrd] at her
          obtain ⟨q1, q2, q3, q4⟩ := round_end hi4.sat (hFF j) (o' := .loop (rec .ready none)) ⟨_, rfl⟩ hPl hSp
          refine ⟨_, _, her, _, rfl, _, q1, rfl, q2, q3, .inl ⟨rfl, j, β3, hst, fun q hq => ?_, q4, rfl⟩⟩
          have := hi4.sat.fix.2 q (by simpa [rcx] using hq)
          rw [this]
          simp [rcx, hq]
        | ret => exact stopx .ret .ret rfl hq2
        | exit id => exact stopx (.exit id) (.exit id) rfl hq2
        | goto t => obtain ⟨_, _, _, _, _, _, q⟩ := hq2; exact q.elim
        | panic c => exact hq2.elim
        | outgrown => exact hq2.elim
      | ret => obtain ⟨_, _, _, _, _, _, q⟩ := hq; exact q.elim
      | exit id => obtain ⟨_, _, _, _, _, _, q⟩ := hq; exact q.elim
      | goto t => obtain ⟨_, _, _, _, _, _, q⟩ := hq; exact q.elim
      | panic c => exact hq.elim
      | outgrown => exact hq.elim
  have hcon := hit l w1 _ (readF Fr) J Jx ⟨i0, β0, h0, fun _ _ => rfl, hsta0, rfl⟩ (fun pre f ⟨_, _, _, _, _, e⟩ => by rw [e]; rfl) rfl hY (fun pre f ⟨i, _, h, _⟩ => ⟨i, h⟩) hmem1
  refine ⟨l, _, w1, { target := .fn (.func k) cv.toArray, args := #[.func (.yield l) #[] #[]] }, w1, k, #[.func (.yield l) #[] #[]] ++ cv.toArray, w1, hrun, ?_, fun f' _ => cx.fence_fn f', ?_, fun q => (by rw [cx.fence_depth] at q; cases q), ?_⟩
  · simp only [resolve, hval]
    simp [go_sem]
  · simp [invoke, go_sem, callable_run hcall]
  · refine CallsIn.mono (callsIn_fence cx (callsIn_wide (n := 0 - 1).2 hcon)) fun e w2 hq => ?_
    obtain ⟨v, rfl, Fs, ⟨f, Fs', rfl, hJ⟩, hch, hm2, hown2, hD2⟩ := hq
    have hmks : (mk ++ β0.marks).Nodup ∧ ∀ r ∈ mk ++ β0.marks, (r, Obj.deferred (some [])) ∈ P0 ∧ cx.W0.heap.size ≤ r := by
      refine ⟨List.nodup_append.2 ⟨hmk1, hs0.mrk.1, fun r hr r' hr' q => ?_⟩, fun r hr => ?_⟩
      · subst q
        have h1 := (hmk2 r hr).2
        have h2 := hs0.pinLt (hs0.mrk.2 r hr').1
        simp only at h2
        omega
      · rcases List.mem_append.1 hr with hr | hr
        · exact ⟨by rw [hP0D]; exact List.mem_append_left _ (hmk2 r hr).1, Nat.le_trans hs0.chg.size (hmk2 r hr).2⟩
        · exact ⟨hPb _ (hs0.mrk.2 r hr).1, (hs0.mrk.2 r hr).2⟩
    have hmr : ∀ l', cx.rnd = some l' → mk ++ β0.marks = [] := fun l' hl' => by rw [hmk3 l' hl', (hs0.rnd.2 l' hl').1]; rfl
    have hbsn : cx.bs.length ≤ n := hi.sat.fix.1
    have fin : ∀ (β' : Va) (Hn : List Bk) (Fn : List Fact) (w4 : World) (K : KT), (∀ q, q < n → β' q = β0 q) → Sat cx ⟨β'.b, P0, mk ++ β0.marks⟩ n' Hn (Fs' ++ (Fn ++ Fr)) w4 → K n' env Hn (Fs' ++ (Fn ++ Fr)) →
        After cx K { a with defers := mk.map (fun r => { target := .collected r, args := #[] }) ++ a.defers } w4 := by
      intro β' Hn Fn w4 K hagb hsat hK
      refine ⟨_, n', env, Hn, _, ⟨fun t s ht => ?_, hi.size, ?_, fun t s ht => SV.lt_mono hn' (hi.lte t s ht), hsat⟩, hK⟩
      · show a.tmps[t]? = _
        rw [hi.ag t s ht]
        congr 1
        have key : ∀ y : SL, y.lt n → y.val (⟨β'.b, P0, mk ++ β0.marks⟩ : Va) = y.val β := fun y hy => by
          cases y with
          | v x => rfl
          | p id o => simp only [SL.val]; rw [← hag0.at_ id hy]; exact congrArg (fun z => Value.pointer (some ⟨z, o, none⟩)) (hagb id hy)
        have hlt := hi.lte t s ht
        cases s with
        | c x => exact (key x hlt).symm
        | agg xs => simp only [SV.val]; congr 2; exact List.map_congr_left fun x hx => (key x (hlt x hx)).symm
        | fn f u v => simp only [SV.val]; congr 2 <;> exact List.map_congr_left fun x hx => (key x (by first | exact hlt.1 x hx | exact hlt.2 x hx)).symm
      · show _ ++ a.defers = _
        rw [hi.df, ← hag0.marks, List.map_append]
    rcases hJ with ⟨xs, ⟨i, β', hpre, hagb, hsta, rfl⟩, hdn⟩ | ⟨pre, ⟨e, c, j, β', hc, hst, hagb, hsta, rfl⟩, hsd⟩
    · have hl2 := (hm2.fact _ List.mem_cons_self).2.2 _ List.mem_cons_self
      simp only at hl2
      have hel := run_endLoop (P := cx.P) hl2 (by rw [hrecD]; simp)
      have hpd : (rec .ready none).pending = none := by rw [hrecD]
      rw [hpd] at hel
      exact ⟨none, _, hel, fin β' (HH i) (FF i) _ _ hagb (range_end hs0 hGi (hFF i0) hc1 hll hP0 hPb hch hm2 hD2 hsta hbsn hagb hmks hmr) (hdone xs i Fs' hpre hdn)⟩
    · have hl2 := (hm2.fact _ List.mem_cons_self).2.2 _ List.mem_cons_self
      simp only at hl2
      have hel := run_endLoop (P := cx.P) hl2 (by rw [hrecD]; simp)
      have hpd : (rec .done (some c)).pending = some c := by rw [hrecD]
      rw [hpd] at hel
      refine ⟨some c, _, hel, ?_⟩
      have hA := fin β' (HX j) (FX j) _ (Q e) hagb (range_end (o2 := .loop { rec .done (some c) with state := .exhausted, pending := some c }) hs0 hGi (hFF i0) hc1 hll hP0 hPb hch hm2 hD2 hsta hbsn hagb hmks hmr) (hstop e pre j Fs' hst hsd)
      cases e <;> simp only [jumpOf, Option.some.injEq, reduceCtorEq] at hc
      · subst hc; exact wpIn_exit hA
      · subst hc; exact wpIn_ret hA
theorem range_rule {α ι κ : Type} (g : Good cx) {fo : Operand} {ps : Array Tmp} {assign body : Code} {Q : Exit → KT} {k : FuncId} {cv : List Value} {sv : SV}
    (hsv : ev env fo = some sv) (hfn : fnOf sv = some (k, [], cv.map SL.v)) (hcall : callable cx.P k = true) (n' : Nat) (hn' : n ≤ n')
    (Pre : List α → ι → Prop) (HH : ι → List Bk) (FF : ι → List Fact) (hFF : ∀ i, Owns (FF i))
    (Stp : Exit → List α → κ → Prop) (HX : κ → List Bk) (FX : κ → List Fact) (hFX : ∀ j, Owns (FX j))
    (Gi Ri Fr : List Fact) (hGi : Owns Gi) (hFr : ∀ g ∈ Fr, g.own = false)
    (i0 : ι) (h0 : Pre [] i0) (hent : ∀ β w, Sat cx β n H F w → ∃ β', Agr n β β' ∧ Sat cx β' n' (HH i0) (Gi ++ (Ri ++ (FF i0 ++ Fr))) w)
    (ins : List α → α → Array Value → Fact → Prop) (Done Stopd : List α → List Fact → Prop)
    (hit : ∀ (l : Nat) (w : World) (f0 R : Fact) (J Jx : List α → Fact → Prop), J [] f0 → (∀ pre f, J pre f → f.own = true) → R.own = false → Yc cx.P l J Jx R ins → Mem w (f0 :: R :: (Gi ++ Ri)) →
      Con cx.P k (#[Value.func (.yield l) #[] #[]] ++ cv.toArray) w (f0 :: Gi) (fun _ Fs => ∃ f Fs', Fs = f :: Fs' ∧ ((∃ xs, J xs f ∧ Done xs Fs') ∨ (∃ pre, Jx pre f ∧ Stopd pre Fs'))))
    (hround : ∀ (i : ι) (pre : List α) (x : α) (args : Array Value) (X : Fact) (W : World) (S : Nat → Prop) (l : Nat) (bs : List Nat) (pn pn' : List (Nat × Obj)), bs.length ≤ n' → Pre pre i → ins pre x args X → ∃ er, bindP cx.N ps.toList args.toList env = some er ∧
      cwp (rcx cx W S l bs pn) assign (norm (cwp (rcx cx W S l bs pn') body (RoundQ (rcx cx W S l bs pn') n' Pre HH FF Stp HX FX (pre ++ [x])))) n' er (HH i) (X :: FF i ++ Fr))
    (hdone : ∀ xs i Fs, Pre xs i → Done xs Fs → Q .normal n' env (HH i) (Fs ++ (FF i ++ Fr)))
    (hstop : ∀ e pre j Fs, Stp e pre j → Stopd pre Fs → Q e n' env (HX j) (Fs ++ (FX j ++ Fr))) :
    Tri cx (.rangeFunc fo ps assign body) Q n env H F :=
  range_ruleP g hsv hfn hcall n' hn' Pre HH FF hFF Stp HX FX hFX Gi Ri Fr hGi hFr i0 h0 hent ins Done Stopd (fun l w f0 R J Jx h1 h2 h3 h4 _ h5 => hit l w f0 R J Jx h1 h2 h3 h4 h5) hround hdone hstop
end
#print axioms range_rule
end Go.Proofs.YteenjgfbbkdlhaaGreatDoor.Sx

namespace Go.Proofs.YteenjgfbbkdlhaaGreatDoor.Sx
open Go
def noF : Fact where
  own := false
  D := None_
  p := fun _ => True
  st := fun _ _ _ h => h
def noO : Fact where
  own := true
  D := None_
  p := fun _ => True
  st := fun _ _ _ h => h
section
variable {cx : Cx} {β : Va} {n : Nat} {env : Env} {H : List Bk} {F : List Fact} {w w' : World} {dst : Option Tmp} {K : KT}
theorem Sat.nthMem (j : Nat) {f : Fact} (hj : nth F j = some f) : f ∈ F := List.mem_of_getElem? (by rw [← nth_eq]; exact hj)
theorem yield_ro {α : Type} {l : Nat} {J Jx : List α → Fact → Prop} {R : Fact} {ins : List α → α → Array Value → Fact → Prop} (hY : Yc cx.P l J Jx R ins) {A : Va → Array Value} {pre : List α} {x : α} {f X : Fact}
    (jf jR : Nat) (hf : nth F jf = some f) (hJ : J pre f) (hfo : f.own = true) (hR : nth F jR = some R) (hRo : R.own = false) (hne : jf ≠ jR) (hins : ∀ β, ins pre x (A β) X) (hXo : X.own = false)
    (hX : ∀ β w, Sat cx β n H F w → X.p w ∧ (∀ k, X.D k → k < w.heap.size) ∧ ∀ k, f.D k → ¬ X.D k)
    (ht : ∀ f', f'.own = true → J (pre ++ [x]) f' → put cx.N n env H (f' :: dropIx [jf] 0 F) dst (.c (.v (.bool true))) K)
    (hs : ∀ f', f'.own = true → Jx (pre ++ [x]) f' → put cx.N n env H (f' :: dropIx [jf] 0 F) dst (.c (.v (.bool false))) K) :
    ∀ β w, Sat cx β n H F w → Yld cx.P l (A β) w fun v w' => Ret cx β n env dst K v w' := by
  intro β w hsat
  obtain ⟨h1, h2, h3⟩ := hX β w hsat
  have hfm := Sat.nthMem jf hf
  have hRm := Sat.nthMem jR hR
  have hap := hsat.apart (i := jf) (j := jR) (by rw [← nth_eq]; exact hf) (by rw [← nth_eq]; exact hR) hne (.inl hfo)
  have hm : Mem w [f, R, X] := by
    refine ⟨fun g hg => ?_, fun g hg k hk => ?_, ?_⟩
    · simp only [List.mem_cons, List.not_mem_nil, or_false] at hg
      rcases hg with rfl | rfl | rfl
      · exact hsat.fact _ hfm
      · exact hsat.fact _ hRm
      · exact h1
    · simp only [List.mem_cons, List.not_mem_nil, or_false] at hg
      rcases hg with rfl | rfl | rfl
      · exact hsat.flt _ hfm k hk
      · exact hsat.flt _ hRm k hk
      · exact h2 k hk
    · refine List.pairwise_cons.2 ⟨fun g hg _ => ?_, List.pairwise_cons.2 ⟨fun g hg ho => ?_, List.pairwise_singleton _ _⟩⟩
      · simp only [List.mem_cons, List.not_mem_nil, or_false] at hg
        rcases hg with rfl | rfl
        · exact hap
        · exact h3
      · obtain rfl := List.mem_singleton.1 hg
        rw [hRo, hXo] at ho
        rcases ho with q | q <;> cases q
  obtain ⟨fn, tmps, as_, body, hrun, hround⟩ := hY pre x f w (A β) X hJ hm (hins β)
  refine ⟨fn, tmps, as_, body, hrun, hround.mono ?_⟩
  rintro e w' ⟨v, rfl, f', hc, hfo', hfp', hD, hv⟩
  rw [gv_not hXo] at hc hD
  have htk : takeIx F [jf] = [f] := by simp only [takeIx, hf]
  have hsw := hsat.swap (w' := w') [jf] (by rw [htk]; exact ⟨hfo, trivial⟩) (Fs := [f']) (by rw [htk]; exact hc) ⟨fun g hg => by obtain rfl := List.mem_singleton.1 hg; exact hfp', fun g hg k hk => by obtain rfl := List.mem_singleton.1 hg; exact (hD k hk).2, List.pairwise_singleton _ _⟩ (by
    intro g hg k hk
    obtain rfl := List.mem_singleton.1 hg
    rw [htk]
    exact (hD k hk).1)
  refine ⟨v, rfl, ?_⟩
  rcases hv with ⟨rfl, hJ'⟩ | ⟨rfl, hJ'⟩
  · exact Ret.mk _ _ hsw (ht f' hfo' hJ')
  · exact Ret.mk _ _ hsw (hs f' hfo' hJ')
theorem yield_own {α : Type} {l : Nat} {J Jx : List α → Fact → Prop} {R : Fact} {ins : List α → α → Array Value → Fact → Prop} (hY : Yc cx.P l J Jx R ins) {A : Va → Array Value} {pre : List α} {x : α} {f X : Fact}
    (jf jR jX : Nat) (hf : nth F jf = some f) (hJ : J pre f) (hfo : f.own = true) (hR : nth F jR = some R) (hX : nth F jX = some X) (hXo : X.own = true) (hne : jf ≠ jR) (hne2 : jf ≠ jX) (hne3 : jR ≠ jX) (hins : ∀ β, ins pre x (A β) X)
    (ht : ∀ f', f'.own = true → J (pre ++ [x]) f' → put cx.N n env H (f' :: dropIx [jf, jX] 0 F) dst (.c (.v (.bool true))) K)
    (hs : ∀ f', f'.own = true → Jx (pre ++ [x]) f' → put cx.N n env H (f' :: dropIx [jf, jX] 0 F) dst (.c (.v (.bool false))) K) :
    ∀ β w, Sat cx β n H F w → Yld cx.P l (A β) w fun v w' => Ret cx β n env dst K v w' := by
  intro β w hsat
  have hfm := Sat.nthMem jf hf
  have hRm := Sat.nthMem jR hR
  have hXm := Sat.nthMem jX hX
  rw [nth_eq] at hf hR hX
  have hm : Mem w [f, R, X] := by
    refine ⟨fun g hg => ?_, fun g hg k hk => ?_, ?_⟩
    · simp only [List.mem_cons, List.not_mem_nil, or_false] at hg
      rcases hg with rfl | rfl | rfl
      · exact hsat.fact _ hfm
      · exact hsat.fact _ hRm
      · exact hsat.fact _ hXm
    · simp only [List.mem_cons, List.not_mem_nil, or_false] at hg
      rcases hg with rfl | rfl | rfl
      · exact hsat.flt _ hfm k hk
      · exact hsat.flt _ hRm k hk
      · exact hsat.flt _ hXm k hk
    · refine List.pairwise_cons.2 ⟨fun g hg _ => ?_, List.pairwise_cons.2 ⟨fun g hg ho => ?_, List.pairwise_singleton _ _⟩⟩
      · simp only [List.mem_cons, List.not_mem_nil, or_false] at hg
        rcases hg with rfl | rfl
        · exact hsat.apart hf hR hne (.inl hfo)
        · exact hsat.apart hf hX hne2 (.inl hfo)
      · obtain rfl := List.mem_singleton.1 hg
        exact hsat.apart hR hX hne3 (.inr hXo)
  obtain ⟨fn, tmps, as_, body, hrun, hround⟩ := hY pre x f w (A β) X hJ hm (hins β)
  refine ⟨fn, tmps, as_, body, hrun, hround.mono ?_⟩
  rintro e w' ⟨v, rfl, f', hc, hfo', hfp', hD, hv⟩
  rw [gv_own hXo] at hc hD
  have htk : takeIx F [jf, jX] = [f, X] := by simp only [takeIx, nth_eq, hf, hX]
  have hsw := hsat.swap (w' := w') [jf, jX] (by rw [htk]; exact ⟨hfo, hXo, trivial⟩) (Fs := [f']) (by rw [htk]; exact hc) ⟨fun g hg => by obtain rfl := List.mem_singleton.1 hg; exact hfp', fun g hg k hk => by obtain rfl := List.mem_singleton.1 hg; exact (hD k hk).2, List.pairwise_singleton _ _⟩ (by
    intro g hg k hk
    obtain rfl := List.mem_singleton.1 hg
    rw [htk]
    exact (hD k hk).1)
  refine ⟨v, rfl, ?_⟩
  rcases hv with ⟨rfl, hJ'⟩ | ⟨rfl, hJ'⟩
  · exact Ret.mk _ _ hsw (ht f' hfo' hJ')
  · exact Ret.mk _ _ hsw (hs f' hfo' hJ')
theorem Mem.sat0 (h : Mem w F) (hW : cx.W0 = w := by rfl) (hS : ∀ f ∈ F, f.own = true → ∀ k, f.D k → cx.S k) (hbs : cx.bs = [] := by rfl)
    (hp : β.pins = [] := by rfl) (hm : β.marks = [] := by rfl) (hr : cx.rnd = none := by rfl) (hpn : cx.pn = [] := by rfl) : Sat cx β n [] F w :=
  h.sat hW hS ⟨by rw [hbs]; exact Nat.zero_le _, fun i hi => by rw [hbs] at hi; cases hi⟩ hp hm hr hpn
theorem ownIn {Gs Rs : List Fact} (hR : ∀ g ∈ Rs, g.own = false) : ∀ f ∈ Gs ++ Rs, f.own = true → ∀ k, f.D k → Un Gs k := fun f hf ho k hk => by
  rcases List.mem_append.1 hf with q | q
  · exact ⟨f, q, hk⟩
  · rw [hR f q] at ho; cases ho
end
def SL.re (id b : Nat) : SL → SL
  | .v x => .v x
  | .p i o => match Nat.beq i id with | true => .v (.pointer (some ⟨b, o, none⟩)) | false => .p i o
def SV.re (id b : Nat) : SV → SV
  | .c x => .c (x.re id b)
  | .agg xs => .agg (xs.map (SL.re id b))
  | .fn f u v => .fn f (u.map (SL.re id b)) (v.map (SL.re id b))
def envRe (id b : Nat) : Env → Env
  | [] => []
  | (t, s) :: r => (t, s.re id b) :: envRe id b r
def bksRe (id b : Nat) : List Bk → List Bk
  | [] => []
  | k :: r => match Nat.beq k.id id with | true => bksRe id b r | false => ⟨k.id, k.ty, k.cells.map (SL.re id b)⟩ :: bksRe id b r
def tyAt : List Bk → Nat → Option TypeId
  | [], _ => none
  | b :: r, i => match Nat.beq b.id i with | true => some b.ty | false => tyAt r i
theorem SL.re_val {id b : Nat} {β : Va} (h : β id = b) (x : SL) : (x.re id b).val β = x.val β := by
  cases x with
  | v x => rfl
  | p i o =>
    simp only [SL.re]
    cases hb : Nat.beq i id with
    | true => obtain rfl := Nat.eq_of_beq_eq_true hb; simp only [SL.val, h]
    | false => rfl
theorem SL.re_lt {id b n : Nat} {x : SL} (h : x.lt n) : (x.re id b).lt n := by
  cases x with
  | v x => trivial
  | p i o =>
    simp only [SL.re]
    cases hb : Nat.beq i id with
    | true => trivial
    | false => exact h
theorem SV.re_val {id b : Nat} {β : Va} (h : β id = b) (x : SV) : (x.re id b).val β = x.val β := by
  have key : ∀ l : List SL, (l.map (SL.re id b)).map (SL.val β) = l.map (SL.val β) := fun l => by
    rw [List.map_map]; exact List.map_congr_left fun x _ => SL.re_val h x
  cases x <;> simp only [SV.re, SV.val, SL.re_val h, key]
theorem SV.re_lt {id b n : Nat} {x : SV} (h : x.lt n) : (x.re id b).lt n := by
  have key : ∀ l : List SL, (∀ x ∈ l, x.lt n) → ∀ x ∈ l.map (SL.re id b), x.lt n := fun l hl x hx => by
    obtain ⟨y, hy, rfl⟩ := List.mem_map.1 hx
    exact SL.re_lt (hl y hy)
  cases x with
  | c x => exact SL.re_lt h
  | agg xs => exact key xs h
  | fn f u v => exact ⟨key u h.1, key v h.2⟩
theorem envRe_get {id b : Nat} : ∀ {env : Env} {t : Nat} {s : SV}, get (envRe id b env) t = some s → ∃ u, get env t = some u ∧ s = u.re id b
  | [], t, s, h => by cases h
  | (u, s') :: r, t, s, h => by
    simp only [envRe] at h
    by_cases hut : u = t
    · subst hut
      rw [get_same] at h
      exact ⟨s', get_same _ _ _, (Option.some.inj h).symm⟩
    · rw [get_other _ _ hut] at h
      obtain ⟨v, hv, e⟩ := envRe_get h
      exact ⟨v, by rw [get_other _ _ hut]; exact hv, e⟩
theorem bksRe_mem {id b : Nat} : ∀ {H : List Bk} {c : Bk}, c ∈ bksRe id b H → ∃ k ∈ H, k.id ≠ id ∧ c = ⟨k.id, k.ty, k.cells.map (SL.re id b)⟩
  | k :: r, c, h => by
    simp only [bksRe] at h
    cases hb : Nat.beq k.id id with
    | true =>
      rw [hb] at h
      obtain ⟨k', hk, e⟩ := bksRe_mem h
      exact ⟨k', List.mem_cons_of_mem _ hk, e⟩
    | false =>
      rw [hb] at h
      rcases List.mem_cons.1 h with rfl | h
      · exact ⟨k, List.mem_cons_self, fun q => (by rw [q, Nat.beq_refl] at hb; cases hb), rfl⟩
      · obtain ⟨k', hk, e⟩ := bksRe_mem h
        exact ⟨k', List.mem_cons_of_mem _ hk, e⟩
theorem bksRe_pw {id b : Nat} (R : Nat → Nat → Prop) : ∀ {H : List Bk}, H.Pairwise (fun b c => R b.id c.id) → (bksRe id b H).Pairwise (fun b c => R b.id c.id)
  | [], _ => List.Pairwise.nil
  | k :: r, h => by
    obtain ⟨h1, h2⟩ := List.pairwise_cons.1 h
    simp only [bksRe]
    cases hb : Nat.beq k.id id with
    | true => exact bksRe_pw R h2
    | false =>
      refine List.pairwise_cons.2 ⟨fun x hx => ?_, bksRe_pw R h2⟩
      obtain ⟨k', hk, _, rfl⟩ := bksRe_mem hx
      exact h1 k' hk
theorem tyAt_mem {H : List Bk} {i : Nat} {t : TypeId} {cs : List SL} (h : tyAt H i = some t) (h2 : cellsAt H i = some cs) : (⟨i, t, cs⟩ : Bk) ∈ H := by
  induction H with
  | nil => cases h
  | cons b r ih =>
    simp only [tyAt] at h
    simp only [cellsAt] at h2
    cases hb : Nat.beq b.id i with
    | true =>
      rw [hb] at h h2
      have := Nat.eq_of_beq_eq_true hb
      obtain rfl := Option.some.inj h
      obtain rfl := Option.some.inj h2
      subst this
      exact List.mem_cons_self
    | false =>
      rw [hb] at h h2
      exact List.mem_cons_of_mem _ (ih h h2)
theorem Sat.reify {cx : Cx} {β : Va} {n : Nat} {H : List Bk} {F : List Fact} {w : World} (h : Sat cx β n H F w) (id : Nat) {ty : TypeId} {cs : List SL} {vs : List Value} (h1 : tyAt H id = some ty) (h2 : cellsAt H id = some cs) (h3 : allV (cs.map (SL.re id (β id))) = some vs) :
    Sat cx β n (bksRe id (β id) H) (bkF (β id) ty vs :: F) w := by
  have hm := tyAt_mem h1 h2
  have hb := h.blk _ hm
  have hvs := allV_spec h3
  have hcv : cs.map (SL.val β) = vs := by
    have e1 : (cs.map (SL.re id (β id))).map (SL.val β) = cs.map (SL.val β) := by
      rw [List.map_map]; exact List.map_congr_left fun x _ => SL.re_val rfl x
    rw [← e1, hvs, List.map_map]
    have : (SL.val β ∘ SL.v) = (fun x : Value => x) := rfl
    rw [this, List.map_id']
  have hp : w.heap[β id]? = some (.cells vs.toArray ty (0, 0)) := by rw [← hcv]; exact hb
  have h4 : Sat cx β n (bksRe id (β id) H) F w := by
    refine ⟨h.chg, h.fix, fun b hb => ?_, fun b hb => ?_, bksRe_pw (fun x y => β x ≠ β y) h.inj, fun b hb => ?_, h.fact, h.flt, fun f hf b hb => ?_, h.fown, h.sepf, h.pin, h.mrk, h.rnd⟩
    all_goals obtain ⟨k, hk, _, rfl⟩ := bksRe_mem hb
    · have := h.blk k hk
      simp only
      rw [this, List.map_map, show SL.val β ∘ SL.re id (β id) = SL.val β from funext fun x => SL.re_val rfl x]
    · exact h.mine k hk
    · refine ⟨(h.ltb k hk).1, fun x hx => ?_⟩
      obtain ⟨y, hy, rfl⟩ := List.mem_map.1 hx
      exact SL.re_lt ((h.ltb k hk).2 y hy)
    · exact h.sepb f hf k hk
  refine h4.old (bkF (β id) ty vs) hp (fun k hk => ?_) (fun b hb q => ?_) (fun _ k hk => ?_) (fun g hg _ k hk q => ?_) (fun p hp q => ?_)
  · obtain rfl : k = β id := hk; exact h.lt hm
  · obtain ⟨k, hk, hne, rfl⟩ := bksRe_mem hb
    have hq : β k.id = β id := q
    obtain ⟨i, hi⟩ := List.getElem?_of_mem hk
    obtain ⟨j, hj⟩ := List.getElem?_of_mem hm
    obtain ⟨hil, rfl⟩ := List.getElem?_eq_some_iff.1 hi
    obtain ⟨hjl, hje⟩ := List.getElem?_eq_some_iff.1 hj
    have hpw := List.pairwise_iff_getElem.1 h.inj
    rcases Nat.lt_trichotomy i j with hlt | heq | hgt
    · exact hpw i j hil hjl hlt (by rw [hje]; exact hq)
    · subst heq; rw [hje] at hne; exact hne rfl
    · exact hpw j i hjl hil hgt (by rw [hje]; exact hq.symm)
  · obtain rfl : k = β id := hk; exact h.mine _ hm
  · obtain rfl : k = β id := hk; exact h.sepb g hg _ hm q
  · exact h.pinBk hp hm (Eq.symm q)
theorem reify_rule {cx : Cx} (g : Good cx) {c : Code} {Q : Exit → KT} {n : Nat} {env : Env} {H : List Bk} {F : List Fact} (id : Nat) {ty : TypeId} {cs : List SL} (vs : Nat → List Value) (h1 : tyAt H id = some ty) (h2 : cellsAt H id = some cs) (h3 : ∀ b, allV (cs.map (SL.re id b)) = some (vs b))
    (h : ∀ b, cwp cx c Q n (envRe id b env) (bksRe id b H) (bkF b ty (vs b) :: F)) : Tri cx c Q n env H F := by
  refine ⟨fun β a w hi => (cwp_sound g c Q n _ _ _ (h (β id))).run β a w ⟨fun t s ht => ?_, hi.size, hi.df, fun t s ht => ?_, hi.sat.reify id h1 h2 (h3 (β id))⟩⟩
  · obtain ⟨u, hu, rfl⟩ := envRe_get ht
    rw [SV.re_val rfl]; exact hi.ag t u hu
  · obtain ⟨u, hu, rfl⟩ := envRe_get ht
    exact SV.re_lt (hi.lte t u hu)
structure EntX {ι : Type} (cx : Cx) (n : Nat) (env : Env) (H : List Bk) (F : List Fact) (T : ι → Prop) (n' : Nat) (E : ι → Env) (HH : ι → List Bk) (FF : ι → List Fact) : Prop where
  run : ∀ β a w, Inv cx β n env H F a w → ∃ (i : ι) (β' : Va), T i ∧ β'.pins = β.pins ∧ β'.marks = β.marks ∧ Inv cx β' n' (E i) (HH i) (FF i) a w
section
variable {ι : Type} {cx : Cx} {n n' : Nat} {env : Env} {H : List Bk} {F : List Fact} {T : ι → Prop} {E : ι → Env} {HH : ι → List Bk} {FF : ι → List Fact}
theorem EntX.of (i : ι) (hi : T i) (h : Ent cx n env H F n' (E i) (HH i) (FF i)) : EntX cx n env H F T n' E HH FF :=
  ⟨fun β a w hv => by obtain ⟨β', h1, h2, h3⟩ := h.run β a w hv; exact ⟨i, β', hi, h1, h2, h3⟩⟩
theorem EntX.reify (id : Nat) {ty : TypeId} {cs : List SL} (vs : Nat → List Value) (h1 : tyAt H id = some ty) (h2 : cellsAt H id = some cs) (h3 : ∀ b, allV (cs.map (SL.re id b)) = some (vs b))
    (h : ∀ b, EntX cx n (envRe id b env) (bksRe id b H) (bkF b ty (vs b) :: F) T n' E HH FF) : EntX cx n env H F T n' E HH FF := by
  refine ⟨fun β a w hi => ?_⟩
  refine (h (β id)).run β a w ⟨fun t s ht => ?_, hi.size, hi.df, fun t s ht => ?_, hi.sat.reify id h1 h2 (h3 (β id))⟩
  · obtain ⟨u, hu, rfl⟩ := envRe_get ht
    rw [SV.re_val rfl]; exact hi.ag t u hu
  · obtain ⟨u, hu, rfl⟩ := envRe_get ht
    exact SV.re_lt (hi.lte t u hu)
theorem tri_join {c : Code} {Q : Exit → KT} (T : ι → Prop) (n' : Nat) (E : ι → Env) (HH : ι → List Bk) (FF : ι → List Fact) (hkey : ∀ i, T i → Tri cx c Q n' (E i) (HH i) (FF i)) (h : EntX cx n env H F T n' E HH FF) : Tri cx c Q n env H F :=
  ⟨fun β a w hv => by obtain ⟨i, β', hi, _, _, h3⟩ := h.run β a w hv; exact (hkey i hi).run β' a w h3⟩
end
def exitIs (id : Nat) : Exit → Bool
  | .exit i => Nat.beq i id
  | _ => false
def joinQ {κ : Type} (cx : Cx) (id : Nat) (X : κ → Prop) (n2 : Nat) (E2 : κ → Env) (HH2 : κ → List Bk) (FF2 : κ → List Fact) (Q : Exit → KT) : Exit → KT := fun e => match exitIs id e with
  | true => fun m env H F => EntX cx m env H F X n2 E2 HH2 FF2
  | false => Q e
theorem tri_exit {κ : Type} {cx : Cx} {n : Nat} {env : Env} {H : List Bk} {F : List Fact} {c : Code} {Q : Exit → KT} (id : Nat) (X : κ → Prop) (n2 : Nat) (E2 : κ → Env) (HH2 : κ → List Bk) (FF2 : κ → List Fact)
    (hx : ∀ j, X j → Q (.exit id) n2 (E2 j) (HH2 j) (FF2 j)) (h : Tri cx c (joinQ cx id X n2 E2 HH2 FF2 Q) n env H F) : Tri cx c Q n env H F := by
  refine ⟨fun β a w hv => wpIn_mono (h.run β a w hv) fun e a' w' hp => ?_⟩
  have plain : exitIs id e = false → After cx (joinQ cx id X n2 E2 HH2 FF2 Q e) a' w' → After cx (Q e) a' w' := by
    intro he hq
    unfold joinQ at hq
    rw [he] at hq
    exact hq
  cases e with
  | exit i =>
    cases hb : exitIs id (.exit i) with
    | false => exact plain hb hp
    | true =>
      obtain rfl : i = id := Nat.eq_of_beq_eq_true hb
      obtain ⟨β', n1, env1, H1, F1, hi, hq⟩ := hp
      unfold joinQ at hq
      rw [hb] at hq
      obtain ⟨j, β2, hj, _, _, hi2⟩ := hq.run β' a' w' hi
      exact ⟨β2, n2, E2 j, HH2 j, FF2 j, hi2, hx j hj⟩
  | normal => exact plain rfl hp
  | ret => exact plain rfl hp
  | goto l => exact plain rfl hp
  | panic c => exact hp
  | outgrown => exact hp
#print axioms tri_exit
#print axioms reify_rule
end Go.Proofs.YteenjgfbbkdlhaaGreatDoor.Sx

namespace Go.Proofs.YteenjgfbbkdlhaaGreatDoor.Sx
open Go
section
variable {cx : Cx} {n : Nat} {H : List Bk} {F : List Fact} {w : World}
theorem calls_of_tri {f : FuncId} {fn : Func} {c : Code} {R : Value → World → Prop} (g : Good cx) (hf : cx.P.funcs[f]? = some fn) (hb : fn.body = some c) (hN : fn.ntmps = cx.N)
    {β : Va} (svs : List SV) (n : Nat) (H : List Bk) (F : List Fact) (hlen : Nat.ble svs.length cx.N = true) (hltB : allLt n svs = true) (hs : Sat cx β n H F w)
    (hw : Tri cx c (fnPost cx fn.results.toList R) n (pairs 0 svs) H F) (hr : cx.rnd = none := by rfl) (hm : β.marks = [] := by rfl) (hp0 : cx.pn = [] := by rfl) :
    Calls cx.P f (svs.map (SV.val β)).toArray w fun e w' => ∃ v, e = .returned v ∧ R v w' := by
  have hfe : cx.fence = Fence.wide := by unfold Cx.fence; rw [hr]
  refine (callsIn_wide (n := 0)).1 (callsIn_of_wp_marks hf hb trivial ?_)
  have hlt := allLt_mem hltB
  have hlen' : svs.length ≤ cx.N := Nat.le_of_ble_eq_true hlen
  have hi : Inv cx β n (pairs 0 svs) H F { tmps := (svs.map (SV.val β)).toArray ++ Array.replicate (fn.ntmps - (svs.map (SV.val β)).toArray.size) undef, defers := [] } w := by
    refine ⟨fun t s ht => ?_, ?_, by rw [hm]; rfl, fun t s ht => ?_, hs⟩
    · obtain ⟨j, rfl, hj⟩ := pairs_get svs 0 t s ht
      have hjl : j < svs.length := (List.getElem?_eq_some_iff.1 hj).1
      rw [Array.getElem?_append_left (by simp; omega)]
      simp [hj]
    · simp [hN]; omega
    · obtain ⟨j, rfl, hj⟩ := pairs_get svs 0 t s ht
      exact hlt s (List.mem_of_getElem? hj)
  have h0 := hw.run β _ w hi
  rw [hfe] at h0
  refine wpIn_mono h0 fun e a' w' hq => ?_
  have key : After cx (RetWP cx fn.results.toList R) a' w' → LeavesInM Fence.wide 0 cx.P fn a'.tmps (fun e w' => ∃ v, e = .returned v ∧ R v w') a'.defers .returning w' := by
    rintro ⟨β', n', env', H', F', h', hp⟩
    rw [← hfe]
    have hd := h'.df
    obtain ⟨tmps, defers⟩ := a'
    simp only at hd
    subst hd
    exact leaves_sx g hr hp0 _ β' w' rfl h' hp
  cases e with
  | normal => exact key hq
  | ret => exact key hq
  | exit id => obtain ⟨_, _, _, _, _, _, hq⟩ := hq; exact hq.elim
  | goto l => obtain ⟨_, _, _, _, _, _, hq⟩ := hq; exact hq.elim
  | panic ch => exact hq.elim
  | outgrown => exact hq.elim
theorem con_of_tri {f : FuncId} {fn : Func} {c : Code} {Gs : List Fact} {R : Value → List Fact → Prop} (g : Good cx) (hf : cx.P.funcs[f]? = some fn) (hb : fn.body = some c) (hN : fn.ntmps = cx.N)
    {β : Va} (svs : List SV) (n : Nat) (H : List Bk) (F : List Fact) (hlen : Nat.ble svs.length cx.N = true) (hltB : allLt n svs = true) (hs : Sat cx β n H F w)
    (hw : Tri cx c (fnPost cx fn.results.toList (Fin w Gs R)) n (pairs 0 svs) H F) (hr : cx.rnd = none := by rfl) (hm : β.marks = [] := by rfl) (hp0 : cx.pn = [] := by rfl) :
    Con cx.P f (svs.map (SV.val β)).toArray w Gs R := calls_of_tri g hf hb hN svs n H F hlen hltB hs hw hr hm hp0
theorem tri_seq (g : Good cx) {c1 c2 : Code} {Q : Exit → KT} {env : Env} (h : cwp cx c1 (andThen (fun n env H F => Tri cx c2 Q n env H F) Q) n env H F) : Tri cx (.seq c1 c2) Q n env H F := by
  refine ⟨fun β a w hi => wpIn_seq (wpIn_mono ((cwp_sound g c1 _ n env H F h).run β a w hi) fun e a w hq => ?_)⟩
  cases e with
  | normal =>
    obtain ⟨β', n', env', H', F', h', hq'⟩ := hq
    exact hq'.run β' a w h'
  | exit i => exact hq
  | goto l => exact hq
  | ret => exact hq
  | panic c => exact hq
  | outgrown => exact hq
theorem tri_of (g : Good cx) {c : Code} {Q : Exit → KT} {env : Env} (h : cwp cx c Q n env H F) : Tri cx c Q n env H F := cwp_sound g c Q n env H F h
end
theorem tri_seqJ {cx : Cx} {n : Nat} {H : List Bk} {F : List Fact} {ι : Type} (g : Good cx) {c1 c2 : Code} {Q : Exit → KT} {env : Env} (T : ι → Prop) (n' : Nat) (E : ι → Env) (HH : ι → List Bk) (FF : ι → List Fact) (hkey : ∀ i, T i → Tri cx c2 Q n' (E i) (HH i) (FF i))
    (h : cwp cx c1 (andThen (fun n env H F => EntX cx n env H F T n' E HH FF) Q) n env H F) : Tri cx (.seq c1 c2) Q n env H F := by
  refine ⟨fun β a w hi => wpIn_seq (wpIn_mono ((cwp_sound g c1 _ n env H F h).run β a w hi) fun e a w hq => ?_)⟩
  cases e with
  | normal =>
    obtain ⟨β', n', env', H', F', h', hq'⟩ := hq
    exact (tri_join T _ E HH FF hkey hq').run β' a w h'
  | exit i => exact hq
  | goto l => exact hq
  | ret => exact hq
  | panic c => exact hq
  | outgrown => exact hq
end Go.Proofs.YteenjgfbbkdlhaaGreatDoor.Sx

namespace Go.Proofs.YteenjgfbbkdlhaaGreatDoor.Sx
open Go
section
variable {cx : Cx} {n : Nat} {H : List Bk} {F : List Fact} {env : Env}
end
end Go.Proofs.YteenjgfbbkdlhaaGreatDoor.Sx

namespace Go.Proofs.YteenjgfbbkdlhaaGreatDoor.Sx
open Go
def Reads : List Fact → Prop
  | [] => True
  | f :: r => f.own = false ∧ Reads r
theorem Reads.mem : ∀ {l : List Fact}, Reads l → ∀ f ∈ l, f.own = false
  | f :: r, h, g, hg => by
    rcases List.mem_cons.1 hg with rfl | hg
    · exact h.1
    · exact h.2.mem g hg
section
variable {cx : Cx} {w : World}
theorem go_sat {Gs Rs : List Fact} (hm : Mem w (Gs ++ Rs)) (hR : Reads Rs) (hW : cx.W0 = w) (hS : cx.S = Un Gs) (hbs : cx.bs = []) (hr : cx.rnd = none) (hpn : cx.pn = []) : Sat cx Va.z 0 [] (Gs ++ Rs) w :=
  hm.sat0 hW (by rw [hS]; exact ownIn hR.mem) hbs rfl rfl hr hpn
theorem con_go {f : FuncId} {fn : Func} {c : Code} {Gs : List Fact} {R : Value → List Fact → Prop} (g : Good cx) (hf : cx.P.funcs[f]? = some fn) (svs : List SV) (Rs : List Fact) (hm : Mem w (Gs ++ Rs))
    (hw : cwp cx c (fnPost cx fn.results.toList (Fin w Gs R)) 0 (pairs 0 svs) [] (Gs ++ Rs)) (hR : Reads Rs := by first | exact trivial | exact ⟨rfl, trivial⟩ | exact ⟨rfl, rfl, trivial⟩ | exact ⟨rfl, rfl, rfl, trivial⟩ | exact ⟨rfl, rfl, rfl, rfl, trivial⟩ | exact ⟨rfl, rfl, rfl, rfl, rfl, trivial⟩)
    (hb : fn.body = some c := by rfl) (hN : fn.ntmps = cx.N := by rfl) (hlen : Nat.ble svs.length cx.N = true := by rfl) (hltB : allLt 0 svs = true := by rfl) (hW : cx.W0 = w := by rfl) (hS : cx.S = Un Gs := by rfl) (hbs : cx.bs = [] := by rfl) (hr : cx.rnd = none := by rfl) (hpn : cx.pn = [] := by rfl) :
    Con cx.P f (svs.map (SV.val Va.z)).toArray w Gs R :=
  con_of_sx g hf hb hN svs 0 [] (Gs ++ Rs) hlen hltB (go_sat hm hR hW hS hbs hr hpn) hw hr rfl hpn
theorem con_goT {f : FuncId} {fn : Func} {c : Code} {Gs : List Fact} {R : Value → List Fact → Prop} (g : Good cx) (hf : cx.P.funcs[f]? = some fn) (svs : List SV) (Rs : List Fact) (hm : Mem w (Gs ++ Rs))
    (hw : Tri cx c (fnPost cx fn.results.toList (Fin w Gs R)) 0 (pairs 0 svs) [] (Gs ++ Rs)) (hR : Reads Rs := by first | exact trivial | exact ⟨rfl, trivial⟩ | exact ⟨rfl, rfl, trivial⟩ | exact ⟨rfl, rfl, rfl, trivial⟩ | exact ⟨rfl, rfl, rfl, rfl, trivial⟩ | exact ⟨rfl, rfl, rfl, rfl, rfl, trivial⟩)
    (hb : fn.body = some c := by rfl) (hN : fn.ntmps = cx.N := by rfl) (hlen : Nat.ble svs.length cx.N = true := by rfl) (hltB : allLt 0 svs = true := by rfl) (hW : cx.W0 = w := by rfl) (hS : cx.S = Un Gs := by rfl) (hbs : cx.bs = [] := by rfl) (hr : cx.rnd = none := by rfl) (hpn : cx.pn = [] := by rfl) :
    Con cx.P f (svs.map (SV.val Va.z)).toArray w Gs R :=
  con_of_tri g hf hb hN svs 0 [] (Gs ++ Rs) hlen hltB (go_sat hm hR hW hS hbs hr hpn) hw hr rfl hpn
end
end Go.Proofs.YteenjgfbbkdlhaaGreatDoor.Sx

namespace Go.Proofs.YteenjgfbbkdlhaaGreatDoor.Sx
open Go
def Opens (P : Program) (w : World) : Nat → TypeId → List Value → Prop
  | 0, _, _ => False
  | fuel + 1, t, cs => match P.underlying t with
    | some .bool => ∃ b, cs = [.bool b]
    | some (.int k) => ∃ n, cs = [.int k n] ∧ (Lit.int k n).wf = true
    | some .string => ∃ s, cs = [.string s] ∧ s.size ≤ maxLen
    | some (.slice e) => ∃ (A : Option Addr) (n c : Nat) (xs : List (List Value)), cs = [.slice A n c] ∧ n ≤ c ∧ c ≤ maxLen ∧ xs.length = n ∧ (A = none → n = 0 ∧ c = 0) ∧ (∀ x ∈ xs, x.length = P.cellsOf e) ∧ Rd (P.cellsOf e) A n xs.flatten w ∧ ∀ x ∈ xs, Opens P w fuel e x
    | some (.struct fs) => cs.length = P.cellsOf t ∧ ∀ f ∈ fs.toList, Opens P w fuel f.type ((cs.drop f.offset).take (P.cellsOf f.type))
    | _ => True
theorem flatten_const {k : Nat} : ∀ {xs : List (List Value)} (_ : ∀ x ∈ xs, x.length = k), xs.flatten.length = xs.length * k ∧ ∀ i j x u, xs[i]? = some x → x[j]? = some u → xs.flatten[i * k + j]? = some u
  | [], _ => ⟨by simp, fun i j x u h => by simp at h⟩
  | y :: r, hx => by
    obtain ⟨h1, h2⟩ := flatten_const (xs := r) (fun x h => hx x (List.mem_cons_of_mem _ h))
    have hy := hx y List.mem_cons_self
    refine ⟨by simp [h1, hy, Nat.succ_mul]; omega, fun i j x u h hu => ?_⟩
    have hj : j < x.length := (List.getElem?_eq_some_iff.1 hu).1
    cases i with
    | zero =>
      obtain rfl : y = x := by simpa using h
      rw [List.flatten_cons, Nat.zero_mul, Nat.zero_add, List.getElem?_append_left hj]
      exact hu
    | succ i =>
      have h' : r[i]? = some x := by simpa using h
      rw [List.flatten_cons, List.getElem?_append_right (by rw [hy, Nat.succ_mul]; omega), hy, show (i + 1) * k + j - k = i * k + j by rw [Nat.succ_mul]; omega]
      exact h2 i j x u h' hu
theorem opens_of {H : Type} {enc : TypeId × Value → H} {P : Program} {w : World} {base : Nat} {sp : Nat → Bool} {held : Bool} : ∀ (fuel : Nat) (t : TypeId) (cs : List Value) (x : DataW H × List MemPlace),
    DataW.trod enc P w base sp held fuel t cs = some x → Opens P w fuel t cs
  | 0, _, _, _, h => by cases h
  | fuel + 1, t, cs, x, h => by
    unfold Opens
    split
    · rename_i ht
      unfold DataW.trod at h
      rw [ht] at h
      split at h <;> simp_all
    · rename_i k ht
      unfold DataW.trod at h
      rw [ht] at h
      split at h <;> simp_all
    · rename_i ht
      unfold DataW.trod at h
      rw [ht] at h
      split at h <;> simp_all
    · rename_i e ht
      rcases DataW.trod_slice ht h with ⟨rfl, _⟩ | ⟨a, len, cap, elems, rest, m, hf, rfl, _, _, h1, h2, h3, hel, _, _⟩
      · exact ⟨none, 0, 0, [], rfl, Nat.le_refl _, Nat.zero_le _, rfl, (fun _ => ⟨rfl, rfl⟩), (fun _ q => by cases q), ⟨by simp, fun q => absurd q (Nat.lt_irrefl _)⟩, fun _ q => by cases q⟩
      · obtain rfl : fuel = m := by omega
        have each : ∀ i, i < len → ∃ cs, w.cells? base (a.add (i * P.cellsOf e)) (P.cellsOf e) = some cs ∧ Opens P w fuel e cs := by
          intro i hi
          have hq := hel i hi
          rw [List.getElem?_eq_getElem (by omega)] at hq
          obtain ⟨cs, hc, hd⟩ := Option.bind_eq_some_iff.1 hq
          exact ⟨cs, hc, opens_of fuel e cs _ hd⟩
        obtain ⟨xs, hxl, hx⟩ : ∃ xs : List (List Value), xs.length = len ∧ ∀ i, i < len → ∃ cs, xs[i]? = some cs ∧ w.cells? base (a.add (i * P.cellsOf e)) (P.cellsOf e) = some cs ∧ Opens P w fuel e cs := by
          revert each
          clear h hel h1 h2 h3
          intro each
          rename_i q1 q2
          clear q1 q2
          induction len with
          | zero => exact ⟨[], rfl, fun i hi => absurd hi (Nat.not_lt_zero _)⟩
          | succ len ih =>
            obtain ⟨xs, h1, h2⟩ := ih (fun i hi => each i (by omega))
            obtain ⟨cs, h3, h4⟩ := each len (by omega)
            refine ⟨xs ++ [cs], by simp [h1], fun i hi => ?_⟩
            rcases Nat.lt_or_ge i len with hlt | hge
            · obtain ⟨c, q1, q2⟩ := h2 i hlt
              exact ⟨c, by rw [List.getElem?_append_left (by omega)]; exact q1, q2⟩
            · obtain rfl : i = len := by omega
              exact ⟨cs, by rw [List.getElem?_append_right (by omega)]; simp [h1], h3, h4⟩
        have hlen : ∀ x ∈ xs, x.length = P.cellsOf e := by
          intro x hx'
          obtain ⟨i, hi⟩ := List.getElem?_of_mem hx'
          have hil := (List.getElem?_eq_some_iff.1 hi).1
          obtain ⟨c, q1, q2, _⟩ := hx i (by omega)
          rw [hi] at q1
          obtain rfl := Option.some.inj q1
          exact (World.cells?_some q2).2.1
        obtain ⟨f1, f2⟩ := flatten_const hlen
        refine ⟨some a, len, cap, xs, rfl, h1, h2, hxl, (fun q => by cases q), hlen, ⟨by rw [f1, hxl], fun _ => ⟨a, rfl, fun j u hu => ?_⟩⟩, fun x hx' => ?_⟩
        · have hj := (List.getElem?_eq_some_iff.1 hu).1
          rw [f1, hxl] at hj
          have hpos : 0 < P.cellsOf e := Nat.pos_of_ne_zero (fun q => by rw [q, Nat.mul_zero] at hj; exact Nat.not_lt_zero _ hj)
          have hdl : j / P.cellsOf e < len := Nat.div_lt_of_lt_mul (by rw [Nat.mul_comm]; exact hj)
          have hml : j % P.cellsOf e < P.cellsOf e := Nat.mod_lt _ hpos
          obtain ⟨c, q1, q2, _⟩ := hx _ hdl
          have hcl := (World.cells?_some q2).2.1
          have hcc := (World.cells?_some q2).2.2 _ hml
          have hjj : j / P.cellsOf e * P.cellsOf e + j % P.cellsOf e = j := by rw [Nat.mul_comm]; exact Nat.div_add_mod j _
          rw [add_add', hjj] at hcc
          have := f2 _ (j % P.cellsOf e) c _ q1 (List.getElem?_eq_getElem (by omega))
          rw [hjj, hu] at this
          rw [hcc, List.getElem?_eq_getElem (by omega), this]
        · obtain ⟨i, hi⟩ := List.getElem?_of_mem hx'
          have hil := (List.getElem?_eq_some_iff.1 hi).1
          obtain ⟨c, q1, _, q3⟩ := hx i (by omega)
          rw [hi] at q1
          obtain rfl := Option.some.inj q1
          exact q3
    · rename_i fs ht
      obtain ⟨xs, m, hf, _, hl, hxl, hx⟩ := DataW.trod_struct ht h
      obtain rfl : fuel = m := by omega
      refine ⟨hl, fun f hf => ?_⟩
      obtain ⟨i, hi⟩ := List.getElem?_of_mem hf
      have hil : i < fs.size := by have := (List.getElem?_eq_some_iff.1 hi).1; simpa using this
      have hq := hx i f (by simpa using hi)
      rw [List.getElem?_eq_getElem (by omega)] at hq
      exact opens_of fuel f.type _ _ hq
    · trivial
theorem flat_one {α : Type} (f : α → Value) : ∀ (l : List α), l.flatMap (fun b => [f b]) = l.map f
  | [] => rfl
  | b :: r => by rw [List.flatMap_cons, List.map_cons, flat_one f r]; rfl
theorem list_choose {α : Type} {f : α → List Value} {p : α → Prop} : ∀ {xs : List (List Value)}, (∀ x ∈ xs, ∃ a, x = f a ∧ p a) → ∃ ys : List α, ys.length = xs.length ∧ xs.flatten = ys.flatMap f ∧ ∀ a ∈ ys, p a
  | [], _ => ⟨[], rfl, rfl, fun _ h => by cases h⟩
  | x :: r, h => by
    obtain ⟨a, rfl, ha⟩ := h x List.mem_cons_self
    obtain ⟨ys, h0, h1, h2⟩ := list_choose (xs := r) (fun x hx => h x (List.mem_cons_of_mem _ hx))
    refine ⟨a :: ys, by simp [h0], by rw [List.flatten_cons, h1, List.flatMap_cons], fun b hb => ?_⟩
    rcases List.mem_cons.1 hb with rfl | hb
    · exact ha
    · exact h2 b hb
section
variable {P : Program} {w : World} {fuel : Nat} {t : TypeId} {cs : List Value}
theorem Opens.bool (h : Opens P w fuel t cs) (ht : P.underlying t = some .bool) : ∃ b, cs = [.bool b] := by
  cases fuel with
  | zero => exact h.elim
  | succ fuel => simp only [Opens, ht] at h; exact h
theorem Opens.int {k : IntKind} (h : Opens P w fuel t cs) (ht : P.underlying t = some (.int k)) : ∃ n, cs = [.int k n] ∧ k.min ≤ n ∧ n ≤ k.max := by
  cases fuel with
  | zero => exact h.elim
  | succ fuel =>
    simp only [Opens, ht] at h
    obtain ⟨n, h1, h2⟩ := h
    have h3 : k.min ≤ n ∧ n ≤ k.max := by simpa [Lit.wf] using h2
    exact ⟨n, h1, h3⟩
theorem Opens.u8 (h : Opens P w fuel t cs) (ht : P.underlying t = some (.int .u8)) : ∃ b : UInt8, cs = [byte b] := by
  obtain ⟨n, rfl, h1, h2⟩ := h.int ht
  refine ⟨UInt8.ofNat n.toNat, ?_⟩
  have h3 : 0 ≤ n := h1
  have h4 : n ≤ 255 := h2
  unfold byte
  rw [UInt8.toNat_ofNat']
  congr 2
  omega
theorem Opens.str (h : Opens P w fuel t cs) (ht : P.underlying t = some .string) : ∃ s, cs = [.string s] ∧ s.size ≤ maxLen := by
  cases fuel with
  | zero => exact h.elim
  | succ fuel => simp only [Opens, ht] at h; exact h
theorem Opens.slice {e : TypeId} (h : Opens P w fuel t cs) (ht : P.underlying t = some (.slice e)) : ∃ (A : Option Addr) (n c : Nat) (xs : List (List Value)) (m : Nat), cs = [.slice A n c] ∧ n ≤ c ∧ c ≤ maxLen ∧ xs.length = n ∧ (A = none → n = 0 ∧ c = 0) ∧ (∀ x ∈ xs, x.length = P.cellsOf e) ∧ Rd (P.cellsOf e) A n xs.flatten w ∧ ∀ x ∈ xs, Opens P w m e x := by
  cases fuel with
  | zero => exact h.elim
  | succ fuel =>
    simp only [Opens, ht] at h
    obtain ⟨A, n, c, xs, r⟩ := h
    exact ⟨A, n, c, xs, fuel, r⟩
theorem Opens.struct {fs : Array Field} (h : Opens P w fuel t cs) (ht : P.underlying t = some (.struct fs)) : ∃ m, cs.length = P.cellsOf t ∧ ∀ f ∈ fs.toList, Opens P w m f.type ((cs.drop f.offset).take (P.cellsOf f.type)) := by
  cases fuel with
  | zero => exact h.elim
  | succ fuel => simp only [Opens, ht] at h; exact ⟨fuel, h⟩
theorem Opens.structT {i : TI} (h : Opens P w fuel t cs) (ti : TiOk P t i) (hd : i.desc = .struct) : ∃ m, cs.length = P.cellsOf t ∧ ∀ (k off size : Nat) (ty : TypeId), i.fields[k]? = some (off, size) → i.ftys[k]? = some ty → Opens P w m ty ((cs.drop off).take (P.cellsOf ty)) := by
  obtain ⟨fs, h1, h2⟩ := ti.struct hd
  obtain ⟨m, h3, h4⟩ := h.struct h1
  refine ⟨m, h3, fun k off size ty hk hty => ?_⟩
  have e1 := ti.fields
  have e2 := ti.ftys
  rw [h2] at e1 e2
  rw [← e2, List.getElem?_map] at hty
  obtain ⟨f, hf, rfl⟩ := Option.map_eq_some_iff.1 hty
  have e3 := congrArg (fun l => l[k]?) e1
  simp only [List.getElem?_map, hf, hk, Option.map_some, Option.some.injEq, Prod.mk.injEq] at e3
  rw [← e3.1]
  exact h4 f (List.mem_of_getElem? hf)
theorem Opens.bytes {e : TypeId} (h : Opens P w fuel t cs) (ht : P.underlying t = some (.slice e)) (he : P.underlying e = some (.int .u8)) (hc : P.cellsOf e = 1) : ∃ (A : Option Addr) (p : List UInt8) (c : Nat), cs = [.slice A p.length c] ∧ p.length ≤ c ∧ c ≤ maxLen ∧ Bs w A p := by
  obtain ⟨A, n, c, xs, m, rfl, h1, h2, rfl, _, _, hr, hx⟩ := h.slice ht
  obtain ⟨p, hpl, hp, _⟩ := list_choose (f := fun b => [byte b]) (p := fun _ => True) (xs := xs) (fun x hx' => by obtain ⟨b, rfl⟩ := (hx x hx').u8 he; exact ⟨b, rfl, trivial⟩)
  have hf : p.flatMap (fun b => [byte b]) = p.map byte := flat_one byte p
  rw [hc, hp, hf] at hr
  rw [← hpl] at hr h1 ⊢
  exact ⟨A, p, c, rfl, h1, h2, hr⟩
end
end Go.Proofs.YteenjgfbbkdlhaaGreatDoor.Sx

namespace Go.Proofs.YteenjgfbbkdlhaaGreatDoor.Sx
open Go
attribute [local irreducible] Calls
def oldF (W0 : World) : Fact where
  own := false
  D := fun k => k < W0.heap.size
  p := fun w => ∀ k, k < W0.heap.size → w.heap[k]? = W0.heap[k]?
  st := fun w w' hs h k hk => (hs k hk).trans (h k hk)
theorem Rd.old {W0 w : World} {size : Nat} {A : Option Addr} {n : Nat} {xs : List Value} (h : Rd size A n xs W0) (ho : (oldF W0).p w) : Rd size A n xs w := by
  have hl := rd_lt h
  refine ⟨h.1, fun hn => ?_⟩
  obtain ⟨ad, hA, hc⟩ := h.2 hn
  refine ⟨ad, hA, fun j u hu => ?_⟩
  rw [← hc j u hu]
  have hb : (ad.add j).block = ad.block := by unfold Addr.add; split <;> rfl
  refine World.cell?_of_block ?_
  rw [hb]
  have hj : j < xs.length := (List.getElem?_eq_some_iff.1 hu).1
  exact ho _ (hl _ ⟨by rw [← h.1]; omega, ad, hA, rfl⟩)
theorem old_sat {cx : Cx} {w : World} (hW : cx.W0 = w := by rfl) (hbs : cx.bs = [] := by rfl) (hr : cx.rnd = none := by rfl) (hpn : cx.pn = [] := by rfl) : Sat cx Va.z 0 [] [oldF w] w :=
  (Sat.start hW hbs rfl rfl hr hpn).old (oldF w) (fun _ _ => rfl) (fun _ h => h) (fun _ h => by cases h) (fun q => by cases q) (fun _ h => by cases h)
theorem pu_of {P : Program} {k : FuncId} {args : Array Value} {w : World} {v : Value} (h : Calls P k args w fun en w' => ∃ u, en = .returned u ∧ u = v ∧ Chg None_ w w') : Pu P k args w v := by
  refine Calls.mono h ?_
  rintro en w' ⟨u, rfl, rfl, hc⟩
  exact ⟨_, rfl, [], ⟨rfl, rfl⟩, by rw [Un.nil]; exact hc, ⟨fun _ q => (by cases q), fun _ q => (by cases q), List.Pairwise.nil⟩, trivial, fun _ q => (by cases q)⟩
end Go.Proofs.YteenjgfbbkdlhaaGreatDoor.Sx

namespace Go.Proofs.YteenjgfbbkdlhaaGreatDoor.Sx
open Go
section
variable {cx : Cx} {n : Nat} {env : Env} {H : List Bk} {F : List Fact}
theorem takeAt_from {α : Type} : ∀ (k o : Nat) (l : List α), o + k ≤ l.length → takeAt l o k = some ((l.drop o).take k)
  | 0, o, l, _ => by simp [takeAt]
  | k + 1, o, l, h => by
    have ho : o < l.length := by omega
    rw [takeAt, nth_eq, List.getElem?_eq_getElem ho]
    simp only [takeAt_from k (o + 1) l (by omega)]
    rw [List.drop_eq_getElem_cons ho, List.take_succ_cons]
theorem takeAt_all {α : Type} {l : List α} {k : Nat} (h : l.length = k) : takeAt l 0 k = some l := by
  rw [takeAt_from k 0 l (by omega), List.drop_zero, ← h, List.take_length]
theorem putAll_all {α : Type} : ∀ (ys l : List α) (o : Nat), o + ys.length ≤ l.length → putAll l o ys = l.take o ++ ys ++ l.drop (o + ys.length)
  | [], l, o, h => by simp [putAll]
  | y :: ys, l, o, h => by
    simp only [List.length_cons] at h
    rw [putAll, putAll_all ys _ _ (by rw [putAt_eq, List.length_set]; omega), putAt_eq]
    rw [List.take_set, List.drop_set_of_lt (by omega)]
    rw [List.take_succ_eq_append_getElem (by omega), List.set_append_right _ _ (by simp; omega)]
    have e1 : o - (List.take o l).length = 0 := by simp; omega
    rw [e1, List.set_cons_zero, List.length_cons, show o + 1 + ys.length = o + (ys.length + 1) by omega]
    simp
theorem putAll_full {α : Type} {ys l : List α} (h : ys.length = l.length) : putAll l 0 ys = ys := by
  rw [putAll_all _ _ _ (by omega), Nat.zero_add, h, List.drop_length]; simp
theorem allOne_of {xs : List SL} (h : ∀ x ∈ xs, x.one = true) : allOne xs = true := by
  induction xs with
  | nil => rfl
  | cons x r ih =>
    simp only [allOne]
    rw [h x List.mem_cons_self]
    exact ih (fun y hy => h y (List.mem_cons_of_mem _ hy))
theorem m_true {b : Bool} {X : Prop} : b = true → X → match b with | true => X | false => False := fun h hk => by subst h; exact hk
end
end Go.Proofs.YteenjgfbbkdlhaaGreatDoor.Sx

namespace Go.Proofs.YteenjgfbbkdlhaaGreatDoor.Sx
open Go
theorem subPerm {cx : Cx} {n : Nat} {H : List Bk} {F : List Fact} (js : List Nat) (hn : nodupB js = true := by rfl) : Sub cx n H F H (takeIx F js) := fun _ _ h => h.perm js hn
theorem Rd.cell1 {w : World} {ad : Addr} {n : Nat} {xs : List Value} (h : Rd 1 (some ad) n xs w) {k : Nat} {u : Value} (hu : xs[k]? = some u) : w.cell? (ad.add (k * 1)) = some u := by
  have hk : k < xs.length := (List.getElem?_eq_some_iff.1 hu).1
  obtain ⟨ad', q, hc⟩ := h.2 (by have := h.1; omega)
  obtain rfl := Option.some.inj q
  rw [Nat.mul_one]
  exact hc k u hu
theorem at_lt {α : Type} {l : List α} {k : Nat} (h : k < l.length) : ∃ x, l[k]? = some x ∧ x ∈ l := ⟨l[k], List.getElem?_eq_getElem h, List.getElem_mem h⟩
section
variable {cx : Cx} {β : Va} {n : Nat} {env : Env} {H : List Bk} {F : List Fact} {w : World}
theorem Rd.take {A : Option Addr} {m : Nat} {ys : List Value} (h : Rd 1 A m ys w) {k : Nat} (hk : k ≤ m) : Rd 1 A k (ys.take k) w := by
  refine ⟨?_, fun hp => ?_⟩
  · rw [List.length_take, h.1]; omega
  · obtain ⟨ad, q, hc⟩ := h.2 (by omega)
    refine ⟨ad, q, fun j u hu => hc j u ?_⟩
    rw [List.getElem?_take] at hu
    split at hu
    · exact hu
    · cases hu
theorem Sat.copyRow (h : Sat cx β n H F w) (g : Good cx) (j : Nat) {b k c e m cs r : Nat} {A : Option Addr} {xs ys : List Value} (hj : nth F j = some (rowF e 1 (.slice (some ⟨b, 0, none⟩) k c) k xs)) (hr : Rd 1 A m ys w) (h1 : ∀ u ∈ ys, u.oneCell' = true)
    {t : TypeId} {i ie : TI} (ty : TypeId) (cst : Array Bool) (hm : min m k = r) (hi : lk cx.tt t = some i := by rfl) (hd : i.desc = .slice e := by rfl) (hie : lk cx.tt e = some ie := by rfl) (hz : ie.size = 1 := by rfl) :
    ∃ w', (builtin .copy #[t, t] ty cst #[.slice (some ⟨b, 0, none⟩) k c, .slice A m cs]).run cx.P w = .ok (.value (.int .i64 (r : Int))) w' ∧
      Sat cx β n H (putAt F j (rowF e 1 (.slice (some ⟨b, 0, none⟩) k c) k (putAll xs 0 (ys.take r)))) w' := by
  subst hm
  have ht := (g.ti hi).real (d := .slice _) hd rfl
  have tie := g.ti hie
  have hrt := hr.take (k := min m k) (Nat.min_le_left _ _)
  have hsz := tie.run_size w
  rw [hz] at hsz
  have hfc : (Builtin.firstCells 1 (min m k) (.slice A m cs)).run cx.P w = .ok (ys.take (min m k)).toArray w := by
    cases A with
    | none =>
      have h0 : min m k = 0 := by
        rcases Nat.eq_zero_or_pos (min m k) with q | q
        · exact q
        · obtain ⟨ad, q, _⟩ := hrt.2 q; cases q
      rw [h0]
      rfl
    | some ad =>
      have hl := run_loadCells_list (P := cx.P) (w := w) ad (ys.take (min m k)) (fun j u hu => by
        have hp : 0 < min m k := by
          rcases Nat.eq_zero_or_pos (min m k) with q | q
          · rw [q] at hu; simp at hu
          · exact q
        obtain ⟨ad', q, hc⟩ := hrt.2 hp
        obtain rfl := Option.some.inj q
        exact hc j u hu)
      have hlen : (ys.take (min m k)).length = min m k := by rw [hrt.1, Nat.mul_one]
      rw [hlen] at hl
      simpa [Builtin.firstCells] using hl
  obtain ⟨w', e1, e2⟩ := h.rowSet (us := ys.take (min m k)) (o := 0) hj (by rw [hrt.1]; have := Nat.min_le_right m k; omega) (fun u hu => h1 u (List.take_subset _ _ hu))
  rw [add_none, Nat.zero_add] at e1
  refine ⟨w', ?_, e2⟩
  have hmin : Nat.min m k = min m k := rfl
  simp [builtin, Builtin.copy_, run_underlying ht, Builtin.lenOf, hsz, hfc, e1, goInt, hmin]
theorem Sat.mapPut (h : Sat cx β n H F w) (g : Good cx) (j : Nat) {b : Nat} {l : ML} (hj : nth F j = some (mapF b l)) {t kt et : TypeId} {i ik : TI} (s : ByteArray) (v : Value) (hi : lk cx.tt t = some i := by rfl) (hd : i.desc = .map kt et := by rfl) (hik : lk cx.tt kt = some ik := by rfl) (hdk : ik.desc = .string := by rfl) :
    ∃ w', (Instr.mapUpdate t (.map (some b)) (.string s) v).run cx.P w = .ok () w' ∧ Sat cx β n H (putAt F j (mapF b (mput l s v))) w' := by
  obtain ⟨o, e1, e2⟩ := run_put (P := cx.P) ((g.ti hi).real (d := .map _ _) hd rfl) ((g.ti hik).real (d := .string) hdk rfl) (h.get j hj) s v
  exact ⟨_, e1, h.upd hj rfl (chg_put o) e2 (fun k hk => .inl hk)⟩
theorem Sat.mapPutY (h : Sat cx β n H F w) (g : Good cx) (j : Nat) {b : Nat} {l : ML} (hj : nth F j = some (mapF b l)) {t kt et : TypeId} {i ik : TI} (s : ByteArray) (v : Value) (hi : lk cx.tt t = some i := by rfl) (hd : i.desc = .map kt et := by rfl) (hik : lk cx.tt kt = some ik := by rfl) (hdk : ik.desc = .string := by rfl) :
    ∃ (w' : World) (y : Nat), (Instr.mapUpdate t (.map (some b)) (.string s) v).run cx.P w = .ok () w' ∧ Sat cx β n H ((fun _ => putAt F j (mapF b (mput l s v))) y) w' := by
  obtain ⟨w', e1, e2⟩ := h.mapPut g j hj s v hi hd hik hdk
  exact ⟨w', 0, e1, e2⟩
theorem Sat.bkSet (h : Sat cx β n H F w) (j : Nat) {b ty o : Nat} {cs us : List Value} (hj : nth F j = some (bkF b ty cs)) (hl : o + us.length ≤ cs.length) (h1 : ∀ u ∈ us, u.oneCell' = true) :
    ∃ w', (storeCells ((⟨b, 0, none⟩ : Addr).add o) us 0).run cx.P w = .ok () w' ∧ Sat cx β n H (putAt F j (bkF b ty (putAll cs o us))) w' := by
  have hb : w.heap[b]? = some (.cells cs.toArray ty (0, 0)) := h.get j hj
  obtain ⟨w', e1, e2, e3, e4⟩ := run_storeCells (P := cx.P) b ty us o 0 w cs hb h1 (by omega)
  refine ⟨w', by rw [add_none, Nat.zero_add]; exact e1, h.upd hj rfl (Chg.mono e3 (fun i _ q => by subst q; rfl)) ?_ (fun q hq => .inl hq)⟩
  show w'.heap[b]? = _
  rw [e2, Nat.add_zero]
end
end Go.Proofs.YteenjgfbbkdlhaaGreatDoor.Sx
