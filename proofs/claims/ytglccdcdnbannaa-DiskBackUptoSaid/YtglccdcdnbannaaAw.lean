/- Walks over data without memory: code, and regions in whatever order. No statement of the seat. -/
import Derived.Test.YtglccdcdnbannaaAv
set_option linter.unusedVariables false
set_option linter.unusedSimpArgs false
namespace Go.Proofs.Ytglccdcdnbannaa
open Go.RowKit

abbrev AQ := Exit → Env → List Ent → Prop
def PostA (C : Ctx) (Q : AQ) : Exit → Act → World → Prop := fun e a w => ∃ env hp, St C env hp a w ∧ Q e env hp
def AW (C : Ctx) (c : Code) (env : Env) (hp : List Ent) (Q : AQ) : Prop := ∀ a w, St C env hp a w → c.wp C.P (PostA C Q) a w

theorem least {p : Nat → Prop} (h : ∃ n, p n) : ∃ n, p n ∧ ∀ m, p m → n ≤ m := by
  obtain ⟨n, hn⟩ := h
  induction n using Nat.strongRecOn with
  | _ n ih =>
    by_cases h : ∃ m, m < n ∧ p m
    · obtain ⟨m, hm, hp⟩ := h
      exact ih m hm hp
    · exact ⟨n, hn, fun m hp => Nat.le_of_not_lt fun hlt => h ⟨m, hlt, hp⟩⟩

section code
variable {C : Ctx} {env env' : Env} {hp hp' : List Ent} {Q Q' : AQ}
theorem AW.weak {c : Code} (h : AW C c env' hp' Q) (hs : ∀ a w, St C env hp a w → St C env' hp' a w) : AW C c env hp Q := fun a w s => h a w (hs a w s)
theorem AW.mono {c : Code} (h : AW C c env hp Q) (hq : ∀ e env hp, Q e env hp → Q' e env hp) : AW C c env hp Q' := fun a w s => wp_mono (h a w s) fun e a w ⟨env, hp, s, q⟩ => ⟨env, hp, s, hq _ _ _ q⟩
theorem AW.skip (h : Q .normal env hp) : AW C .skip env hp Q := fun a w s => wp_skip ⟨env, hp, s, h⟩
theorem AW.label {l : Nat} (h : Q .normal env hp) : AW C (.label l) env hp Q := fun a w s => wp_label ⟨env, hp, s, h⟩
theorem AW.exit {i : Nat} (h : Q (.exit i) env hp) : AW C (.exit i) env hp Q := fun a w s => wp_exit ⟨env, hp, s, h⟩
theorem AW.goto {i : Nat} (h : Q (.goto i) env hp) : AW C (.goto i) env hp Q := fun a w s => wp_goto ⟨env, hp, s, h⟩
theorem AW.ret (h : Q .ret env hp) : AW C .ret env hp Q := fun a w s => wp_ret ⟨env, hp, s, h⟩
/-- Behind it y comes. -/
def SeqQ (C : Ctx) (y : Code) (Q : AQ) : AQ
  | .normal, env, hp => AW C y env hp Q
  | e, env, hp => Q e env hp
theorem AW.seq {x y : Code} (h : AW C x env hp (SeqQ C y Q)) : AW C (.seq x y) env hp Q := fun a w s =>
  wp_seq (wp_mono (h a w s) fun e a w ⟨env, hp, s, q⟩ => by
    cases e with
    | normal => exact q a w s
    | _ => exact ⟨env, hp, s, q⟩)
theorem SeqQ.go {y : Code} (h : AW C y env hp Q) : SeqQ C y Q .normal env hp := h
theorem SeqQ.ret {y : Code} (h : Q .ret env hp) : SeqQ C y Q .ret env hp := h
theorem SeqQ.exit {y : Code} {i : Nat} (h : Q (.exit i) env hp) : SeqQ C y Q (.exit i) env hp := h
def CutQ (M : Env → List Ent → Prop) (Q : AQ) : AQ
  | .normal, env, hp => M env hp
  | e, env, hp => Q e env hp
/-- Cut: what holds between is told. -/
theorem AW.cut {x y : Code} (M : Env → List Ent → Prop) (h : AW C x env hp (CutQ M Q)) (hy : ∀ env hp, M env hp → AW C y env hp Q) : AW C (.seq x y) env hp Q :=
  AW.seq (h.mono fun e env hp q => by
    cases e with
    | normal => exact hy _ _ q
    | _ => exact q)
theorem CutQ.ret {M : Env → List Ent → Prop} (h : Q .ret env hp) : CutQ M Q .ret env hp := h
theorem CutQ.exit {M : Env → List Ent → Prop} {i : Nat} (h : Q (.exit i) env hp) : CutQ M Q (.exit i) env hp := h
theorem AW.cond {c : Operand} {x y : Code} {b : Bool} (hc : env.ev c = some (.raw (.bool b))) (ht : b = true → AW C x env hp Q) (hf : b = false → AW C y env hp Q) : AW C (.cond c x y) env hp Q := fun a w s => by
  have h := s.ev hc
  generalize hv : a.eval c = v at h
  cases h
  cases b with
  | true => exact wp_cond_true hv (ht rfl a w s)
  | false => exact wp_cond_false hv (hf rfl a w s)
def InB (id : Nat) (Q : AQ) : AQ
  | .exit id', env, hp => if id' = id then Q .normal env hp else Q (.exit id') env hp
  | e, env, hp => Q e env hp
theorem AW.block {id : Nat} {c : Code} (h : AW C c env hp (InB id Q)) : AW C (.block id c) env hp Q := fun a w s =>
  wp_block (wp_mono (h a w s) fun e a w ⟨env, hp, s, q⟩ => by
    cases e with
    | exit id' =>
      simp only [Exit.inBlock, InB] at *
      split
      · rename_i hi; rw [if_pos hi] at q; exact ⟨env, hp, s, q⟩
      · rename_i hi; rw [if_neg hi] at q; exact ⟨env, hp, s, q⟩
    | _ => exact ⟨env, hp, s, q⟩)
theorem InB.normal {id : Nat} (h : Q .normal env hp) : InB id Q .normal env hp := h
theorem InB.ret {id : Nat} (h : Q .ret env hp) : InB id Q .ret env hp := h
theorem InB.hit {id : Nat} (h : Q .normal env hp) : InB id Q (.exit id) env hp := by show (if id = id then Q .normal env hp else Q (.exit id) env hp); rw [if_pos rfl]; exact h
theorem InB.miss {id i : Nat} (hne : Nat.beq i id = false) (h : Q (.exit i) env hp) : InB id Q (.exit i) env hp := by
  show (if i = id then Q .normal env hp else Q (.exit i) env hp)
  rw [if_neg (fun e => by subst e; simp at hne)]
  exact h
def LoopQ (C : Ctx) (I : Env → List Ent → Nat → Prop) (n : Nat) (Q : AQ) : AQ
  | .normal, env, hp => ∃ m env' hp', (∀ a w, St C env hp a w → St C env' hp' a w) ∧ I env' hp' m ∧ m < n
  | e, env, hp => Q e env hp
theorem LoopQ.ret {I : Env → List Ent → Nat → Prop} {n : Nat} (h : Q .ret env hp) : LoopQ C I n Q .ret env hp := h
theorem LoopQ.exit {I : Env → List Ent → Nat → Prop} {n i : Nat} (h : Q (.exit i) env hp) : LoopQ C I n Q (.exit i) env hp := h
theorem AW.loop {c : Code} (I : Env → List Ent → Nat → Prop) (n0 : Nat) (h0 : I env hp n0)
    (round : ∀ env hp n, I env hp n → AW C c env hp (LoopQ C I n Q)) : AW C (.loop c) env hp Q := fun a w s => by
  classical
  let J : Act → World → Nat → Prop := fun a w n => ∃ env hp, St C env hp a w ∧ I env hp n
  let μ : Act → World → Nat := fun a w => if h : ∃ n, J a w n then Classical.choose (least h) else 0
  have hμ : ∀ a w, (∃ n, J a w n) → J a w (μ a w) ∧ ∀ m, J a w m → μ a w ≤ m := fun a w h => by
    have : μ a w = Classical.choose (least h) := dif_pos h
    rw [this]
    exact Classical.choose_spec (least h)
  refine wp_loop (fun a w => ∃ n, J a w n) μ ⟨n0, env, hp, s, h0⟩ fun a w hJ => ?_
  obtain ⟨env, hp, s, hI⟩ := (hμ a w hJ).1
  refine wp_mono (round env hp _ hI a w s) fun e a' w' ⟨env1, hp1, s1, q⟩ => ?_
  cases e with
  | normal =>
    obtain ⟨m, env2, hp2, hs, hI2, hlt⟩ := q
    have hj : J a' w' m := ⟨env2, hp2, hs _ _ s1, hI2⟩
    exact ⟨⟨m, hj⟩, Nat.lt_of_le_of_lt ((hμ a' w' ⟨m, hj⟩).2 m hj) hlt⟩
  | _ => exact ⟨env1, hp1, s1, q⟩
end code

/-! ### Regions -/
theorem Env.ev_put {env : Env} {dst : Option Tmp} {d : AV} {x : Operand} (h : ∀ t, dst = some t → x ≠ .tmp t) : (env.put dst d).ev x = env.ev x := by
  cases dst with
  | none => rfl
  | some t =>
    cases x with
    | tmp s =>
      have : s ≠ t := fun e => h t rfl (by rw [e])
      simp [Env.ev, Env.put, this]
    | _ => rfl
theorem evs_put {env : Env} {dst : Option Tmp} {d : AV} : ∀ {xs : List Operand}, (∀ x ∈ xs, ∀ t, dst = some t → x ≠ .tmp t) → evs (env.put dst d) xs = evs env xs
  | [], _ => rfl
  | x :: xs, h => by
    unfold evs
    rw [Env.ev_put (h x (by simp)), evs_put (fun y hy => h y (by simp [hy]))]
theorem Env.put_comm (env : Env) {x y : Option Tmp} (d e : AV) (h : ∀ t, x = some t → y ≠ some t) : (env.put x d).put y e = (env.put y e).put x d := by
  cases x with
  | none => rfl
  | some s =>
    cases y with
    | none => rfl
    | some t =>
      have hne : s ≠ t := fun he => h s rfl (by rw [he])
      funext u
      simp only [Env.put]
      by_cases h1 : u = t
      · subst h1; rw [if_pos rfl, if_neg (Ne.symm hne), if_pos rfl]
      · rw [if_neg h1, if_neg h1]

def yE (ops : Array Oper) (env : Env) (j : Nat) : Option (Option Bool) := match ((ops[j]?).bind (·.dst)).bind env with
  | some (.raw (.bool b)) => some (some b)
  | some (.raw (.tuple _)) => some none
  | _ => none
def wantE (ops : Array Oper) (env : Env) (o : Oper) : Option Bool := match o.guard with
  | none => some true
  | some (j, want) => (yE ops env j).map (· == some want)
theorem wantE_put {ops : Array Oper} {env : Env} {o : Oper} {dst : Option Tmp} {d : AV} (h : ∀ t, dst = some t → t ∉ o.looksAt ops) : wantE ops (env.put dst d) o = wantE ops env o := by
  unfold wantE
  cases hg : o.guard with
  | none => rfl
  | some g =>
    obtain ⟨j, want⟩ := g
    have : yE ops (env.put dst d) j = yE ops env j := by
      unfold yE
      cases ht : (ops[j]?).bind (·.dst) with
      | none => rfl
      | some s =>
        cases dst with
        | none => rfl
        | some t =>
          have hne : s ≠ t := fun e => h t rfl (by simp [Oper.looksAt, hg, ht, e])
          simp [Env.put, hne]
    simp only [this]
theorem St.want {C : Ctx} {env : Env} {hp : List Ent} {a : Act} {w : World} (h : St C env hp a w) {ops : Array Oper} {o : Oper} {b : Bool} (hw : wantE ops env o = some b) : Region.wanted o (yielded ops a.tmps) = b := by
  unfold wantE at hw
  unfold Region.wanted
  cases hg : o.guard with
  | none => rw [hg] at hw; injection hw
  | some g =>
    obtain ⟨j, want⟩ := g
    rw [hg] at hw
    simp only at hw ⊢
    unfold yE at hw
    unfold yielded
    cases ht : (ops[j]?).bind (·.dst) with
    | none => rw [ht] at hw; simp at hw
    | some s =>
      rw [ht] at hw
      simp only [Option.bind_some] at hw ⊢
      cases hs : env s with
      | none => rw [hs] at hw; simp at hw
      | some d =>
        obtain ⟨v, hv, hr⟩ := h.env s d hs
        rw [hs] at hw
        rw [hv]
        cases hr with
        | raw v =>
          cases v <;> simp at hw
          · subst hw; rfl
          · subst hw; rfl
        | _ => simp at hw

section steps
variable {C : Ctx} {F : List Ent} {ops : Array Oper} {Q : Env → List Ent → Prop}

/-- One operation, of what G holds. -/
def AStepE (C : Ctx) (ops : Array Oper) (o : Oper) (env : Env) (G : List Ent) (K : Env → List Ent → Prop) : Prop :=
  (wantE ops env o = some true ∧ ∃ args hi rest K0, evs env o.op.operands.toList = some args ∧ G.Perm (hi ++ rest) ∧ OpS C.P o args hi K0 ∧ ∀ d ho, K0 d ho → K (env.put o.dst d) (ho ++ rest)) ∨
  (wantE ops env o = some false ∧ K (env.put o.dst (.raw undef)) G)
/-- One that changes nothing. -/
def AStepP0 (C : Ctx) (F : List Ent) (ops : Array Oper) (o : Oper) (env : Env) (d : AV) : Prop :=
  (wantE ops env o = some true ∧ ∃ args, evs env o.op.operands.toList = some args ∧ OpF C.P F o args d) ∨
  (wantE ops env o = some false ∧ d = .raw undef)
def AStep (C : Ctx) (F : List Ent) (ops : Array Oper) (o : Oper) (env : Env) (G : List Ent) (K : Env → List Ent → Prop) : Prop :=
  AStepE C ops o env G K ∨ (∃ d, AStepP0 C F ops o env d ∧ K (env.put o.dst d) G) ∨ ∃ d, AStepP0 C (G ++ F) ops o env d ∧ K (env.put o.dst d) G
/-- One that touches nothing, and what it yields is told: it may make memory. -/
def AStepP (C : Ctx) (F : List Ent) (ops : Array Oper) (o : Oper) (env : Env) (d : AV) : Prop :=
  AStepP0 C F ops o env d ∨ (wantE ops env o = some true ∧ ∃ args, evs env o.op.operands.toList = some args ∧ OpS C.P o args [] fun r ho => r = d ∧ ho = [])
theorem AStepP.step {o : Oper} {env : Env} {d : AV} {G : List Ent} {K : Env → List Ent → Prop} (h : AStepP C F ops o env d) (hk : K (env.put o.dst d) G) : AStep C F ops o env G K := by
  rcases h with h | ⟨h1, args, h2, h3⟩
  · exact .inr (.inl ⟨d, h, hk⟩)
  · exact .inl (.inl ⟨h1, args, [], G, _, h2, List.Perm.refl _, h3, fun d' ho ⟨e1, e2⟩ => by subst e1; subst e2; exact hk⟩)

theorem AStep.mono {o : Oper} {env : Env} {G : List Ent} {K K' : Env → List Ent → Prop} (h : AStep C F ops o env G K) (hk : ∀ env G, K env G → K' env G) : AStep C F ops o env G K' := by
  rcases h with (⟨h1, args, hi, rest, K0, h2, h3, h4, h5⟩ | ⟨h1, h2⟩) | ⟨d, h1, h2⟩ | ⟨d, h1, h2⟩
  · exact .inl (.inl ⟨h1, args, hi, rest, K0, h2, h3, h4, fun d ho h => hk _ _ (h5 d ho h)⟩)
  · exact .inl (.inr ⟨h1, hk _ _ h2⟩)
  · exact .inr (.inl ⟨d, h1, hk _ _ h2⟩)
  · exact .inr (.inr ⟨d, h1, hk _ _ h2⟩)

theorem wp_of_does {P : Program} {o : Oper} {a : Act} {w : World} {post : Value → World → Prop} {next : Act → World → Prop} {Q : Exit → Act → World → Prop} (h : Does P a.eval o w post) (hn : ∀ v w', post v w' → next (a.put o.dst v) w') : o.wp P a w next Q := by
  unfold Does at h
  unfold Oper.wp
  generalize (execOp a.eval o).run P w = r at *
  cases r with
  | ok x w' =>
    cases x <;> simp only [Oper.upon] at h ⊢ <;> first | exact hn _ _ h | exact h.elim | skip
    case enter f args => exact h.mono fun e w'' ⟨v, he, hv⟩ => by subst he; exact hn _ _ hv
  | halt x w' => exact h.elim

theorem wpOp_of_astep {i : Nat} {o : Oper} {env : Env} {G : List Ent} {K : Env → List Ent → Prop} {a : Act} {w : World} {Q' : Exit → Act → World → Prop} (hi : ops[i]? = some o) (hd : ∀ t, o.dst = some t → t < C.n)
    (s : St C env (G ++ F) a w) (h : AStep C F ops o env G K) : wpOp C.P ops Q' i (fun a w => ∃ env G, St C env (G ++ F) a w ∧ K env G) a w := by
  unfold wpOp
  simp only [hi]
  have unw : ∀ K : Env → List Ent → Prop, K (env.put o.dst (.raw undef)) G → ∃ env' G', St C env' (G' ++ F) (a.put o.dst undef) w ∧ K env' G' := fun K hk => ⟨_, G, s.pure hd (.raw _), hk⟩
  have rd : ∀ d, AStepP0 C (G ++ F) ops o env d → K (env.put o.dst d) G → (if Region.wanted o (yielded ops a.tmps) = true then o.wp C.P a w (fun a w => ∃ env G, St C env (G ++ F) a w ∧ K env G) Q' ∨ (o.asks C.P a w ∧ LetsOut Q') else ∃ env G_1, St C env (G_1 ++ F) (a.put o.dst undef) w ∧ K env G_1) := by
    rintro d (⟨h1, args, h2, h3⟩ | ⟨h1, rfl⟩) h4
    · rw [s.want h1, if_pos rfl]
      obtain ⟨v, hrun, hr⟩ := h3 C.L w a.eval s.ok (s.evs h2)
      refine .inl ?_
      unfold Oper.wp
      rw [hrun]
      exact ⟨_, G, s.pure hd hr, h4⟩
    · rw [s.want h1, if_neg (by simp)]
      exact unw K h4
  rcases h with (⟨h1, args, hi', rest, K0, h2, h3, h4, h5⟩ | ⟨h1, h2⟩) | ⟨d, (⟨h1, args, h2, h3⟩ | ⟨h1, rfl⟩), h4⟩ | ⟨d, h1, h4⟩
  case inr.inr => exact rd d h1 h4
  · rw [s.want h1, if_pos rfl]
    have p : (G ++ F).Perm (hi' ++ (rest ++ F)) := by rw [← List.append_assoc]; exact h3.append_right F
    have hok := (s.ok.perm p).left
    have hL : ∀ b ∈ hpB (rest ++ F) ++ C.L, b < w.heap.size := fun b hb => by
      rcases List.mem_append.1 hb with hb | hb
      · exact (s.ok.perm p).lt b (by rw [hpB_append]; simp [hb])
      · exact s.ltw b hb
    have hargs : RdL (hpB hi' ++ (hpB (rest ++ F) ++ C.L)) w args (o.op.operands.toList.map a.eval) := (s.evs h2).mv (Mv.less fun b hb => by
      rw [← List.append_assoc, ← hpB_append] at hb
      rcases List.mem_append.1 hb with hb | hb
      · exact List.mem_append.2 (.inl ((hpB_perm p).mem_iff.2 hb))
      · exact List.mem_append.2 (.inr hb))
    refine .inl (wp_of_does (h4 _ w a.eval hL hok hargs) fun v w' hv => ?_)
    obtain ⟨d, ho, hk, hr, ho', hf, hn⟩ := hv
    refine ⟨_, ho ++ rest, ?_, h5 d ho hk⟩
    rw [List.append_assoc]
    exact s.aft p hd hr ho' hf hn
  · rw [s.want h1, if_neg (by simp)]
    exact unw K h2
  · rw [s.want h1, if_pos rfl]
    have hF : HpOk (hpB G ++ C.L) w F := (s.ok.perm (List.perm_append_comm)).left
    obtain ⟨v, hrun, hr⟩ := h3 (hpB G ++ C.L) w a.eval hF ((s.evs h2).mv (Mv.less fun b hb => by rw [hpB_append]; simp only [List.mem_append] at hb ⊢; rcases hb with hb | hb | hb <;> simp [hb]))
    refine .inl ?_
    unfold Oper.wp
    rw [hrun]
    exact ⟨_, G, s.pure hd (hr.less fun b hb => by rw [hpB_append] at hb; simp only [List.mem_append] at hb ⊢; rcases hb with (hb | hb) | hb <;> simp [hb]), h4⟩
  · rw [s.want h1, if_neg (by simp)]
    exact unw K h4

/-- In whatever order, till those of A are listed. -/
def AAny (C : Ctx) (F : List Ent) (ops : Array Oper) (A : List Nat) (Q : Array Bool → Env → List Ent → Prop) : Nat → Array Bool → Env → List Ent → Prop
  | 0, listed, env, G => A.all (fun i => listed.getD i false) = true ∧ Q listed env G
  | n + 1, listed, env, G => (A.all (fun i => listed.getD i false) = true → Q listed env G) ∧
      (A.all (fun i => listed.getD i false) = false → Region.ready .any ops listed ≠ [] ∧ ∀ j ∈ Region.ready .any ops listed, j ∈ A ∧ ∃ o, ops[j]? = some o ∧ AStep C F ops o env G (AAny C F ops A Q n (listed.setIfInBounds j true)))

theorem unlA_len {listed : Array Bool} {j : Nat} (hsz : listed.size = ops.size) (hj : j ∈ Region.ready .any ops listed) :
    (unl ops listed).length = (unl ops (listed.setIfInBounds j true)).length + 1 := by
  obtain ⟨h0, o, ho, _⟩ := mem_ready.1 hj
  have hjs := (Array.getElem?_eq_some_iff.1 ho).1
  obtain ⟨p, q, hpq⟩ := List.append_of_mem (mem_unl.2 ⟨hjs, h0⟩)
  rw [unl_set hsz hjs hpq, hpq]
  simp only [List.length_append, List.length_cons]; omega

/-- Whatever is left, in whatever order. -/
def WA (C : Ctx) (ops : Array Oper) (Q' : AQ) (listed : Array Bool) (a : Act) (w : World) : Prop :=
  listed.size = ops.size → ∀ fuel, (unl ops listed).length ≤ fuel → wpAny C.P .any ops (PostA C Q') fuel listed a w

theorem WA.step {Q' : AQ} {listed : Array Bool} {a : Act} {w : World} (hne : Region.ready .any ops listed ≠ [])
    (h : ∀ j ∈ Region.ready .any ops listed, wpOp C.P ops (PostA C Q') j (WA C ops Q' (listed.setIfInBounds j true)) a w) : WA C ops Q' listed a w := fun hsz fuel hf => by
  cases fuel with
  | zero =>
    obtain ⟨j, hj⟩ := List.exists_mem_of_ne_nil _ hne
    have := unlA_len hsz hj
    omega
  | succ fuel =>
    refine ⟨fun h0 => absurd h0 hne, fun j hj => ?_⟩
    have := unlA_len hsz hj
    exact wpOp_mono (fun a' w' h' => h' (by simpa using hsz) fuel (by omega)) (h j hj)

theorem WA.of_aany {Q : Array Bool → Env → List Ent → Prop} {Q' : AQ} {A : List Nat} (hd : ∀ (o : Oper) (t : Nat), o ∈ ops → o.dst = some t → t < C.n) (listed0 : Array Bool)
    (hQ : ∀ listed env G a w, (∀ i, i ∉ A → listed[i]? = listed0[i]?) → listed.size = listed0.size → A.all (fun i => listed.getD i false) = true → Q listed env G → St C env (G ++ F) a w → WA C ops Q' listed a w) :
    ∀ (n : Nat) (listed : Array Bool) (env : Env) (G : List Ent) (a : Act) (w : World), (∀ i, i ∉ A → listed[i]? = listed0[i]?) → listed.size = listed0.size → AAny C F ops A Q n listed env G → St C env (G ++ F) a w → WA C ops Q' listed a w
  | 0, listed, env, G, a, w, h1, h2, h, s => hQ listed env G a w h1 h2 h.1 h.2 s
  | n + 1, listed, env, G, a, w, h1, h2, h, s => by
    cases hb : A.all (fun i => listed.getD i false) with
    | true => exact hQ listed env G a w h1 h2 hb (h.1 hb) s
    | false =>
      obtain ⟨hne, hs⟩ := h.2 hb
      refine WA.step hne fun j hj => ?_
      obtain ⟨hjA, o, ho, hst⟩ := hs j hj
      refine wpOp_mono (fun a' w' ⟨env', G', s', h'⟩ => ?_) (wpOp_of_astep ho (fun t => hd o t (Array.mem_of_getElem? ho)) s hst)
      refine WA.of_aany hd listed0 hQ n _ env' G' a' w' (fun i hi => ?_) (by simpa using h2) h' s'
      have hne : j ≠ i := fun e => hi (e ▸ hjA)
      rw [Array.getElem?_setIfInBounds_ne hne]
      exact h1 i hi

/-- Taken first, nothing hangs on it but what waits for it. -/
def freeA (ops : Array Oper) (A : List Nat) (listed : Array Bool) (i : Nat) : Bool := A.contains i && match ops[i]? with
  | none => false
  | some oi => (List.range ops.size).all fun j => match ops[j]? with
    | none => true
    | some oj => j == i || listed.getD j true || oj.after.any (fun e => Region.binds .any e && e.on == i) || (A.contains j && oi.apart ops oj)
theorem freeA_spec {A : List Nat} {listed : Array Bool} {i j : Nat} {oi oj : Oper} (h : freeA ops A listed i = true) (hi : ops[i]? = some oi) (hj : ops[j]? = some oj) (hne : j ≠ i) (hl : listed.getD j true = false)
    (hw : ∀ e ∈ oj.after, Region.binds .any e = true → e.on ≠ i) : j ∈ A ∧ oi.apart ops oj = true := by
  unfold freeA at h
  simp only [hi, Bool.and_eq_true] at h
  have h := List.all_eq_true.1 h.2 j (List.mem_range.2 (Array.getElem?_eq_some_iff.1 hj).1)
  simp only [hj, Bool.or_eq_true] at h
  rcases h with ((h | h) | h) | h
  · exact absurd (by simpa using h) hne
  · rw [hl] at h; cases h
  · obtain ⟨e, he, hx⟩ := Array.any_eq_true'.1 h
    simp only [Bool.and_eq_true, beq_iff_eq] at hx
    exact absurd hx.2 (hw e he hx.1)
  · simpa using h
theorem freeA_mem {A : List Nat} {listed : Array Bool} {i : Nat} (h : freeA ops A listed i = true) : i ∈ A := by
  unfold freeA at h
  rw [Bool.and_eq_true] at h
  simpa using h.1
theorem freeA_set {A : List Nat} {listed : Array Bool} {i j : Nat} (h : freeA ops A listed i = true) : freeA ops A (listed.setIfInBounds j true) i = true := by
  unfold freeA at *
  rw [Bool.and_eq_true] at h ⊢
  refine ⟨h.1, ?_⟩
  have h := h.2
  cases hi : ops[i]? with
  | none => rw [hi] at h; cases h
  | some oi =>
    simp only [hi] at h ⊢
    refine List.all_eq_true.2 fun k hk => ?_
    have h := List.all_eq_true.1 h k hk
    cases hok : ops[k]? with
    | none => rfl
    | some ok =>
      simp only [hok, Bool.or_eq_true] at h ⊢
      rcases h with ((h | h) | h) | h
      · exact .inl (.inl (.inl h))
      · refine .inl (.inl (.inr ?_))
        by_cases hjk : j = k
        · subst hjk
          rcases Nat.lt_or_ge j listed.size with h' | h'
          · simp [h']
          · simp [Array.getElem?_eq_none h']
        · rw [getD_set_ne true hjk]; exact h
      · exact .inl (.inr h)
      · exact .inr h

theorem opnd_looks {o : Oper} {t : Tmp} (h : t ∉ o.looksAt ops) : ∀ x ∈ o.op.operands.toList, x ≠ .tmp t := fun x hx e => h (by
  subst e
  exact List.mem_append_left _ (List.mem_filterMap.2 ⟨.tmp t, hx, rfl⟩))

theorem AStepP.put {o : Oper} {env : Env} {d e : AV} {dst : Option Tmp} (h : AStepP C F ops o env d) (hl : ∀ t, dst = some t → t ∉ o.looksAt ops) : AStepP C F ops o (env.put dst e) d := by
  unfold AStepP AStepP0 at *
  rw [wantE_put hl, evs_put (fun x hx t ht => opnd_looks (hl t ht) x hx)]
  exact h
theorem AStep.unput {o : Oper} {env : Env} {d : AV} {G : List Ent} {K K' : Env → List Ent → Prop} {dst : Option Tmp} (hl : ∀ t, dst = some t → t ∉ o.looksAt ops) (hd : ∀ t, dst = some t → o.dst ≠ some t)
    (h : AStep C F ops o (env.put dst d) G K) (hk : ∀ e G, K ((env.put o.dst e).put dst d) G → K' (env.put o.dst e) G) : AStep C F ops o env G K' := by
  have e1 : ∀ e, (env.put dst d).put o.dst e = (env.put o.dst e).put dst d := fun e => Env.put_comm env d e hd
  unfold AStep AStepE AStepP0 at *
  rw [wantE_put hl, evs_put (fun x hx t ht => opnd_looks (hl t ht) x hx)] at h
  rcases h with (⟨h1, args, hi, rest, K0, h2, h3, h4, h5⟩ | ⟨h1, h2⟩) | ⟨d', h1, h2⟩ | ⟨d', h1, h2⟩
  · exact .inl (.inl ⟨h1, args, hi, rest, K0, h2, h3, h4, fun d ho h => hk _ _ (by rw [← e1]; exact h5 d ho h)⟩)
  · exact .inl (.inr ⟨h1, hk _ _ (by rw [← e1]; exact h2)⟩)
  · exact .inr (.inl ⟨d', h1, hk _ _ (by rw [← e1]; exact h2)⟩)
  · exact .inr (.inr ⟨d', h1, hk _ _ (by rw [← e1]; exact h2)⟩)

theorem all_false {A : List Nat} {listed : Array Bool} {i : Nat} (hi : i ∈ A) (hl : listed.getD i true = false) : A.all (fun i => listed.getD i false) = false := by
  cases h : A.all (fun i => listed.getD i false) with
  | false => rfl
  | true =>
    have := List.all_eq_true.1 h i hi
    rw [listed_tf this] at hl; cases hl

/-- One that changes nothing may be taken first. -/
theorem AAny.take {A : List Nat} {Q : Array Bool → Env → List Ent → Prop} {i : Nat} {oi : Oper} {d : AV} (hi : ops[i]? = some oi) : ∀ (n : Nat) (listed : Array Bool) (env : Env) (G : List Ent), freeA ops A listed i = true → i ∈ Region.ready .any ops listed → AStepP C F ops oi env d →
    AAny C F ops A Q n (listed.setIfInBounds i true) (env.put oi.dst d) G → AAny C F ops A Q (n + 1) listed env G := by
  intro n
  induction n with
  | zero =>
    intro listed env G hf hr hp H
    have hiu := (mem_ready.1 hr).1
    have hiA := freeA_mem hf
    refine ⟨fun h0 => (by rw [all_false hiA hiu] at h0; cases h0), fun _ => ⟨fun h0 => (by rw [h0] at hr; cases hr), fun j hj => ?_⟩⟩
    by_cases hji : j = i
    · subst hji
      exact ⟨hiA, oi, hi, hp.step H⟩
    · exfalso
      obtain ⟨hju, oj, hoj, hall⟩ := mem_ready.1 hj
      have hw : ∀ e ∈ oj.after, Region.binds .any e = true → e.on ≠ i := fun e he hb hei => by
        have h1 := hall e he hb
        rw [hei] at h1
        rw [listed_tf h1] at hiu; cases hiu
      have hjA := (freeA_spec hf hi hoj hji hju hw).1
      have := all_false (listed := listed.setIfInBounds i true) hjA (by rw [getD_set_ne true (Ne.symm hji)]; exact hju)
      rw [H.1] at this; cases this
  | succ n ih =>
    intro listed env G hf hr hp H
    have hiu := (mem_ready.1 hr).1
    have hiA := freeA_mem hf
    refine ⟨fun h0 => (by rw [all_false hiA hiu] at h0; cases h0), fun _ => ⟨fun h0 => (by rw [h0] at hr; cases hr), fun j hj => ?_⟩⟩
    by_cases hji : j = i
    · subst hji
      exact ⟨hiA, oi, hi, hp.step H⟩
    · obtain ⟨hju, oj, hoj, hall⟩ := mem_ready.1 hj
      have hw : ∀ e ∈ oj.after, Region.binds .any e = true → e.on ≠ i := fun e he hb hei => by
        have h1 := hall e he hb
        rw [hei] at h1
        rw [listed_tf h1] at hiu; cases hiu
      obtain ⟨hjA, hap⟩ := freeA_spec hf hi hoj hji hju hw
      have hnot := all_false (listed := listed.setIfInBounds i true) hjA (by rw [getD_set_ne true (Ne.symm hji)]; exact hju)
      obtain ⟨_, oj', hoj', hs⟩ := (H.2 hnot).2 j (ready_mono hj hji)
      rw [hoj] at hoj'; injection hoj' with hoj'; subst hoj'
      obtain ⟨h1, h2, h3⟩ := Oper.apart_spec hap
      refine ⟨hjA, oj, hoj, AStep.unput (dst := oi.dst) (d := d) (fun t ht => h1 t ht) (fun t ht => h2 t ht) hs fun e G' hk => ?_⟩
      refine ih _ _ _ (freeA_set hf) (ready_mono hr (Ne.symm hji)) (hp.put fun t ht => h3 t ht) ?_
      rw [Array.setIfInBounds_comm _ _ hji]
      exact hk

/-- An order: those marked true change nothing, the others come up alone. -/
def ordOk (ops : Array Oper) (A : List Nat) : Array Bool → List (Nat × Bool) → Bool
  | listed, [] => A.all (fun i => listed.getD i false)
  | listed, (i, true) :: r => (Region.ready .any ops listed).contains i && freeA ops A listed i && ordOk ops A (listed.setIfInBounds i true) r
  | listed, (i, false) :: r => Region.ready .any ops listed == [i] && A.contains i && !listed.getD i true && ordOk ops A (listed.setIfInBounds i true) r
def ARun (C : Ctx) (F : List Ent) (ops : Array Oper) (Q : Env → List Ent → Prop) : List (Nat × Bool) → Env → List Ent → Prop
  | [], env, G => Q env G
  | (i, true) :: r, env, G => ∃ o, ops[i]? = some o ∧ ∃ d, AStepP C F ops o env d ∧ ARun C F ops Q r (env.put o.dst d) G
  | (i, false) :: r, env, G => ∃ o, ops[i]? = some o ∧ AStep C F ops o env G (ARun C F ops Q r)
theorem AAny.of_run {A : List Nat} : ∀ (r : List (Nat × Bool)) (listed : Array Bool) (env : Env) (G : List Ent), ordOk ops A listed r = true → ARun C F ops Q r env G → AAny C F ops A (fun _ env G => Q env G) r.length listed env G
  | [], listed, env, G, ho, h => ⟨ho, h⟩
  | (i, true) :: r, listed, env, G, ho, h => by
    obtain ⟨o, hi, d, h1, h2⟩ := h
    simp only [ordOk, Bool.and_eq_true] at ho
    exact AAny.take hi r.length listed env G ho.1.2 (by simpa using ho.1.1) h1 (AAny.of_run r _ _ _ ho.2 h2)
  | (i, false) :: r, listed, env, G, ho, h => by
    obtain ⟨o, hi, h1⟩ := h
    simp only [ordOk, Bool.and_eq_true, beq_iff_eq, Bool.not_eq_true'] at ho
    obtain ⟨⟨⟨g1, g2⟩, g3⟩, g4⟩ := ho
    have hiA : i ∈ A := by simpa using g2
    refine ⟨fun h0 => (by rw [all_false hiA g3] at h0; cases h0), fun _ => ⟨by rw [g1]; simp, fun j hj => ?_⟩⟩
    rw [g1] at hj
    obtain rfl := List.mem_singleton.1 hj
    exact ⟨hiA, o, hi, h1.mono fun env' G' h' => AAny.of_run r _ _ _ g4 h'⟩

def listByA (listed : Array Bool) : List Nat → Array Bool
  | [] => listed
  | i :: l => listByA (listed.setIfInBounds i true) l
theorem listByA_size : ∀ (l : List Nat) (listed : Array Bool), (listByA listed l).size = listed.size
  | [], _ => rfl
  | i :: l, listed => by rw [listByA, listByA_size l]; simp
theorem listByA_ne : ∀ (l : List Nat) (listed : Array Bool) (i : Nat), i ∉ l → (listByA listed l)[i]? = listed[i]?
  | [], _, _, _ => rfl
  | k :: l, listed, i, h => by
    rw [listByA, listByA_ne l _ i (fun hx => h (by simp [hx])), Array.getElem?_setIfInBounds_ne (fun e => h (by simp [e]))]
theorem listByA_true : ∀ (l : List Nat) (listed : Array Bool) (i : Nat), i < listed.size → (listed[i]? = some true ∨ i ∈ l) → (listByA listed l)[i]? = some true
  | [], listed, i, hi, h => by
    rcases h with h | h
    · exact h
    · cases h
  | k :: l, listed, i, hi, h => by
    rw [listByA]
    refine listByA_true l _ i (by simpa using hi) ?_
    by_cases hk : k = i
    · subst hk; left; simp [hi]
    · rcases h with h | h
      · left; rw [Array.getElem?_setIfInBounds_ne hk]; exact h
      · rcases List.mem_cons.1 h with h | h
        · exact absurd h.symm hk
        · exact .inr h
theorem listByA_eq {A : List Nat} {listed listed0 : Array Bool} (h1 : ∀ i, i ∉ A → listed[i]? = listed0[i]?) (h2 : listed.size = listed0.size) (h3 : A.all (fun i => listed.getD i false) = true) : listed = listByA listed0 A := by
  refine Array.ext_getElem? fun i => ?_
  by_cases hi : i ∈ A
  · have := List.all_eq_true.1 h3 i hi
    simp only [Array.getD_eq_getD_getElem?] at this
    have h4 : listed[i]? = some true := by
      cases h : listed[i]? with
      | none => rw [h] at this; cases this
      | some b => rw [h] at this; simpa using this
    rw [h4, listByA_true A listed0 i (by rw [← h2]; exact (Array.getElem?_eq_some_iff.1 h4).1) (.inr hi)]
  · rw [h1 i hi, listByA_ne A listed0 i hi]

/-- Parts, each behind all of the one ahead. -/
def phOk (ops : Array Oper) : Array Bool → List (List (Nat × Bool)) → Bool
  | listed, [] => Region.ready .any ops listed == []
  | listed, r :: rs => ordOk ops (r.map (·.1)) listed r && phOk ops (listByA listed (r.map (·.1))) rs
def APh (C : Ctx) (ops : Array Oper) (Q : Env → List Ent → Prop) : List (List (Nat × Bool)) → Env → List Ent → Prop
  | [], env, hp => Q env hp
  | r :: rs, env, hp => ∃ F G, hp.Perm (G ++ F) ∧ ARun C F ops (fun env G => APh C ops Q rs env (G ++ F)) r env G

theorem St.perm {env : Env} {hp hp' : List Ent} {a : Act} {w : World} (s : St C env hp a w) (p : hp.Perm hp') : St C env hp' a w :=
  ⟨s.df, s.sz, fun t d hx => by
      obtain ⟨v, h1, h2⟩ := s.env t d hx
      exact ⟨v, h1, h2.less fun b hb => by
        rcases List.mem_append.1 hb with hb | hb
        · exact List.mem_append.2 (.inl ((hpB_perm p).mem_iff.2 hb))
        · exact List.mem_append.2 (.inr hb)⟩, s.ok.perm p, s.fr, fun b hb => s.own b ((hpB_perm p).mem_iff.2 hb), s.lt⟩

theorem WA.of_ph {Q' : AQ} (hd : ∀ (o : Oper) (t : Nat), o ∈ ops → o.dst = some t → t < C.n) (hQ : ∀ env hp, Q env hp → Q' .normal env hp) : ∀ (rs : List (List (Nat × Bool))) (listed : Array Bool) (env : Env) (hp : List Ent) (a : Act) (w : World),
    phOk ops listed rs = true → APh C ops Q rs env hp → St C env hp a w → WA C ops Q' listed a w
  | [], listed, env, hp, a, w, ho, h, s => fun _ fuel _ => wpAny_done (by simpa [phOk] using ho) ⟨env, hp, s, hQ _ _ h⟩ fuel
  | r :: rs, listed, env, hp, a, w, ho, h, s => by
    obtain ⟨F, G, p, h⟩ := h
    simp only [phOk, Bool.and_eq_true] at ho
    refine WA.of_aany hd listed ?_ r.length listed env G a w (fun _ _ => rfl) rfl (AAny.of_run r listed env G ho.1 h) (s.perm p)
    intro listed' env' G' a' w' g1 g2 g3 g4 s'
    rw [listByA_eq g1 g2 g3]
    exact WA.of_ph hd hQ rs _ env' (G' ++ F) a' w' ho.2 g4 s'
end steps

def dstOk (ops : Array Oper) (n : Nat) : Bool := ops.all fun o => match o.dst with | some t => decide (t < n) | none => true
theorem dstOk_spec {ops : Array Oper} {n : Nat} (h : dstOk ops n = true) : ∀ (o : Oper) (t : Nat), o ∈ ops → o.dst = some t → t < n := fun o t ho hd => by
  have := Array.all_eq_true_iff_forall_mem.1 h o ho
  simpa [hd] using this

theorem AW.regionDraw {C : Ctx} {id : Nat} {ops : Array Oper} {env : Env} {hp : List Ent} {Q : AQ} (rs : List (List (Nat × Bool))) (hm : C.P.follows .mixedOrders = true) (hd : dstOk ops C.n = true) (ho : phOk ops (Array.replicate ops.size false) rs = true)
    (h : APh C ops (fun env hp => Q .normal env hp) rs env hp) : AW C (.region id ops true) env hp Q := fun a w s =>
  wp_region_any hm (WA.of_ph (dstOk_spec hd) (fun env hp h => h) rs _ env hp a _ ho h s.drew (by simp) _ (by
    unfold unl
    exact Nat.le_trans (List.length_filter_le _ _) (by simp)))

/-- Without a draw. -/
def ASeq (C : Ctx) (ops : Array Oper) (Q : Env → List Ent → Prop) : List Oper → Env → List Ent → Prop
  | [], env, hp => Q env hp
  | o :: os, env, hp => AStep C [] ops o env hp (ASeq C ops Q os)
theorem wpList_of_aseq {C : Ctx} {ops : Array Oper} {Q : Env → List Ent → Prop} {Q' : AQ} (hQ : ∀ env hp, Q env hp → Q' .normal env hp) : ∀ (l : List Oper) (env : Env) (hp : List Ent) (a : Act) (w : World), (∀ (o : Oper) (t : Nat), o ∈ l → o.dst = some t → t < C.n) →
    ASeq C ops Q l env hp → St C env hp a w → wpList C.P ops (PostA C Q') l a w
  | [], env, hp, a, w, _, h, s => ⟨env, hp, s, hQ _ _ h⟩
  | o :: os, env, hp, a, w, hd, h, s => by
    have s' : St C env (hp ++ []) a w := by rw [List.append_nil]; exact s
    have step : (Region.wanted o (yielded ops a.tmps) = true → o.wp C.P a w (wpList C.P ops (PostA C Q') os) (PostA C Q')) ∧ (Region.wanted o (yielded ops a.tmps) = false → wpList C.P ops (PostA C Q') os (a.put o.dst undef) w) := by
      have hdo : ∀ t, o.dst = some t → t < C.n := fun t ht => hd o t (by simp) ht
      have go : ∀ env' hp' a' w', St C env' hp' a' w' → ASeq C ops Q os env' hp' → wpList C.P ops (PostA C Q') os a' w' := fun env' hp' a' w' s' h' => wpList_of_aseq hQ os env' hp' a' w' (fun o t ho => hd o t (by simp [ho])) h' s'
      rcases h with (⟨h1, args, hi', rest, K0, h2, h3, h4, h5⟩ | ⟨h1, h2⟩) | ⟨d, (⟨h1, args, h2, h3⟩ | ⟨h1, rfl⟩), h4⟩ | ⟨d, (⟨h1, args, h2, h3⟩ | ⟨h1, rfl⟩), h4⟩
      · refine ⟨fun _ => ?_, fun hw => by rw [s.want h1] at hw; cases hw⟩
        have hok := (s.ok.perm h3).left
        have hL : ∀ b ∈ hpB rest ++ C.L, b < w.heap.size := fun b hb => by
          rcases List.mem_append.1 hb with hb | hb
          · exact (s.ok.perm h3).lt b (by rw [hpB_append]; simp [hb])
          · exact s.ltw b hb
        refine wp_of_does (h4 _ w a.eval hL hok ((s.evs h2).mv (Mv.less fun b hb => ?_))) fun v w' hv => ?_
        · rw [← List.append_assoc, ← hpB_append] at hb
          rcases List.mem_append.1 hb with hb | hb
          · exact List.mem_append.2 (.inl ((hpB_perm h3).mem_iff.2 hb))
          · exact List.mem_append.2 (.inr hb)
        · obtain ⟨d, ho, hk, hr, ho', hf, hn⟩ := hv
          exact go _ _ _ _ (s.aft h3 hdo hr ho' hf hn) (h5 d ho hk)
      · exact ⟨fun hw => (by rw [s.want h1] at hw; cases hw), fun _ => go _ _ _ _ (s.pure hdo (.raw _)) h2⟩
      · refine ⟨fun _ => ?_, fun hw => by rw [s.want h1] at hw; cases hw⟩
        obtain ⟨v, hrun, hr⟩ := h3 (hpB hp ++ C.L) w a.eval (HpOk.nil _ _) (s.evs h2)
        unfold Oper.wp
        rw [hrun]
        exact go _ _ _ _ (s.pure hdo hr) h4
      · exact ⟨fun hw => (by rw [s.want h1] at hw; cases hw), fun _ => go _ _ _ _ (s.pure hdo (.raw _)) h4⟩
      · refine ⟨fun _ => ?_, fun hw => by rw [s.want h1] at hw; cases hw⟩
        obtain ⟨v, hrun, hr⟩ := h3 C.L w a.eval s'.ok ((s'.evs h2))
        unfold Oper.wp
        rw [hrun]
        exact go _ _ _ _ (s.pure hdo (by rw [List.append_nil] at hr; exact hr)) h4
      · exact ⟨fun hw => (by rw [s.want h1] at hw; cases hw), fun _ => go _ _ _ _ (s.pure hdo (.raw _)) h4⟩
    simp only [wpList]
    split
    · rename_i hw; exact .inl (step.1 hw)
    · rename_i hw; exact step.2 (by simpa using hw)
theorem AW.region {C : Ctx} {id : Nat} {ops : Array Oper} {env : Env} {hp : List Ent} {Q : AQ} (hd : dstOk ops C.n = true) (h : ASeq C ops (fun env hp => Q .normal env hp) ops.toList env hp) : AW C (.region id ops false) env hp Q := fun a w s =>
  wp_region_list (wpList_of_aseq (fun env hp h => h) ops.toList env hp a w (fun o t ho => dstOk_spec hd o t (by simpa using ho)) h s)

/-! ### Functions -/
def envOf (ds : List AV) : Env := fun t => ds[t]?
/-- What is handed back. -/
def AResV (env : Env) : List ResultVar → Option (List AV)
  | [] => some []
  | .tmp t :: rs => match env t, AResV env rs with
    | some d, some ds => some (d :: ds)
    | _, _ => none
  | .cell .. :: _ => none
def resOf : List AV → AV
  | [d] => d
  | ds => .tup ds
def RetQ (fn : Func) (K : AV → List Ent → Prop) : AQ := fun e env hp => (e = .normal ∨ e = .ret) ∧ ∃ ds, AResV env fn.results.toList = some ds ∧ K (resOf ds) hp

theorem results_tmps {P : Program} (w : World) (tmps : Array Value) : ∀ (rs : List ResultVar), (∀ r ∈ rs, ∃ t, r = .tmp t) →
    (rs.mapM (m := Sem) fun | .tmp t => pure (tmps.getD t undef) | .cell a t => do loadVar t (← asAddr (tmps.getD a undef))).run P w = .ok (rs.map fun | .tmp t => tmps.getD t undef | .cell .. => undef) w
  | [], _ => rfl
  | r :: rs, h => by
    obtain ⟨t, rfl⟩ := h r (by simp)
    rw [List.mapM_cons]
    simp only [Sem.run_bind, Sem.run_pure, Result.andThen_ok]
    rw [results_tmps w tmps rs (fun r hr => h r (by simp [hr]))]
    rfl

theorem AResV.spec {C : Ctx} {env : Env} {hp : List Ent} {a : Act} {w : World} (s : St C env hp a w) : ∀ {rs : List ResultVar} {ds : List AV}, AResV env rs = some ds → (∀ r ∈ rs, ∃ t, r = .tmp t) ∧ RdL (hpB hp ++ C.L) w ds (rs.map fun | .tmp t => a.tmps.getD t undef | .cell .. => undef)
  | [], ds, h => by injection h with h; subst h; exact ⟨fun r h => (by cases h), .nil⟩
  | .cell .. :: _, ds, h => by cases h
  | .tmp t :: rs, ds, h => by
    unfold AResV at h
    cases h1 : env t with
    | none => rw [h1] at h; cases h
    | some d =>
      cases h2 : AResV env rs with
      | none => rw [h1, h2] at h; cases h
      | some es =>
        rw [h1, h2] at h
        injection h with h
        subst h
        obtain ⟨g1, g2⟩ := AResV.spec s h2
        obtain ⟨v, hv, hr⟩ := s.env t d h1
        refine ⟨fun r hr => by rcases List.mem_cons.1 hr with rfl | hr; exact ⟨t, rfl⟩; exact g1 r hr, .cons ?_ g2⟩
        show Rd (hpB hp ++ C.L) w d (a.tmps.getD t undef)
        have : a.tmps.getD t undef = v := by simp [Array.getD_eq_getD_getElem?, hv]
        rw [this]; exact hr

theorem RdL.len {L : List Nat} {w : World} {ds : List AV} {vs : List Value} (h : RdL L w ds vs) : vs.length = ds.length := by
  induction h with
  | nil => rfl
  | cons h t ih => simp [ih]
theorem RdL.get {L : List Nat} {w : World} {ds : List AV} {vs : List Value} (h : RdL L w ds vs) : ∀ {i : Nat} {d : AV} {u : Value}, ds[i]? = some d → vs[i]? = some u → Rd L w d u := by
  induction h with
  | nil => intro i d u h; simp at h
  | cons h t ih =>
    intro i d u h1 h2
    cases i with
    | zero => simp at h1 h2; subst h1; subst h2; exact h
    | succ i => exact ih (by simpa using h1) (by simpa using h2)

theorem ACalls.of {P : Program} {f : FuncId} {fn : Func} {c : Code} {args : List AV} {hi : List Ent} {K : AV → List Ent → Prop} (hf : P.funcs[f]? = some fn) (hb : fn.body = some c) (hn : (decide (args.length ≤ fn.ntmps)) = true)
    (h : ∀ C : Ctx, C.P = P → C.n = fn.ntmps → AW C c (envOf args) hi (RetQ fn K)) : ACalls P f args hi K := fun L w vs hL hok hargs => by
  have hlen := hargs.len
  have hn' : args.length ≤ fn.ntmps := by simpa using hn
  refine calls_of_wp hf hb (wp_mono (h { P := P, L := L, M := hpB hi, w0 := w, n := fn.ntmps } rfl rfl _ w ⟨rfl, ?_, fun t d hd => ?_, hok, Fr.refl _ _, fun b hb => .inl hb, hL⟩) fun e a' w' hq => ?_)
  · simp [hlen]; omega
  · have ht : t < args.length := (List.getElem?_eq_some_iff.1 hd).1
    have hv : vs[t]? = some (vs[t]'(by omega)) := List.getElem?_eq_getElem _
    refine ⟨_, ?_, hargs.get hd hv⟩
    rw [Array.getElem?_append_left (by simp; omega)]
    simp
  · obtain ⟨env, hp, s, he, ds, hds, hK⟩ := hq
    obtain ⟨g1, g2⟩ := AResV.spec s hds
    have hv : ∃ v, (results fn a'.tmps).run P w' = .ok v w' ∧ Rd (hpB hp ++ L) w' (resOf ds) v := by
      have hr := results_tmps (P := P) w' a'.tmps fn.results.toList g1
      generalize hus : (fn.results.toList.map fun | .tmp t => a'.tmps.getD t undef | .cell .. => undef) = us at *
      have hl := g2.len
      refine ⟨if h : us.toArray.size = 1 then us.toArray[0] else .tuple us.toArray, ?_, ?_⟩
      · unfold results
        rw [Array.mapM_eq_mapM_toList]
        simp only [Sem.run_bind, Sem.run_map, Sem.run_pure]
        generalize hq : Sem.run P (List.mapM _ fn.results.toList) w' = r
        have hq' : r = .ok us w' := hq.symm.trans hr
        subst hq'
        rfl
      · rcases ds with _ | ⟨d, ds⟩
        · have h0 : us = [] := List.eq_nil_of_length_eq_zero hl
          subst h0
          exact .tup [] rfl (fun i d u h => by simp at h)
        · rcases ds with _ | ⟨d2, ds⟩
          · rcases us with _ | ⟨u, us⟩
            · simp at hl
            · have h0 : us = [] := List.eq_nil_of_length_eq_zero (by simpa using hl)
              subst h0
              exact g2.get (i := 0) rfl rfl
          · have hne : us.toArray.size ≠ 1 := by simp at hl ⊢; omega
            rw [dif_neg hne]
            exact .tup us hl (fun i d u h1 h2 => g2.get h1 h2)
    obtain ⟨v, hv1, hv2⟩ := hv
    have hpost : ∃ v, (results fn a'.tmps).run P w' = .ok v w' ∧ ∃ v', Ending.returned v = .returned v' ∧ Aft L hi w K v' w' := ⟨v, hv1, v, rfl, resOf ds, hp, hK, hv2, s.ok, s.fr, s.own⟩
    rcases he with rfl | rfl
    · exact ⟨s.df, hpost⟩
    · exact ⟨s.df, hpost⟩
end Go.Proofs.Ytglccdcdnbannaa
