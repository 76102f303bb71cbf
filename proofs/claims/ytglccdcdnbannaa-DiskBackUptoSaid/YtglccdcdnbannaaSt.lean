/- Steps of a walk over data without memory. No statement of the seat. -/
import Derived.Test.YtglccdcdnbannaaEg
set_option linter.unusedVariables false
set_option linter.unusedSimpArgs false
namespace Go.Proofs.Ytglccdcdnbannaa
open Go.RowKit

/-! ### Struct literals -/
def fillA (pl : List (Nat × Nat)) : List AV → List (Nat × Operand) → List AV → Option (List AV)
  | cs, [], [] => some cs
  | cs, (i, _) :: ps, d :: ds => match pl[i]?, cellsA d with
    | some (off, size), some es => if es.length = size ∧ off + size ≤ cs.length then fillA pl (cs.take off ++ es ++ cs.drop (off + size)) ps ds else none
    | _, _ => none
  | _, _, _ => none
def builtOf (P : Program) (t : TypeId) : Option (List Value × List (Nat × Nat)) := match P.info? t, P.underlying t with
  | some it, some (.struct fields) => match it.zero, fields.toList.mapM (fun f => (P.info? f.type).map fun i => (f.offset, i.size)) with
    | some z, some places => if z.cells.toList.all (·.oneCell') = true then some (z.cells.toList, places) else none
    | _, _ => none
  | _, _ => none
class TBuild (P : Program) (t : TypeId) (zs : outParam (List Value)) (pl : outParam (List (Nat × Nat))) : Prop where
  h : builtOf P t = some (zs, pl)
theorem fillA_spec {L : List Nat} {w : World} {ρ : Operand → Value} {pl : List (Nat × Nat)} : ∀ {ps : List (Nat × Operand)} {ds cs cs' : List AV} {us : List Value}, fillA pl cs ps ds = some cs' → RdL L w ds (ps.map fun p => ρ p.2) → Cs L w cs us →
    ∃ us', Instr.fill (fun i => pl[i]?) us.toArray (ps.map fun p => (p.1, ρ p.2)) = some us'.toArray ∧ Cs L w cs' us'
  | [], [], cs, cs', us, h, hr, hc => by
    injection h with h
    subst h
    exact ⟨us, rfl, hc⟩
  | (i, x) :: ps, d :: ds, cs, cs', us, h, hr, hc => by
    simp only [fillA] at h
    split at h
    · rename_i off size es h1 h2
      split at h
      · rename_i h3
        obtain ⟨v, vs, he, hv, hvs⟩ := hr.c1
        simp only [List.map_cons, List.cons.injEq] at he
        obtain ⟨rfl, rfl⟩ := he
        obtain ⟨ws, hw, hcs⟩ := cellsA_spec h2 hv
        have hwl : ws.length = size := hcs.1.trans h3.1
        have hcl := hc.1
        have hfold := foldl_place off ws 0 us.toArray (by simp; omega)
        simp only [Nat.add_zero] at hfold
        obtain ⟨us', hf, hcs'⟩ := fillA_spec (ρ := ρ) h hvs (((hc.take off).append hcs).append (hc.drop (off + size)))
        refine ⟨us', ?_, hcs'⟩
        simp only [List.map_cons, Instr.fill, h1, hw]
        rw [if_neg (by simp; omega)]
        have e1 : Array.foldl (fun (cs : Array Value) (x : Value × Nat) => match x with | (c, j) => cs.setIfInBounds (off + j) c) us.toArray ws.toArray.zipIdx = (us.take off ++ ws ++ us.drop (off + size)).toArray := by
          apply Array.ext'
          rw [← Array.foldl_toList]
          simp only [Array.toList_zipIdx]
          have := hfold
          simp only [hwl] at this
          simpa using this
        rw [e1]
        exact hf
      · cases h
    · cases h
  | [], _ :: _, _, _, _, h, _, _ => by cases h
  | _ :: _, [], _, _, _, h, _, _ => by cases h

section
variable {P : Program} {F : List Ent} {o : Oper}
theorem opf_build {t : TypeId} {ps : Array (Nat × Operand)} {zs : List Value} {pl : List (Nat × Nat)} {ds cs : List AV} (ho : o.op = .build t ps) [hb : TBuild P t zs pl] (hf : fillA pl (zs.map .raw) ps.toList ds = some cs) : OpF P F o ds (.agg cs) := fun L w ρ hF hr => by
  have hops : o.op.operands.toList.map ρ = ps.toList.map fun p => ρ p.2 := by rw [ho]; simp [Op.operands]
  rw [hops] at hr
  have h := hb.h
  unfold builtOf at h
  split at h
  · rename_i it fields h1 h2
    split at h
    · rename_i z places h3 h4
      split at h
      · rename_i h5
        injection h with h
        simp only [Prod.mk.injEq] at h
        obtain ⟨rfl, rfl⟩ := h
        obtain ⟨us', hfl, hcs⟩ := fillA_spec (ρ := ρ) hf hr (Cs.raws h5)
        refine ⟨.agg us'.toArray, ?_, .agg _ hcs.1 hcs.one hcs.rd⟩
        have hbt : P.built t (ps.map fun p => (p.1, ρ p.2)).toList = some us'.toArray := by
          unfold Program.built
          simp only [h1, h2, h3, h4]
          simpa using hfl
        simp only [execOp, ho, Sem.run_bind]
        rw [show (ps.map fun (x : Nat × Operand) => match x with | (i, x) => (i, ρ x)) = ps.map fun p => (p.1, ρ p.2) from rfl, run_build w t _ _ hbt]
        rfl
      · cases h
    · cases h
  · cases h

/-! ### make -/
theorem made_els {L : List Nat} {w : World} {k : Nat} {kp : 0 < k} {z : Array Value} (hz : z.size = k) (h1 : z.toList.all (·.oneCell') = true) (n : Nat) : Els (cellsR k kp) L w (List.replicate n (z.toList.map .raw)) (madeCells z (n * k)).toList := by
  have : (madeCells z (n * k)).toList = (List.replicate n z.toList).flatten := by
    apply List.ext_getElem?
    intro j
    unfold madeCells
    simp only [Array.toList_map, Array.toList_range, List.getElem?_map]
    induction n generalizing j with
    | zero => simp
    | succ n ih =>
      rw [List.replicate_succ, List.flatten_cons, List.getElem?_append]
      simp only [Array.length_toList, hz]
      by_cases hj : j < k
      · rw [if_pos hj, List.getElem?_range (by rw [Nat.add_mul]; omega)]
        simp [hz, hj, Nat.mod_eq_of_lt hj]
      · rw [if_neg hj, ← ih]
        by_cases hj2 : j < (n + 1) * k
        · rw [List.getElem?_range hj2, List.getElem?_range (by rw [Nat.add_mul] at hj2; omega)]
          simp only [Option.map_some, hz]
          congr 2
          exact (Nat.mod_eq_sub_mod (by omega))
        · rw [List.getElem?_eq_none (by simpa using hj2), List.getElem?_eq_none (by rw [Nat.add_mul] at hj2; simp; omega)]
          rfl
  rw [this]
  clear this
  induction n with
  | zero => rfl
  | succ n ih => exact ⟨z.toList, _, rfl, ⟨by simp [hz], Cs.raws h1⟩, ih⟩
theorem ops_make {t e : TypeId} {x y : Operand} {k n : Nat} {z : Value} {bytes : Nat} {k1 k2 : IntKind} (ho : o.op = .makeSlice t x y) [ht : TSl P t e] [he : TEl P e z k bytes] (hb : bytes * n ≤ 281474976710656) :
    OpS P o [.raw (.int k1 (n : Int)), .raw (.int k2 (n : Int))] [] (IsOwn e k n (List.replicate n (z.cells.toList.map .raw))) :=
  opS2 (x := x) (y := y) (by rw [ho]; rfl) fun L w ρ hL hok r1 r2 => by
    have kp : 0 < k := he.hz.2.1
    obtain ⟨i, hi, h2⟩ := Option.map_eq_some_iff.1 he.h
    simp only [Prod.mk.injEq] at h2
    obtain ⟨hz0, rfl, rfl⟩ := h2
    have hn : n ≤ maxLen := by
      have : n ≤ i.bytes * n := Nat.le_mul_of_pos_left _ he.hz.2.2.1
      unfold maxLen; omega
    obtain ⟨w', hr, ho', hg⟩ := run_make_full (P := P) w 0 t e i z i.size ht.h hi hz0 rfl k1 k2 n hb hn (Nat.zero_le _)
    have hf : Fr [] w w' := (Fr.refl [] w).grown hg (fun k hk => by cases hk)
    have hels := made_els (L := [w.heap.size] ++ L) (w := w') (kp := kp) he.hz.1 he.hz.2.2.2 n
    refine does_value (w' := w') (by simp [execOp, ho, r1.rawEq, r2.rawEq, hr]) (aft_own (A := some ⟨w.heap.size, 0, none⟩) (c := n) ⟨_, by rw [cellsR_k]; simpa using ho', hels, fun b hb hx => ?_⟩ hf (fun b hb => ?_))
    · simp [Value.ownBlock] at hb
      have := hL b hx
      omega
    · simp [Value.ownBlock] at hb
      exact .inr (by omega)
end

/-! ### What stands in a frame, as a list -/
def look : List (Nat × AV) → Nat → Option AV
  | [], _ => none
  | (s, d) :: l, t => match Nat.beq t s with
    | true => some d
    | false => look l t
def Env.of (l : List (Nat × AV)) : Env := look l
def putL (dst : Option Tmp) (d : AV) (l : List (Nat × AV)) : List (Nat × AV) := match dst with
  | some t => (t, d) :: l
  | none => l
theorem Env.of_put (l : List (Nat × AV)) (dst : Option Tmp) (d : AV) : (Env.of l).put dst d = Env.of (putL dst d l) := by
  cases dst with
  | none => rfl
  | some t =>
    funext s
    show (if s = t then some d else look l s) = look ((t, d) :: l) s
    unfold look
    by_cases h : s = t
    · subst h; simp
    · have : Nat.beq s t = false := by cases hb : Nat.beq s t with | false => rfl | true => exact absurd (Nat.eq_of_beq_eq_true hb) h
      rw [if_neg h, this]
      cases l <;> rfl
def enumA : Nat → List AV → List (Nat × AV)
  | _, [] => []
  | n, d :: ds => (n, d) :: enumA (n + 1) ds
theorem look_enum : ∀ (ds : List AV) (n t : Nat), look (enumA n ds) t = if n ≤ t then ds[t - n]? else none
  | [], n, t => by unfold enumA look; split <;> simp
  | d :: ds, n, t => by
    unfold enumA look
    cases hb : Nat.beq t n with
    | true =>
      have := Nat.eq_of_beq_eq_true hb
      subst this
      simp
    | false =>
      have hne : t ≠ n := fun e => by subst e; simp at hb
      simp only [look_enum ds (n + 1) t]
      by_cases h : n ≤ t
      · rw [if_pos (by omega), if_pos h, show t - n = (t - (n + 1)) + 1 by omega]; simp
      · rw [if_neg (by omega), if_neg h]
theorem envOf_eq (ds : List AV) : envOf ds = Env.of (enumA 0 ds) := by
  funext t
  unfold envOf Env.of
  rw [look_enum]
  simp

/-- Of what is held, one is picked. -/
inductive Pick : Ent → List Ent → List Ent → Prop where
  | here {e : Ent} {l : List Ent} : Pick e (e :: l) l
  | there {e x : Ent} {l r : List Ent} (h : Pick e l r) : Pick e (x :: l) (x :: r)
theorem Pick.perm {e : Ent} {l r : List Ent} (h : Pick e l r) : l.Perm (e :: r) := by
  induction h with
  | here => exact List.Perm.refl _
  | there h ih => exact (List.Perm.cons _ ih).trans (List.Perm.swap ..)
/-- Many are picked. -/
inductive Picks : List Ent → List Ent → List Ent → Prop where
  | nil {l : List Ent} : Picks [] l l
  | cons {e : Ent} {es l r r' : List Ent} (h : Pick e l r) (t : Picks es r r') : Picks (e :: es) l r'
theorem Picks.perm {es l r : List Ent} (h : Picks es l r) : l.Perm (es ++ r) := by
  induction h with
  | nil => exact List.Perm.refl _
  | cons h t ih => exact h.perm.trans (List.Perm.cons _ ih)

/-! ### Goals of a walk -/
/-- What comes behind. -/
inductive QT where
  | fin (fn : Func) (K : AV → List Ent → Prop)
  | seq (y : Code) (q : QT)
  | blk (id : Nat) (q : QT)
  | loop (I : List (Nat × AV) → List Ent → Nat → Prop) (n : Nat) (q : QT)
  | cut (M : List (Nat × AV) → List Ent → Prop) (q : QT)
def QT.den (C : Ctx) : QT → AQ
  | .fin fn K => RetQ fn K
  | .seq y q => SeqQ C y (q.den C)
  | .blk id q => InB id (q.den C)
  | .loop I n q => LoopQ C (fun env hp n => ∃ l, env = Env.of l ∧ I l hp n) n (q.den C)
  | .cut M q => CutQ (fun env hp => ∃ l hp', (∀ a w, St C env hp a w → St C (Env.of l) hp' a w) ∧ M l hp') (q.den C)
/-- Code is to be walked. -/
structure CodeG (C : Ctx) (c : Code) (l : List (Nat × AV)) (hp : List Ent) (q : QT) : Prop where
  h : AW C c (Env.of l) hp (q.den C)
/-- An end was come to. -/
structure PostG (C : Ctx) (q : QT) (e : Exit) (l : List (Nat × AV)) (hp : List Ent) : Prop where
  h : q.den C e (Env.of l) hp
/-- Operations of a region. -/
structure SeqG (C : Ctx) (ops : Array Oper) (os : List Oper) (l : List (Nat × AV)) (hp : List Ent) (q : QT) : Prop where
  h : ASeq C ops (fun env hp => q.den C .normal env hp) os (Env.of l) hp
/-- Parts of a region that draws. -/
structure PhG (C : Ctx) (ops : Array Oper) (rs : List (List (Nat × Bool))) (l : List (Nat × AV)) (hp : List Ent) (q : QT) : Prop where
  h : APh C ops (fun env hp => q.den C .normal env hp) rs (Env.of l) hp
structure RunG (C : Ctx) (F : List Ent) (ops : Array Oper) (rr : List (Nat × Bool)) (rs : List (List (Nat × Bool))) (l : List (Nat × AV)) (G : List Ent) (q : QT) : Prop where
  h : ARun C F ops (fun env G => APh C ops (fun env hp => q.den C .normal env hp) rs env (G ++ F)) rr (Env.of l) G

section steps
variable {C : Ctx} {P : Program} {ops : Array Oper} {os : List Oper} {o : Oper} {q : QT} {l : List (Nat × AV)} {hp : List Ent} {args : List AV} {d : AV} {t : Tmp}
theorem put_some (hd : o.dst = some t) : (Env.of l).put o.dst d = Env.of ((t, d) :: l) := by rw [hd, Env.of_put]; rfl
theorem put_none (hd : o.dst = none) : (Env.of l).put o.dst d = Env.of l := by rw [hd]; rfl
/-- Reads, or reckons. -/
theorem SeqG.r (hP : C.P = P) (hd : o.dst = some t) (hw : wantE ops (Env.of l) o = some true) (ha : evs (Env.of l) o.op.operands.toList = some args) (hop : OpF P hp o args d) (h : SeqG C ops os ((t, d) :: l) hp q) : SeqG C ops (o :: os) l hp q := by
  subst hP
  exact ⟨.inr (.inr ⟨d, .inl ⟨hw, args, ha, by rw [List.append_nil]; exact hop⟩, by rw [put_some hd]; exact h.h⟩)⟩
theorem SeqG.u (hd : o.dst = some t) (hw : wantE ops (Env.of l) o = some false) (h : SeqG C ops os ((t, .raw undef) :: l) hp q) : SeqG C ops (o :: os) l hp q :=
  ⟨.inl (.inr ⟨hw, by rw [put_some hd]; exact h.h⟩)⟩
theorem SeqG.un (hd : o.dst = none) (hw : wantE ops (Env.of l) o = some false) (h : SeqG C ops os l hp q) : SeqG C ops (o :: os) l hp q :=
  ⟨.inl (.inr ⟨hw, by rw [put_none hd]; exact h.h⟩)⟩
theorem SeqG.e {hi rest : List Ent} {K0 : AV → List Ent → Prop} (hP : C.P = P) (hd : o.dst = some t) (hw : wantE ops (Env.of l) o = some true) (ha : evs (Env.of l) o.op.operands.toList = some args) (hop : OpS P o args hi K0) (hk : Picks hi hp rest)
    (h : ∀ d ho, K0 d ho → SeqG C ops os ((t, d) :: l) (ho ++ rest) q) : SeqG C ops (o :: os) l hp q := by
  subst hP
  exact ⟨.inl (.inl ⟨hw, args, hi, rest, K0, ha, hk.perm, hop, fun d ho hK => by rw [put_some hd]; exact (h d ho hK).h⟩)⟩
theorem SeqG.n {hi rest : List Ent} {K0 : AV → List Ent → Prop} (hP : C.P = P) (hd : o.dst = none) (hw : wantE ops (Env.of l) o = some true) (ha : evs (Env.of l) o.op.operands.toList = some args) (hop : OpS P o args hi K0) (hk : Picks hi hp rest)
    (h : ∀ d ho, K0 d ho → SeqG C ops os l (ho ++ rest) q) : SeqG C ops (o :: os) l hp q := by
  subst hP
  exact ⟨.inl (.inl ⟨hw, args, hi, rest, K0, ha, hk.perm, hop, fun d ho hK => by rw [put_none hd]; exact (h d ho hK).h⟩)⟩
theorem SeqG.nil (h : PostG C q .normal l hp) : SeqG C ops [] l hp q := ⟨h.h⟩

variable {F G : List Ent} {i : Nat} {rr : List (Nat × Bool)} {rs : List (List (Nat × Bool))}
def nthO : List Oper → Nat → Option Oper
  | [], _ => none
  | o :: _, 0 => some o
  | _ :: l, i + 1 => nthO l i
theorem nthO_eq : ∀ (l : List Oper) (i : Nat), nthO l i = l[i]?
  | [], _ => by simp [nthO]
  | _ :: _, 0 => rfl
  | _ :: l, i + 1 => by simp [nthO, nthO_eq l i]
theorem nthO_ops (h : nthO ops.toList i = some o) : ops[i]? = some o := by rw [nthO_eq] at h; simpa using h
theorem RunG.p (hP : C.P = P) (hi : nthO ops.toList i = some o) (hd : o.dst = some t) (hw : wantE ops (Env.of l) o = some true) (ha : evs (Env.of l) o.op.operands.toList = some args) (hop : OpF P F o args d) (h : RunG C F ops rr rs ((t, d) :: l) G q) : RunG C F ops ((i, true) :: rr) rs l G q := by
  subst hP
  exact ⟨o, nthO_ops hi, d, .inl (.inl ⟨hw, args, ha, hop⟩), by rw [put_some hd]; exact h.h⟩
/-- Makes memory at most. -/
theorem RunG.dt (hP : C.P = P) (hi : nthO ops.toList i = some o) (hd : o.dst = some t) (hw : wantE ops (Env.of l) o = some true) (ha : evs (Env.of l) o.op.operands.toList = some args) (hop : OpS P o args [] fun r ho => r = d ∧ ho = []) (h : RunG C F ops rr rs ((t, d) :: l) G q) : RunG C F ops ((i, true) :: rr) rs l G q := by
  subst hP
  exact ⟨o, nthO_ops hi, d, .inr ⟨hw, args, ha, hop⟩, by rw [put_some hd]; exact h.h⟩
theorem RunG.pu (hi : nthO ops.toList i = some o) (hd : o.dst = some t) (hw : wantE ops (Env.of l) o = some false) (h : RunG C F ops rr rs ((t, .raw undef) :: l) G q) : RunG C F ops ((i, true) :: rr) rs l G q :=
  ⟨o, nthO_ops hi, _, .inl (.inr ⟨hw, rfl⟩), by rw [put_some hd]; exact h.h⟩
theorem RunG.r (hP : C.P = P) (hi : nthO ops.toList i = some o) (hd : o.dst = some t) (hw : wantE ops (Env.of l) o = some true) (ha : evs (Env.of l) o.op.operands.toList = some args) (hop : OpF P (G ++ F) o args d) (h : RunG C F ops rr rs ((t, d) :: l) G q) : RunG C F ops ((i, false) :: rr) rs l G q := by
  subst hP
  exact ⟨o, nthO_ops hi, .inr (.inr ⟨d, .inl ⟨hw, args, ha, hop⟩, by rw [put_some hd]; exact h.h⟩)⟩
theorem RunG.u (hi : nthO ops.toList i = some o) (hd : o.dst = some t) (hw : wantE ops (Env.of l) o = some false) (h : RunG C F ops rr rs ((t, .raw undef) :: l) G q) : RunG C F ops ((i, false) :: rr) rs l G q :=
  ⟨o, nthO_ops hi, .inl (.inr ⟨hw, by rw [put_some hd]; exact h.h⟩)⟩
theorem RunG.un (hi : nthO ops.toList i = some o) (hd : o.dst = none) (hw : wantE ops (Env.of l) o = some false) (h : RunG C F ops rr rs l G q) : RunG C F ops ((i, false) :: rr) rs l G q :=
  ⟨o, nthO_ops hi, .inl (.inr ⟨hw, by rw [put_none hd]; exact h.h⟩)⟩
theorem RunG.e {hi' rest : List Ent} {K0 : AV → List Ent → Prop} (hP : C.P = P) (hi : nthO ops.toList i = some o) (hd : o.dst = some t) (hw : wantE ops (Env.of l) o = some true) (ha : evs (Env.of l) o.op.operands.toList = some args) (hop : OpS P o args hi' K0) (hk : Picks hi' G rest)
    (h : ∀ d ho, K0 d ho → RunG C F ops rr rs ((t, d) :: l) (ho ++ rest) q) : RunG C F ops ((i, false) :: rr) rs l G q := by
  subst hP
  exact ⟨o, nthO_ops hi, .inl (.inl ⟨hw, args, hi', rest, K0, ha, hk.perm, hop, fun d ho hK => by rw [put_some hd]; exact (h d ho hK).h⟩)⟩
theorem RunG.n {hi' rest : List Ent} {K0 : AV → List Ent → Prop} (hP : C.P = P) (hi : nthO ops.toList i = some o) (hd : o.dst = none) (hw : wantE ops (Env.of l) o = some true) (ha : evs (Env.of l) o.op.operands.toList = some args) (hop : OpS P o args hi' K0) (hk : Picks hi' G rest)
    (h : ∀ d ho, K0 d ho → RunG C F ops rr rs l (ho ++ rest) q) : RunG C F ops ((i, false) :: rr) rs l G q := by
  subst hP
  exact ⟨o, nthO_ops hi, .inl (.inl ⟨hw, args, hi', rest, K0, ha, hk.perm, hop, fun d ho hK => by rw [put_none hd]; exact (h d ho hK).h⟩)⟩
theorem RunG.nil (h : PhG C ops rs l (G ++ F) q) : RunG C F ops [] rs l G q := ⟨h.h⟩
theorem RunG.nil0 (h : PhG C ops rs l F q) : RunG C F ops [] rs l [] q := ⟨h.h⟩
theorem RunG.nil1 (h : PhG C ops rs l G q) : RunG C [] ops [] rs l G q := ⟨by have := h.h; rw [← List.append_nil G] at this; exact this⟩
/-- All stand. -/
theorem PhG.stand (h : RunG C hp ops rr rs l [] q) : PhG C ops (rr :: rs) l hp q := ⟨hp, [], List.Perm.refl _, h.h⟩
/-- All may turn. -/
theorem PhG.turn (h : RunG C [] ops rr rs l hp q) : PhG C ops (rr :: rs) l hp q := ⟨[], hp, by rw [List.append_nil], h.h⟩
theorem PhG.part (hk : Picks G hp F) (h : RunG C F ops rr rs l G q) : PhG C ops (rr :: rs) l hp q := ⟨F, G, hk.perm, h.h⟩
theorem PhG.nil (h : PostG C q .normal l hp) : PhG C ops [] l hp q := ⟨h.h⟩
end steps

section code
variable {C : Ctx} {P : Program} {n : Nat} {l : List (Nat × AV)} {hp : List Ent} {q : QT}
/-- Less of a frame. -/
def SubL : List (Nat × AV) → List (Nat × AV) → Prop
  | [], _ => True
  | (t, d) :: r, l => look l t = some d ∧ SubL r l
theorem SubL.mem : ∀ {l' l : List (Nat × AV)}, SubL l' l → ∀ p ∈ l', look l p.1 = some p.2
  | _ :: _, _, h, p, hp => by
    rcases List.mem_cons.1 hp with rfl | hp
    · exact h.1
    · exact SubL.mem h.2 p hp
theorem look_mem : ∀ {l : List (Nat × AV)} {t : Nat} {d : AV}, look l t = some d → (t, d) ∈ l
  | (s, e) :: l, t, d, h => by
    unfold look at h
    cases hb : Nat.beq t s with
    | true => rw [hb] at h; injection h with h; have := Nat.eq_of_beq_eq_true hb; subst this; subst h; simp
    | false => rw [hb] at h; exact List.mem_cons_of_mem _ (look_mem h)
theorem St.sub {l' : List (Nat × AV)} {hp' : List Ent} {a : Act} {w : World} (hs : SubL l' l) (hk : ∃ r, Picks hp' hp r) (s : St C (Env.of l) hp a w) : St C (Env.of l') hp' a w := by
  obtain ⟨r, hk⟩ := hk
  have s := s.perm hk.perm
  have hsub : ∀ b ∈ hpB hp', b ∈ hpB (hp' ++ r) := fun b hb => by rw [hpB_append]; simp [hb]
  refine ⟨s.df, s.sz, fun t d ht => ?_, ?_, s.fr, fun b hb => s.own b (hsub b hb), s.lt⟩
  · obtain ⟨v, h1, h2⟩ := s.env t d (hs.mem _ (look_mem ht))
    exact ⟨v, h1, h2.less fun b hb => by
      rcases List.mem_append.1 hb with hb | hb
      · exact List.mem_append.2 (.inl (hsub b hb))
      · exact List.mem_append.2 (.inr hb)⟩
  · have h := s.ok.left
    exact ⟨fun e he => (h.ent e he).mv (Mv.less fun b hb => by simp at hb ⊢; rcases hb with hb | hb <;> simp [hb]) (fun _ _ => rfl), h.nd, fun b hb hx => h.dj b hb (by simp [hx])⟩
theorem CodeG.sub {c : Code} (l' : List (Nat × AV)) (hp' : List Ent) (hs : SubL l' l) (hk : ∃ r, Picks hp' hp r) (h : CodeG C c l' hp' q) : CodeG C c l hp q := ⟨AW.weak h.h fun a w s => s.sub hs hk⟩
theorem PostG.go {y : Code} (h : CodeG C y l hp q) : PostG C (.seq y q) .normal l hp := ⟨h.h⟩
theorem PostG.sret {y : Code} (h : PostG C q .ret l hp) : PostG C (.seq y q) .ret l hp := ⟨h.h⟩
theorem PostG.sexit {y : Code} {i : Nat} (h : PostG C q (.exit i) l hp) : PostG C (.seq y q) (.exit i) l hp := ⟨h.h⟩
theorem PostG.bnorm {id : Nat} (h : PostG C q .normal l hp) : PostG C (.blk id q) .normal l hp := ⟨h.h⟩
theorem PostG.bret {id : Nat} (h : PostG C q .ret l hp) : PostG C (.blk id q) .ret l hp := ⟨h.h⟩
theorem PostG.bhit {id : Nat} (h : PostG C q .normal l hp) : PostG C (.blk id q) (.exit id) l hp := ⟨InB.hit h.h⟩
theorem PostG.bmiss {id i : Nat} (hne : Nat.beq i id = false) (h : PostG C q (.exit i) l hp) : PostG C (.blk id q) (.exit i) l hp := ⟨InB.miss hne h.h⟩
theorem PostG.lret {I : List (Nat × AV) → List Ent → Nat → Prop} {n : Nat} (h : PostG C q .ret l hp) : PostG C (.loop I n q) .ret l hp := ⟨h.h⟩
theorem PostG.lexit {I : List (Nat × AV) → List Ent → Nat → Prop} {n i : Nat} (h : PostG C q (.exit i) l hp) : PostG C (.loop I n q) (.exit i) l hp := ⟨h.h⟩
/-- A round is over. -/
theorem PostG.next {I : List (Nat × AV) → List Ent → Nat → Prop} {n : Nat} (m : Nat) (l' : List (Nat × AV)) (hp' : List Ent) (hI : I l' hp' m) (hs : SubL l' l) (hk : ∃ r, Picks hp' hp r) (hlt : m < n) : PostG C (.loop I n q) .normal l hp :=
  ⟨m, Env.of l', hp', fun a w s => s.sub hs hk, ⟨l', rfl, hI⟩, hlt⟩
theorem PostG.cret {M : List (Nat × AV) → List Ent → Prop} (h : PostG C q .ret l hp) : PostG C (.cut M q) .ret l hp := ⟨h.h⟩
theorem PostG.cexit {M : List (Nat × AV) → List Ent → Prop} {i : Nat} (h : PostG C q (.exit i) l hp) : PostG C (.cut M q) (.exit i) l hp := ⟨h.h⟩
theorem PostG.meet {M : List (Nat × AV) → List Ent → Prop} (l' : List (Nat × AV)) (hp' : List Ent) (hM : M l' hp') (hs : SubL l' l) (hk : ∃ r, Picks hp' hp r) : PostG C (.cut M q) .normal l hp := ⟨l', hp', fun a w s => s.sub hs hk, hM⟩
/-- Handed back. -/
theorem PostG.fin {fn : Func} {K : AV → List Ent → Prop} {e : Exit} {ds : List AV} (he : e = .normal ∨ e = .ret) (hr : AResV (Env.of l) fn.results.toList = some ds) (hK : K (resOf ds) hp) : PostG C (.fin fn K) e l hp := ⟨he, ds, hr, hK⟩

theorem CodeG.seq {x y : Code} (h : CodeG C x l hp (.seq y q)) : CodeG C (.seq x y) l hp q := ⟨AW.seq h.h⟩
theorem CodeG.cut {x y : Code} (M : List (Nat × AV) → List Ent → Prop) (h : CodeG C x l hp (.cut M q)) (hy : ∀ l hp, M l hp → CodeG C y l hp q) : CodeG C (.seq x y) l hp q :=
  ⟨AW.cut _ h.h fun env hp ⟨l, hp', hs, hM⟩ => AW.weak (hy l hp' hM).h hs⟩
theorem CodeG.skip (h : PostG C q .normal l hp) : CodeG C .skip l hp q := ⟨AW.skip h.h⟩
theorem CodeG.label {i : Nat} (h : PostG C q .normal l hp) : CodeG C (.label i) l hp q := ⟨AW.label h.h⟩
theorem CodeG.exit {i : Nat} (h : PostG C q (.exit i) l hp) : CodeG C (.exit i) l hp q := ⟨AW.exit h.h⟩
theorem CodeG.ret (h : PostG C q .ret l hp) : CodeG C .ret l hp q := ⟨AW.ret h.h⟩
theorem CodeG.block {id : Nat} {c : Code} (h : CodeG C c l hp (.blk id q)) : CodeG C (.block id c) l hp q := ⟨AW.block h.h⟩
theorem CodeG.if {c : Operand} {x y : Code} {b : Bool} (hc : (Env.of l).ev c = some (.raw (.bool b))) (ht : b = true → CodeG C x l hp q) (hf : b = false → CodeG C y l hp q) : CodeG C (.cond c x y) l hp q :=
  ⟨AW.cond hc (fun h => (ht h).h) (fun h => (hf h).h)⟩
theorem CodeG.ift {c : Operand} {x y : Code} (hc : (Env.of l).ev c = some (.raw (.bool true))) (ht : CodeG C x l hp q) : CodeG C (.cond c x y) l hp q := CodeG.if hc (fun _ => ht) (fun h => by cases h)
theorem CodeG.iff {c : Operand} {x y : Code} (hc : (Env.of l).ev c = some (.raw (.bool false))) (ht : CodeG C y l hp q) : CodeG C (.cond c x y) l hp q := CodeG.if hc (fun h => by cases h) (fun _ => ht)
theorem CodeG.reg {id : Nat} {ops : Array Oper} (hn : C.n = n) (hd : dstOk ops n = true) (h : SeqG C ops ops.toList l hp q) : CodeG C (.region id ops false) l hp q :=
  ⟨AW.region (by rw [hn]; exact hd) h.h⟩
theorem CodeG.draw {id : Nat} {ops : Array Oper} (rs : List (List (Nat × Bool))) (hP : C.P = P) (hn : C.n = n) (hm : P.follows .mixedOrders = true) (hd : dstOk ops n = true) (ho : phOk ops (Array.replicate ops.size false) rs = true)
    (h : PhG C ops rs l hp q) : CodeG C (.region id ops true) l hp q :=
  ⟨AW.regionDraw rs (by rw [hP]; exact hm) (by rw [hn]; exact hd) ho h.h⟩
/-- A loop: what holds ahead of each round, and how far it is. -/
theorem CodeG.loop {c : Code} (I : List (Nat × AV) → List Ent → Nat → Prop) (n0 : Nat) (l0 : List (Nat × AV)) (hp0 : List Ent) (h0 : I l0 hp0 n0) (hs : SubL l0 l) (hk : ∃ r, Picks hp0 hp r)
    (round : ∀ l hp n, I l hp n → CodeG C c l hp (.loop I n q)) : CodeG C (.loop c) l hp q :=
  CodeG.sub l0 hp0 hs hk ⟨AW.loop (fun env hp n => ∃ l, env = Env.of l ∧ I l hp n) n0 ⟨l0, rfl, h0⟩ fun env hp n ⟨l, he, hI⟩ => by subst he; exact (round l hp n hI).h⟩

/-- An own row is given up: it reads on, in the slots told. -/
theorem St.freeze {a : Act} {w : World} {v : Value} {e : TypeId} {k : Nat} {xs : List (List AV)} {rest : List Ent} (t : Nat) (ht : look l t = some (.raw v)) (hk : Pick (.own v e k xs) hp rest) (s : St C (Env.of l) hp a w) : St C (Env.of ((t, .sl k xs) :: l)) rest a w := by
  have s := s.perm hk.perm
  have h1 := (HpOk.perm s.ok (h2 := [.own v e k xs] ++ rest) (List.Perm.refl _))
  obtain ⟨kp, hO⟩ := h1.left.unown
  have hsub : ∀ b ∈ hpB rest, b ∈ hpB (.own v e k xs :: rest) := fun b hb => by rw [hpB_cons]; simp [hb]
  have h2 := (h1.perm (List.perm_append_comm)).left
  refine ⟨s.df, s.sz, fun t' d ht' => ?_, ⟨fun x hx => (h2.ent x hx).mv (Mv.less fun b hb => by simp at hb ⊢; rcases hb with hb | hb <;> simp [hb]) (fun _ _ => rfl), h2.nd, fun b hb hx => h2.dj b hb (by simp [hx])⟩, s.fr, fun b hb => s.own b (hsub b hb), s.lt⟩
  change look ((t, .sl k xs) :: l) t' = some d at ht'
  unfold look at ht'
  cases hb : Nat.beq t' t with
  | true =>
    rw [hb] at ht'
    injection ht' with ht'
    subst ht'
    have := Nat.eq_of_beq_eq_true hb
    subst this
    obtain ⟨u, h3, h4⟩ := s.env t' _ ht
    have := h4.rawEq
    subst this
    exact ⟨u, h3, Rd.of_sl (kp := kp) hO.sl⟩
  | false =>
    rw [hb] at ht'
    obtain ⟨u, h3, h4⟩ := s.env t' d ht'
    exact ⟨u, h3, h4.less fun b hb => by
      rcases List.mem_append.1 hb with hb | hb
      · exact List.mem_append.2 (.inl (hsub b hb))
      · exact List.mem_append.2 (.inr hb)⟩
theorem CodeG.freeze {c : Code} {v : Value} {e : TypeId} {k : Nat} {xs : List (List AV)} {rest : List Ent} (t : Nat) (ht : look l t = some (.raw v)) (hk : Pick (.own v e k xs) hp rest) (h : CodeG C c ((t, .sl k xs) :: l) rest q) : CodeG C c l hp q := ⟨AW.weak h.h fun a w s => s.freeze t ht hk⟩
theorem setSelf {α : Type} {us : List α} {i : Nat} {u : α} (h : us[i]? = some u) : us.set i u = us := by
  obtain ⟨hi, rfl⟩ := List.getElem?_eq_some_iff.1 h
  exact List.set_getElem_self hi
/-- A variable that holds an own row: the row is given up, the variable reads on. -/
theorem St.shut {a : Act} {w : World} {v : Value} {e tb : TypeId} {k b i : Nat} {xs : List (List AV)} {cs : List AV} {rest : List Ent} (hk : Picks [.box b tb cs, .own v e k xs] hp rest) (hc : cs[i]? = some (.raw v)) (s : St C (Env.of l) hp a w) : St C (Env.of l) (.box b tb (cs.set i (.sl k xs)) :: rest) a w := by
  have s := s.perm hk.perm
  have h1 : HpOk C.L w ([.own v e k xs] ++ ([.box b tb cs] ++ rest)) := s.ok.perm (List.Perm.swap ..)
  obtain ⟨kp, hO⟩ := h1.left.unown
  have hsub : ∀ x ∈ hpB (.box b tb (cs.set i (.sl k xs)) :: rest), x ∈ hpB ([.box b tb cs, .own v e k xs] ++ rest) := fun x hx => by
    rw [hpB_cons] at hx
    simp only [List.cons_append, List.nil_append, hpB_cons]
    rcases List.mem_append.1 hx with hx | hx
    · exact List.mem_append.2 (.inl hx)
    · exact List.mem_append.2 (.inr (List.mem_append.2 (.inr hx)))
  have h2 := (h1.perm (List.perm_append_comm)).left
  have h3 : HpOk C.L w (.box b tb cs :: rest) := ⟨fun x hx => (h2.ent x hx).mv (Mv.less fun b hb => by simp at hb ⊢; rcases hb with hb | hb <;> simp [hb]) (fun _ _ => rfl), h2.nd, fun b hb hx => h2.dj b hb (by simp [hx])⟩
  obtain ⟨us, hb, hcs⟩ := h3.ent _ (List.mem_cons_self ..)
  have hbl : hpB (.box b tb (cs.set i (.sl k xs)) :: rest) = hpB (.box b tb cs :: rest) := rfl
  refine ⟨s.df, s.sz, fun t d ht => ?_, ⟨fun x hx => ?_, by rw [hbl]; exact h3.nd, by rw [hbl]; exact h3.dj⟩, s.fr, fun b hb => s.own b (hsub b hb), s.lt⟩
  · obtain ⟨u, h4, h5⟩ := s.env t d ht
    exact ⟨u, h4, h5.less fun b hb => by
      rcases List.mem_append.1 hb with hb | hb
      · exact List.mem_append.2 (.inl (hsub b hb))
      · exact List.mem_append.2 (.inr hb)⟩
  · rw [hbl]
    rcases List.mem_cons.1 hx with rfl | hx
    · obtain ⟨u, hu, h1', hr⟩ := hcs.get hc
      have := hr.rawEq
      subst this
      refine ⟨us, hb, ?_⟩
      have hs : Rd (hpB (.box b tb cs :: rest) ++ C.L) w (.sl k xs) u := (Rd.of_sl (kp := kp) hO.sl).less fun y hy => by simpa [hpB_cons, hpB_append] using hy
      have := hcs.set i h1' hs
      rwa [setSelf hu] at this
    · exact h3.ent x (List.mem_cons_of_mem _ hx)
theorem CodeG.shut {c : Code} {v : Value} {e tb : TypeId} {k b : Nat} {xs : List (List AV)} {cs : List AV} {rest : List Ent} (i : Nat) (hk : Picks [.box b tb cs, .own v e k xs] hp rest) (hc : cs[i]? = some (.raw v)) (h : CodeG C c l (.box b tb (cs.set i (.sl k xs)) :: rest) q) : CodeG C c l hp q := ⟨AW.weak h.h fun a w s => s.shut hk hc⟩
/-- nil may be taken for an own row. -/
theorem St.adopt {a : Act} {w : World} (e : TypeId) (k : Nat) (kp : 0 < k) (s : St C (Env.of l) hp a w) : St C (Env.of l) (.own (.slice none 0 0) e k [] :: hp) a w := by
  have hb : hpB (.own (.slice none 0 0) e k [] :: hp) = hpB hp := rfl
  refine ⟨s.df, s.sz, fun t d ht => by rw [hb]; exact s.env t d ht, ⟨fun x hx => ?_, by rw [hb]; exact s.ok.nd, by rw [hb]; exact s.ok.dj⟩, s.fr, by rw [hb]; exact s.own, s.lt⟩
  rw [hb]
  rcases List.mem_cons.1 hx with rfl | hx
  · exact ⟨kp, [], World.ownsRow_nil _ _ _ _, rfl⟩
  · exact s.ok.ent x hx
theorem CodeG.adopt {c : Code} (e : TypeId) (k : Nat) (kp : 0 < k) (h : CodeG C c l (.own (.slice none 0 0) e k [] :: hp) q) : CodeG C c l hp q := ⟨AW.weak h.h fun a w s => s.adopt e k kp⟩
end code

theorem ACalls.enter {P : Program} {f : FuncId} {fn : Func} {c : Code} {args : List AV} {hi : List Ent} {K : AV → List Ent → Prop} (hf : P.funcs[f]? = some fn) (hb : fn.body = some c) (hn : (decide (args.length ≤ fn.ntmps)) = true)
    (h : ∀ C : Ctx, C.P = P → C.n = fn.ntmps → CodeG C c (enumA 0 args) hi (.fin fn K)) : ACalls P f args hi K := ACalls.of hf hb hn fun C h1 h2 => by rw [envOf_eq]; exact (h C h1 h2).h
end Go.Proofs.Ytglccdcdnbannaa
