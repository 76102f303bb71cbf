/- A region that draws its order may be walked in text order: where any two of its operations that may change places are apart, and one of the two yields a value that depends on no world. -/
import Derived.Test.YtglccdcdnbannaaBase
set_option linter.unusedVariables false
set_option linter.unusedSimpArgs false
namespace Go.Proofs.Ytglccdcdnbannaa
open Go

/-- What it yields, where it yields, depends on no world. -/
def OkS (P : Program) {α : Type} (m : Sem α) : Prop := ∀ w v w', m.run P w = .ok v w' → w' = w ∧ ∀ u, m.run P u = .ok v u

def Inert (P : Program) (ρ : Operand → Value) (o : Oper) : Prop := ∀ w n w', (execOp ρ o).run P w = .ok n w' → (∃ v, n = .value v) ∧ w' = w ∧ ∀ u, (execOp ρ o).run P u = .ok n u

section
variable {P : Program} {ops : Array Oper} {Q : Exit → Act → World → Prop}

theorem yields_same {o : Oper} {v v' : Value} {a : Act} (h : Yields P ops o v a) (h' : Yields P ops o v' a) : v = v' := by
  rcases h with ⟨h1, h2⟩ | ⟨h1, h2⟩ <;> rcases h' with ⟨h3, h4⟩ | ⟨h3, h4⟩
  · have := (h2 default).symm.trans (h4 default); injection this with this; injection this
  · rw [h1] at h3; cases h3
  · rw [h1] at h3; cases h3
  · rw [h2, h4]

/-- What an operation does, where only the normal end is borne. -/
theorem inert_yields (hQ : ∀ e a w, Q e a w → e = .normal) {i : Nat} {o : Oper} {K : Act → World → Prop} {a : Act} {w : World} (hi : ops[i]? = some o)
    (hin : Region.wanted o (yielded ops a.tmps) = true → Inert P a.eval o) (h : wpOp P ops Q i K a w) : ∃ v, Yields P ops o v a ∧ K (a.put o.dst v) w := by
  unfold wpOp at h
  simp only [hi] at h
  split at h
  · rename_i hw
    rcases h with h | ⟨_, a0, w0, hq⟩
    · have hin := hin hw
      unfold Oper.wp at h
      unfold Inert at hin
      cases hr : (execOp a.eval o).run P w with
      | ok n w' =>
        obtain ⟨⟨v, rfl⟩, rfl, hu⟩ := hin w n w' hr
        rw [hr] at h
        exact ⟨v, .inl ⟨hw, hu⟩, h⟩
      | halt x w' =>
        rw [hr] at h
        cases x <;> simp only [Oper.upon] at h
        exact absurd (hQ _ _ _ h) (by simp)
    · exact absurd (hQ _ _ _ hq) (by simp)
  · rename_i hw
    exact ⟨undef, .inr ⟨by simpa using hw, rfl⟩, h⟩

/-- Two that are apart, and one of them inert, may change places. -/
theorem wpOp_swap (hQ : ∀ e a w, Q e a w → e = .normal) {i j : Nat} {oi oj : Oper} (hi : ops[i]? = some oi) (hj : ops[j]? = some oj) (hap : oi.apart ops oj = true)
    (hsi : ∀ cs b, oi.op ≠ .select cs b) (hsj : ∀ cs b, oj.op ≠ .select cs b) {K : Act → World → Prop} {a : Act} {w : World}
    (hin : (Region.wanted oi (yielded ops a.tmps) = true → Inert P a.eval oi) ∨ (Region.wanted oj (yielded ops a.tmps) = true → Inert P a.eval oj))
    (h : wpOp P ops Q i (wpOp P ops Q j K) a w) : wpOp P ops Q j (wpOp P ops Q i K) a w := by
  have hP : ∀ c a w, ¬ Q (.panic c) a w := fun c a w h => absurd (hQ _ _ _ h) (by simp)
  rcases hin with hin | hin
  · obtain ⟨v, hy, h⟩ := inert_yields hQ hi hin h
    exact wpOp_mono (fun a' w' ⟨h1, h2⟩ => Yields.wpOp hi h1 h2) (wpOp_put hj hap hsi hsj (fun c a w h => absurd h (hP _ _ _)) hy h)
  · obtain ⟨h1, h2, h3⟩ := Oper.apart_spec hap
    have back : ∀ (b : Act) u, b.tmps = a.tmps → ∀ w', wpOp P ops Q j K (b.put oi.dst u) w' → ∃ v, Yields P ops oj v a ∧ K ((b.put oi.dst u).put oj.dst v) w' := by
      intro b u hb w' hh
      have e0 : execOp b.eval oj = execOp a.eval oj := by
        have : b.eval = a.eval := by funext x; cases x <;> simp [Act.eval, hb]
        rw [this]
      have e1 : execOp (b.put oi.dst u).eval oj = execOp a.eval oj := (execOp_put oj hsj b oi.dst u h1).trans e0
      have e2 : Region.wanted oj (yielded ops (b.put oi.dst u).tmps) = Region.wanted oj (yielded ops a.tmps) := (wanted_put oj b oi.dst u h1).trans (by rw [hb])
      obtain ⟨v, hy, hk⟩ := inert_yields hQ hj (by unfold Inert at *; rw [e1, e2]; exact hin) hh
      exact ⟨v, hy.of_same e1.symm e2.symm, hk⟩
    unfold wpOp at h
    simp only [hi] at h
    split at h
    · rename_i hw
      rcases h with h | ⟨_, a0, w0, hq⟩
      case inr => exact absurd (hQ _ _ _ hq) (by simp)
      have go : ∀ v, Yields P ops oj v a → (oi.wp P (a.put oj.dst v) w K Q) → wpOp P ops Q j (wpOp P ops Q i K) a w := by
        intro v hy hh
        refine hy.wpOp hj ?_
        unfold wpOp
        simp only [hi]
        rw [wanted_put oi a oj.dst v h3, hw]
        simp only [if_true]
        exact .inl hh
      unfold Oper.wp at h go
      have er : ∀ v, execOp (a.put oj.dst v).eval oi = execOp a.eval oi := fun v => execOp_put oi hsi a oj.dst v h3
      cases hr : (execOp a.eval oi).run P w with
      | ok n w' =>
        rw [hr] at h
        cases n <;> simp only [Oper.upon] at h
        case value u =>
          obtain ⟨v, hy, hk⟩ := back a u rfl _ h
          refine go v hy ?_
          rw [er, hr]; simp only [Oper.upon]
          rw [← Act.put_comm a u v h2]; exact hk
        case skip =>
          obtain ⟨v, hy, hk⟩ := back a undef rfl _ h
          refine go v hy ?_
          rw [er, hr]; simp only [Oper.upon]
          rw [← Act.put_comm a undef v h2]; exact hk
        case defer d =>
          obtain ⟨v, hy, hk⟩ := back { a with defers := d :: a.defers } undef rfl _ h
          refine go v hy ?_
          rw [er, hr]; simp only [Oper.upon]
          rw [show ({ a.put oj.dst v with defers := d :: (a.put oj.dst v).defers } : Act) = ({ a with defers := d :: a.defers } : Act).put oj.dst v from Act.put_defers a oj.dst v d, ← Act.put_comm _ undef v h2]; exact hk
        case enter f args =>
          obtain ⟨e0, w0, _, he0, _⟩ := h []
          have : ∃ v, Yields P ops oj v a := by
            cases e0 with
            | returned u => obtain ⟨v, hy, _⟩ := back a u rfl _ he0; exact ⟨v, hy⟩
            | panicked c => exact absurd he0 (hP _ _ _)
            | outgrown => obtain ⟨_, _, hq⟩ := he0; exact absurd (hQ _ _ _ hq) (by simp)
          obtain ⟨v, hy⟩ := this
          refine go v hy ?_
          rw [er, hr]; simp only [Oper.upon]
          refine Calls.mono h fun e w'' he => ?_
          cases e with
          | returned u =>
            obtain ⟨v', hy', hk⟩ := back a u rfl _ he
            rw [yields_same hy' hy] at hk
            show K ((a.put oj.dst v).put oi.dst u) w''
            rw [← Act.put_comm a u v h2]; exact hk
          | panicked c => exact absurd he (hP _ _ _)
          | outgrown => exact he
        case row row args =>
          obtain ⟨u0, w0, he0, _⟩ := h default []
          obtain ⟨v, hy, _⟩ := back a u0 rfl _ he0
          refine go v hy ?_
          rw [er, hr]; simp only [Oper.upon]
          refine Rows.mono h fun u w'' he => ?_
          obtain ⟨v', hy', hk⟩ := back a u rfl _ he
          rw [yields_same hy' hy] at hk
          rw [← Act.put_comm a u v h2]; exact hk
      | halt x w' =>
        rw [hr] at h
        cases x <;> simp only [Oper.upon] at h
        exact absurd h (hP _ _ _)
    · rename_i hw
      obtain ⟨v, hy, hk⟩ := back a undef rfl _ h
      refine hy.wpOp hj ?_
      unfold wpOp
      simp only [hi]
      rw [wanted_put oi a oj.dst v h3]
      simp only [hw]
      rw [← Act.put_comm a undef v h2]; exact hk

/-- Whatever an operation does, something comes behind it. -/
theorem wpOp_out (hQ : ∀ e a w, Q e a w → e = .normal) {i : Nat} {K : Act → World → Prop} {a : Act} {w : World} (h : wpOp P ops Q i K a w) :
    ∃ a' w', K a' w' ∧ ∀ t, (∀ o, ops[i]? = some o → o.dst ≠ some t) → a'.tmps[t]? = a.tmps[t]? := by
  have put : ∀ (b : Act) (o : Oper) v, b.tmps = a.tmps → ops[i]? = some o → ∀ t, (∀ o, ops[i]? = some o → o.dst ≠ some t) → (b.put o.dst v).tmps[t]? = a.tmps[t]? := by
    intro b o v hb ho t ht
    have := ht o ho
    cases hd : o.dst with
    | none => simp [Act.put, hb]
    | some d =>
      have : d ≠ t := fun e => this (by rw [hd, e])
      simp [Act.put, hb, Array.getElem?_setIfInBounds_ne this]
  unfold wpOp at h
  cases ho : ops[i]? with
  | none => simp only [ho] at h; exact ⟨a, w, h, fun _ _ => rfl⟩
  | some o =>
    simp only [ho] at h
    rw [ho] at put
    split at h
    · rcases h with h | ⟨_, a0, w0, hq⟩
      case inr => exact absurd (hQ _ _ _ hq) (by simp)
      unfold Oper.wp at h
      cases hr : (execOp a.eval o).run P w with
      | ok n w' =>
        rw [hr] at h
        cases n <;> simp only [Oper.upon] at h
        case value u => exact ⟨_, _, h, put a o u rfl rfl⟩
        case skip => exact ⟨_, _, h, put a o undef rfl rfl⟩
        case defer d => exact ⟨_, _, h, put _ o undef rfl rfl⟩
        case enter f args =>
          obtain ⟨e0, w0, _, he0, _⟩ := h []
          cases e0 with
          | returned u => exact ⟨_, _, he0, put a o u rfl rfl⟩
          | panicked c => exact absurd (hQ _ _ _ he0) (by simp)
          | outgrown => obtain ⟨_, _, hq⟩ := he0; exact absurd (hQ _ _ _ hq) (by simp)
        case row row args =>
          obtain ⟨u0, w0, he0, _⟩ := h default []
          exact ⟨_, _, he0, put a o u0 rfl rfl⟩
      | halt x w' =>
        rw [hr] at h
        cases x <;> simp only [Oper.upon] at h
        exact absurd (hQ _ _ _ h) (by simp)
    · exact ⟨_, _, h, put a o undef rfl rfl⟩

theorem wpOps_out (hQ : ∀ e a w, Q e a w → e = .normal) : ∀ (l : List Nat) (a : Act) (w : World), wpOps P ops Q l a w →
    ∃ a' w', Q .normal a' w' ∧ ∀ t, (∀ i ∈ l, ∀ o, ops[i]? = some o → o.dst ≠ some t) → a'.tmps[t]? = a.tmps[t]? := by
  intro l
  induction l with
  | nil => intro a w h; exact ⟨a, w, h, fun _ _ => rfl⟩
  | cons i l ih =>
    intro a w h
    rw [wpOps_cons] at h
    obtain ⟨a1, w1, h1, e1⟩ := wpOp_out hQ h
    obtain ⟨a2, w2, h2, e2⟩ := ih a1 w1 h1
    exact ⟨a2, w2, h2, fun t ht => (e2 t fun i hi => ht i (List.mem_cons_of_mem _ hi)).trans (e1 t (ht i (List.mem_cons_self ..)))⟩

/-! ### The order that a region's text has -/

/-- The operations that have not come up, in text order. -/
def unl (ops : Array Oper) (listed : Array Bool) : List Nat := (List.range ops.size).filter fun i => !listed.getD i true

theorem mem_unl {listed : Array Bool} {i : Nat} : i ∈ unl ops listed ↔ i < ops.size ∧ listed.getD i true = false := by
  unfold unl; simp [List.mem_filter, List.mem_range]

theorem unl_sorted (listed : Array Bool) : (unl ops listed).Pairwise (· < ·) := by
  unfold unl; exact (List.pairwise_lt_range).filter _

/-- Kinds whose value, once the act is plain, depends on no world. -/
def inertK (o : Oper) : Bool := match o.op with
  | .move _ | .assign _ | .pick .. | .binOp .. | .unOp .. | .slice .. | .indexAddr .. | .index .. | .field .. | .extract .. | .nilCheck _ => true
  | .call { callee := .builtin .len, .. } | .call { callee := .builtin .min, .. } | .call { callee := .builtin .max, .. } | .call { callee := .builtin .cap, .. } => true
  | _ => false

def waysOk (ops : Array Oper) (C : Array Nat) : Bool := (List.range ops.size).all fun j => match ops[j]? with
  | none => false
  | some oj => (oj.after.all fun e => !Region.binds .any e || decide (e.on < j)) &&
    (List.range ops.size).all fun i => match ops[i]? with
      | none => false
      | some oi => (if (C.getD j 0).testBit i then oj.after.any (fun e => Region.binds .any e && (e.on == i || (C.getD e.on 0).testBit i))
          else !decide (i < j) || (oi.apart ops oj && (inertK oi || inertK oj))) &&
        (!inertK oi || !decide (i ≤ j) || (match oj.dst with | some d => !(oi.looksAt ops).contains d | none => true))

def textB (ops : Array Oper) : Bool := Region.noSelect ops && waysOk ops (Region.before ops)

def plainBin : Value → Value → Bool
  | .int .., .int .. | .bool _, .bool _ | .string _, .string _ | .slice none .., .slice .. | .slice .., .slice none ..
  | .pointer none, .pointer _ | .pointer _, .pointer none | .nilIface, .iface .. | .iface .., .nilIface => true
  | _, _ => false

def plainAt (ρ : Operand → Value) (o : Oper) : Bool := match o.op with
  | .binOp _ _ x y _ => plainBin (ρ x) (ρ y)
  | .nilCheck x => match ρ x with | .func .. => false | _ => true
  | .call { callee := .builtin .len, args, .. } | .call { callee := .builtin .cap, args, .. } => match args.toList.map ρ with | [.slice ..] | [.string _] => true | _ => false
  | .call { callee := .builtin .min, args, .. } | .call { callee := .builtin .max, args, .. } => match args.toList.map ρ with | [.int .., .int ..] => true | _ => false
  | _ => true

def plainAll (ops : Array Oper) (a : Act) : Bool := ops.all fun o => !inertK o || !Region.wanted o (yielded ops a.tmps) || plainAt a.eval o

/-- The post of a region that is walked in text order. -/
def TextQ (ops : Array Oper) (Q : Exit → Act → World → Prop) : Exit → Act → World → Prop := fun e a w => e = .normal ∧ plainAll ops a = true ∧ Q .normal a w

theorem agree {o : Oper} {a b : Act} (hs : ∀ cs b, o.op ≠ .select cs b) (h : ∀ t ∈ o.looksAt ops, b.tmps[t]? = a.tmps[t]?) :
    execOp b.eval o = execOp a.eval o ∧ Region.wanted o (yielded ops b.tmps) = Region.wanted o (yielded ops a.tmps) := by
  constructor
  · refine execOp_congr o hs fun x hx => ?_
    cases x with
    | tmp t =>
      have := h t (List.mem_append_left _ (List.mem_filterMap.2 ⟨.tmp t, by simpa using hx, rfl⟩))
      simp [Act.eval, Array.getD_eq_getD_getElem?, this]
    | _ => rfl
  · unfold Region.wanted
    cases hg : o.guard with
    | none => rfl
    | some gw =>
      obtain ⟨g, want⟩ := gw
      have hy : yielded ops b.tmps g = yielded ops a.tmps g := by
        unfold yielded
        cases ht : (ops[g]?).bind (·.dst) with
        | none => rfl
        | some t =>
          have := h t (by simp [Oper.looksAt, hg, ht])
          simp [this]
      simp only [hy]

section
variable {C : Array Nat}
theorem ways_after (h : waysOk ops C = true) {j : Nat} {oj : Oper} (hj : ops[j]? = some oj) : ∀ e ∈ oj.after, Region.binds .any e = true → e.on < j := by
  unfold waysOk at h
  have h := List.all_eq_true.1 h j (List.mem_range.2 (Array.getElem?_eq_some_iff.1 hj).1)
  simp only [hj, Bool.and_eq_true] at h
  intro e he hb
  have := Array.all_eq_true_iff_forall_mem.1 h.1 e he
  simpa [hb] using this

theorem ways_pair (h : waysOk ops C = true) {i j : Nat} {oi oj : Oper} (hi : ops[i]? = some oi) (hj : ops[j]? = some oj) :
    ((C.getD j 0).testBit i = true → ∃ e ∈ oj.after, Region.binds .any e = true ∧ (e.on = i ∨ (C.getD e.on 0).testBit i = true)) ∧
    ((C.getD j 0).testBit i = false → i < j → oi.apart ops oj = true ∧ (inertK oi = true ∨ inertK oj = true)) ∧
    (inertK oi = true → i ≤ j → ∀ d, oj.dst = some d → d ∉ oi.looksAt ops) := by
  unfold waysOk at h
  have h := List.all_eq_true.1 h j (List.mem_range.2 (Array.getElem?_eq_some_iff.1 hj).1)
  simp only [hj, Bool.and_eq_true] at h
  have h := List.all_eq_true.1 h.2 i (List.mem_range.2 (Array.getElem?_eq_some_iff.1 hi).1)
  simp only [hi, Bool.and_eq_true] at h
  obtain ⟨h1, h2⟩ := h
  refine ⟨fun hb => ?_, fun hb hlt => ?_, fun hk hle d hd => ?_⟩
  · rw [if_pos hb] at h1
    obtain ⟨e, he, hx⟩ := Array.any_eq_true'.1 h1
    simp only [Bool.and_eq_true, Bool.or_eq_true, beq_iff_eq] at hx
    exact ⟨e, he, hx.1, hx.2⟩
  · rw [if_neg (by rw [hb]; decide)] at h1
    simpa [hlt] using h1
  · simp only [hk, hle, hd] at h2
    simpa using h2

def Closed (ops : Array Oper) (listed : Array Bool) : Prop := ∀ (k : Nat) (ok : Oper), ops[k]? = some ok → listed.getD k true = true → ∀ e ∈ ok.after, Region.binds .any e = true → listed.getD e.on false = true

theorem listed_tf {listed : Array Bool} {i : Nat} (h : listed.getD i false = true) : listed.getD i true = true := by
  simp only [Array.getD_eq_getD_getElem?] at *
  cases hh : listed[i]? <;> simp_all

theorem closed_bit (h : waysOk ops C = true) {listed : Array Bool} (hc : Closed ops listed) {i : Nat} (hi : i < ops.size) : ∀ (n j : Nat) (oj : Oper), j < n → ops[j]? = some oj →
    (∀ e ∈ oj.after, Region.binds .any e = true → listed.getD e.on false = true) → (C.getD j 0).testBit i = true → listed.getD i false = true := by
  intro n
  induction n with
  | zero => intro j oj hj; omega
  | succ n ih =>
    intro j oj hjn hj hall hb
    have hoi : ops[i]? = some ops[i] := Array.getElem?_eq_getElem hi
    obtain ⟨e, he, hbe, hx⟩ := (ways_pair h hoi hj).1 hb
    have hl := hall e he hbe
    rcases hx with hx | hx
    · rwa [hx] at hl
    · have hlt := ways_after h hj e he hbe
      have hsz := (Array.getElem?_eq_some_iff.1 hj).1
      have hoe : ops[e.on]? = some ops[e.on] := Array.getElem?_eq_getElem (by omega)
      exact ih e.on _ (by omega) hoe (hc _ _ hoe (listed_tf hl)) hx

/-- One that may come up now comes ahead of all. -/
theorem move_front (hin : ∀ (o : Oper) (ρ : Operand → Value), inertK o = true → plainAt ρ o = true → Inert P ρ o) (hs : Region.noSelect ops = true) (h : waysOk ops C = true)
    {j : Nat} {oj : Oper} (hj : ops[j]? = some oj) {q : List Nat} : ∀ (p : List Nat), (p ++ j :: q).Pairwise (· < ·) → (∀ i ∈ p ++ j :: q, i < ops.size) →
      (∀ i ∈ p, (C.getD j 0).testBit i = false) → ∀ (a : Act) (w : World), wpOps P ops (TextQ ops Q) (p ++ j :: q) a w →
      wpOp P ops (TextQ ops Q) j (wpOps P ops (TextQ ops Q) (p ++ q)) a w := by
  have hQ : ∀ e a w, TextQ ops Q e a w → e = .normal := fun e a w h => h.1
  intro p
  induction p with
  | nil => intro _ _ _ a w hh; rw [List.nil_append, wpOps_cons] at hh; exact hh
  | cons i p ih =>
    intro hp hsz hb a w hh
    have hisz := hsz i (by simp)
    have hoi : ops[i]? = some ops[i] := Array.getElem?_eq_getElem hisz
    generalize ops[i] = oi at hoi
    have hp' := List.pairwise_cons.1 (by simpa using hp : (i :: (p ++ j :: q)).Pairwise (· < ·))
    have hij : i < j := hp'.1 j (by simp)
    obtain ⟨hap, hk⟩ := (ways_pair h hoi hj).2.1 (hb i (by simp)) hij
    have hns := Region.noSelect_spec hs
    have inertAt : ∀ (k : Nat) (ok : Oper), ops[k]? = some ok → inertK ok = true → (∀ m ∈ i :: p ++ j :: q, ∀ om, ops[m]? = some om → ∀ d, om.dst = some d → d ∉ ok.looksAt ops) →
        Region.wanted ok (yielded ops a.tmps) = true → Inert P a.eval ok := by
      intro k ok hok hkk hd hw
      obtain ⟨af, wf, hf, hag⟩ := wpOps_out hQ _ a w hh
      obtain ⟨e1, e2⟩ := agree (a := a) (b := af) (o := ok) (hns k ok · · hok) (fun t ht => hag t fun m hm om hom hdst => hd m hm om hom t hdst ht)
      have := Array.all_eq_true_iff_forall_mem.1 hf.2.1 ok (Array.mem_of_getElem? hok)
      rw [e2, hw, hkk] at this
      have := hin ok af.eval hkk (by simpa using this)
      unfold Inert at *
      rwa [e1] at this
    have h1 : wpOp P ops (TextQ ops Q) i (wpOps P ops (TextQ ops Q) (p ++ j :: q)) a w := by rw [← wpOps_cons]; exact hh
    have h2 := wpOp_mono (fun a' w' => ih hp'.2 (fun m hm => hsz m (by rw [List.cons_append]; exact List.mem_cons_of_mem _ hm)) (fun m hm => hb m (List.mem_cons_of_mem _ hm)) a' w') h1
    have h3 := wpOp_swap hQ hoi hj hap (hns i oi · · hoi) (hns j oj · · hj) (by
      rcases hk with hk | hk
      · refine .inl (inertAt i oi hoi hk fun m hm om hom d hd => ?_)
        refine (ways_pair h hoi hom).2.2 hk ?_ d hd
        rcases List.mem_cons.1 (by simpa using hm : m ∈ i :: (p ++ j :: q)) with rfl | hm
        · omega
        · exact Nat.le_of_lt (hp'.1 m hm)
      · refine .inr (inertAt j oj hj hk fun m hm om hom d hd => ?_)
        rcases List.mem_append.1 (by simpa using hm : m ∈ (i :: p) ++ j :: q) with hm | hm
        · have hlt : m < j := by
            rcases List.mem_cons.1 hm with rfl | hm
            · exact hij
            · exact (List.pairwise_append.1 hp'.2).2.2 m hm j (by simp)
          exact (Oper.apart_spec ((ways_pair h hom hj).2.1 (hb m hm) hlt).1).1 d hd
        · refine (ways_pair h hj hom).2.2 hk ?_ d hd
          rcases List.mem_cons.1 hm with rfl | hm
          · omega
          · exact Nat.le_of_lt ((List.pairwise_cons.1 (List.pairwise_append.1 hp'.2).2.1).1 m hm)) h2
    refine wpOp_mono (fun a' w' h4 => ?_) h3
    rw [List.cons_append, wpOps_cons]; exact h4

theorem unl_set {listed : Array Bool} {j : Nat} (hsz : listed.size = ops.size) (hj : j < ops.size) {p q : List Nat} (h : unl ops listed = p ++ j :: q) :
    unl ops (listed.setIfInBounds j true) = p ++ q := by
  have e1 : unl ops (listed.setIfInBounds j true) = (unl ops listed).filter (fun i => i != j) := by
    unfold unl
    rw [List.filter_filter]
    refine List.filter_congr fun i hi => ?_
    by_cases hij : j = i
    · subst hij; simp [hsz, hj]
    · have : (i != j) = true := by simp [Ne.symm hij]
      rw [getD_set_ne true hij, this, Bool.true_and]
  have hs := unl_sorted (ops := ops) listed
  have hjj : (j != j) = false := by simp
  rw [h] at hs
  obtain ⟨_, h2, h3⟩ := List.pairwise_append.1 hs
  have h4 := (List.pairwise_cons.1 h2).1
  have f1 : p.filter (fun i => i != j) = p := List.filter_eq_self.2 (fun i hi => by have := h3 i hi j (by simp); simp; omega)
  have f2 : q.filter (fun i => i != j) = q := List.filter_eq_self.2 (fun i hi => by have := h4 i hi; simp; omega)
  rw [e1, h, List.filter_append, List.filter_cons, hjj, f1, f2]
  rfl

theorem wpAny_text (hin : ∀ (o : Oper) (ρ : Operand → Value), inertK o = true → plainAt ρ o = true → Inert P ρ o) (hs : Region.noSelect ops = true) (h : waysOk ops C = true) :
    ∀ (fuel : Nat) (listed : Array Bool) (a : Act) (w : World), listed.size = ops.size → Closed ops listed → (unl ops listed).length ≤ fuel →
      wpOps P ops (TextQ ops Q) (unl ops listed) a w → wpAny P .any ops (TextQ ops Q) fuel listed a w := by
  intro fuel
  have done : ∀ (listed : Array Bool) (a : Act) (w : World), Closed ops listed → Region.ready .any ops listed = [] → wpOps P ops (TextQ ops Q) (unl ops listed) a w → TextQ ops Q .normal a w := by
    intro listed a w hc hr hw
    cases hu : unl ops listed with
    | nil => rw [hu] at hw; exact hw
    | cons i l =>
      exfalso
      have hi : i ∈ unl ops listed := by rw [hu]; simp
      have hso := unl_sorted (ops := ops) listed
      rw [hu] at hso
      obtain ⟨hisz, hiu⟩ := mem_unl.1 hi
      have hoi : ops[i]? = some ops[i] := Array.getElem?_eq_getElem hisz
      have : i ∈ Region.ready .any ops listed := by
        refine mem_ready.2 ⟨hiu, _, hoi, fun e he hb => ?_⟩
        have hlt := ways_after h hoi e he hb
        cases hl : listed.getD e.on true with
        | true =>
          have : e.on < listed.size ∨ listed.size ≤ e.on := Nat.lt_or_ge _ _
          have hoe : ops[e.on]? = some (ops[e.on]'(by omega)) := Array.getElem?_eq_getElem (by omega)
          rcases this with h' | h'
          · simp only [Array.getD_eq_getD_getElem?, Array.getElem?_eq_getElem h', Option.getD_some] at hl ⊢; exact hl
          · exfalso
            have hil : listed.size ≤ i := by omega
            simp [Array.getElem?_eq_none hil] at hiu
        | false =>
          exfalso
          have : e.on ∈ unl ops listed := mem_unl.2 ⟨by omega, hl⟩
          rw [hu] at this
          rcases List.mem_cons.1 this with he | he
          · omega
          · have := (List.pairwise_cons.1 hso).1 _ he; omega
      rw [hr] at this; cases this
  induction fuel with
  | zero =>
    intro listed a w hsz hc hlen hw
    have hu : unl ops listed = [] := List.length_eq_zero_iff.1 (by omega)
    have hr : Region.ready .any ops listed = [] := by
      refine List.eq_nil_iff_forall_not_mem.2 fun j hj => ?_
      obtain ⟨h0, o, ho, _⟩ := mem_ready.1 hj
      have : j ∈ unl ops listed := mem_unl.2 ⟨(Array.getElem?_eq_some_iff.1 ho).1, h0⟩
      rw [hu] at this; cases this
    exact ⟨hr, done listed a w hc hr hw⟩
  | succ fuel ih =>
    intro listed a w hsz hc hlen hw
    refine ⟨fun hr => done listed a w hc hr hw, fun j hj => ?_⟩
    obtain ⟨h0, oj, hoj, hall⟩ := mem_ready.1 hj
    have hjs := (Array.getElem?_eq_some_iff.1 hoj).1
    have hju : j ∈ unl ops listed := mem_unl.2 ⟨hjs, h0⟩
    obtain ⟨p, q, hpq⟩ := List.append_of_mem hju
    have hso := unl_sorted (ops := ops) listed
    have hmem : ∀ i ∈ p ++ j :: q, i < ops.size := fun i hi => (mem_unl.1 (by rw [hpq]; exact hi)).1
    have hun : ∀ i ∈ p, (C.getD j 0).testBit i = false := fun i hi => by
      cases hb : (C.getD j 0).testBit i with
      | false => rfl
      | true =>
        have h1 := closed_bit h hc (hmem i (by simp [hi])) (j + 1) j oj (by omega) hoj hall hb
        have h2 := (mem_unl.1 (by rw [hpq]; simp [hi] : i ∈ unl ops listed)).2
        rw [listed_tf h1] at h2; cases h2
    rw [hpq] at hw hso hlen
    refine wpOp_mono (fun a' w' hw' => ih _ a' w' (by simpa using hsz) ?_ ?_ ?_) (move_front hin hs h hoj p hso hmem hun a w hw)
    · intro k ok hok hk e he hb
      by_cases hjk : j = k
      · subst hjk
        rw [hoj] at hok; injection hok with hok; subst hok
        exact getD_set_true (hall e he hb)
      · rw [getD_set_ne true hjk] at hk
        exact getD_set_true (hc k ok hok hk e he hb)
    · rw [unl_set hsz hjs hpq]
      simp only [List.length_append, List.length_cons] at hlen ⊢; omega
    · rw [unl_set hsz hjs hpq]; exact hw'

theorem wp_region_textC (hin : ∀ (o : Oper) (ρ : Operand → Value), inertK o = true → plainAt ρ o = true → Inert P ρ o) {id : Nat} {a : Act} {w : World}
    (hm : P.follows .mixedOrders = true) (ht : textB ops = true) (h : wpOps P ops (TextQ ops Q) (List.range ops.size) a w.drew) : (Code.region id ops true).wp P Q a w := by
  unfold textB at ht
  rw [Bool.and_eq_true] at ht
  refine wp_mono (Q := TextQ ops Q) (wp_region_any hm ?_) (fun e a w hq => by obtain ⟨rfl, _, hq⟩ := hq; exact hq)
  have hu : unl ops (Array.replicate ops.size false) = List.range ops.size := by
    unfold unl
    refine List.filter_eq_self.2 fun i hi => ?_
    have := List.mem_range.1 hi
    simp [this]
  refine wpAny_text hin ht.1 ht.2 ops.size _ a _ (by simp) ?_ (by rw [hu]; simp) (by rw [hu]; exact h)
  intro k ok hok hk
  have := (Array.getElem?_eq_some_iff.1 hok).1
  simp [this] at hk
end
end
end Go.Proofs.Ytglccdcdnbannaa
