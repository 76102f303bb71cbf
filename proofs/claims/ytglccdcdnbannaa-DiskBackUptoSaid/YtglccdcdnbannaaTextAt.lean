/- The kinds of operations that yield what depends on no world. -/
import Derived.Test.YtglccdcdnbannaaText
set_option linter.unusedVariables false
set_option linter.unusedSimpArgs false
namespace Go.Proofs.Ytglccdcdnbannaa
open Go

section
variable {P : Program} {α β : Type}
theorem OkS.pure (a : α) : OkS P (Pure.pure a : Sem α) := fun w v w' h => by
  simp only [Sem.run_pure] at h ⊢; injection h with h1 h2; subst h1; subst h2; exact ⟨rfl, fun _ => rfl⟩
theorem OkS.halt (h : Halt) : OkS P (Sem.halt h : Sem α) := fun w v w' hh => by simp [Sem.run] at hh
theorem OkS.stuck (s : String) : OkS P (Go.stuck s : Sem α) := OkS.halt _
theorem OkS.unsupported (s : Unsupported) : OkS P (Go.unsupported s : Sem α) := OkS.halt _
theorem OkS.bind {x : Sem α} {f : α → Sem β} (h : OkS P x) (hf : ∀ a, OkS P (f a)) : OkS P (x >>= f) := fun w v w' hh => by
  have hh2 : Sem.run P (Sem.bind x f) w = .ok v w' := hh
  clear hh
  rw [Sem.run_bind'] at hh2
  cases hr : x.run P w with
  | ok a w1 =>
    rw [hr] at hh2
    obtain ⟨rfl, hu⟩ := h w a w1 hr
    obtain ⟨rfl, hv⟩ := hf a w1 v w' hh2
    exact ⟨rfl, fun u => by show Sem.run P (Sem.bind x f) u = _; rw [Sem.run_bind', hu u]; exact hv u⟩
  | halt x w1 => rw [hr] at hh2; cases hh2
theorem OkS.never {x : Sem α} (h : ∀ w v w', x.run P w ≠ .ok v w') : OkS P x := fun w v w' hh => absurd hh (h w v w')
theorem OkS.program : OkS P program := fun w v w' h => by
  unfold Go.program at *; simp only [Sem.run] at h ⊢; injection h with h1 h2; subst h1; subst h2; exact ⟨rfl, fun _ => rfl⟩
theorem OkS.underlying (t : TypeId) : OkS P (underlying t) := by
  unfold Go.underlying; refine OkS.bind OkS.program fun p => ?_; split; exact OkS.pure _; exact OkS.stuck _
theorem OkS.typeInfo (t : TypeId) : OkS P (typeInfo t) := by
  unfold Go.typeInfo; refine OkS.bind OkS.program fun p => ?_; split; exact OkS.pure _; exact OkS.stuck _
theorem OkS.sizeOf (t : TypeId) : OkS P (sizeOf t) := by
  unfold Go.sizeOf; exact OkS.bind (OkS.typeInfo t) fun p => OkS.pure _
theorem OkS.isAgg (t : TypeId) : OkS P (isAgg t) := by
  unfold Go.isAgg; refine OkS.bind (OkS.underlying t) fun p => ?_; split <;> exact OkS.pure _
theorem OkS.asBool (v : Value) : OkS P (asBool v) := by unfold Go.asBool; split; exact OkS.pure _; exact OkS.stuck _
theorem OkS.asIntOf (v : Value) : OkS P (asIntOf v) := by unfold Go.asIntOf; split; exact OkS.pure _; exact OkS.unsupported _; exact OkS.stuck _
theorem OkS.asAgg (v : Value) : OkS P (asAgg v) := by unfold Go.asAgg; split; exact OkS.pure _; exact OkS.stuck _
theorem OkS.sureAddr (v : Value) : OkS P (Instr.sureAddr v) := by unfold Instr.sureAddr; split; exact OkS.pure _; exact OkS.stuck _
theorem OkS.part (t : TypeId) (cs : Array Value) (n : Nat) : OkS P (part t cs n) := by
  unfold Go.part; refine OkS.bind (OkS.isAgg t) fun p => ?_
  split
  · exact OkS.bind (OkS.sizeOf t) fun _ => OkS.pure _
  · split; exact OkS.pure _; exact OkS.stuck _

theorem never_bind {x : Sem α} {f : α → Sem β} (hf : ∀ a w v w', (f a).run P w ≠ .ok v w') (w : World) (v : β) (w' : World) : (x >>= f).run P w ≠ .ok v w' := by
  intro hh
  have hh : Sem.run P (Sem.bind x f) w = .ok v w' := hh
  rw [Sem.run_bind'] at hh
  cases hr : x.run P w with
  | ok a w1 => rw [hr] at hh; exact hf _ _ _ _ hh
  | halt x w1 => rw [hr] at hh; cases hh
theorem never_panic (e : RuntimeError) (w : World) (v : α) (w' : World) : (runtimePanic e : Sem α).run P w ≠ .ok v w' := by
  unfold runtimePanic
  refine never_bind (fun p w v w' => ?_) w v w'
  have hp : ∀ x (w : World) (v : α) (w' : World), (goPanic x : Sem α).run P w ≠ .ok v w' := fun x w v w' h => by simp [goPanic, Sem.run] at h
  cases e with
  | typeAssertion i c a m => exact never_bind (fun _ => never_bind fun _ => hp _) w v w'
  | panicNil => exact never_bind (fun _ => never_bind fun _ => hp _) w v w'
  | _ => exact hp _ w v w'
theorem OkS.panic (e : RuntimeError) : OkS P (runtimePanic e : Sem α) := OkS.never (never_panic e)
theorem OkS.bounds (k : IntKind) (x y : Int) (c : BoundsCode) : OkS P (boundsPanic k x y c : Sem α) := by
  unfold boundsPanic
  dsimp only
  split <;> exact OkS.never (never_bind fun _ => never_panic _)
theorem OkS.ite {c : Prop} [Decidable c] {x y : Sem α} (hx : OkS P x) (hy : OkS P y) : OkS P (if c then x else y) := by split; exact hx; exact hy

theorem OkS.sliceBound (x : Value) (n : Nat) (c : BoundsCode) : OkS P (Instr.sliceBound x n c) := by
  unfold Instr.sliceBound
  refine OkS.bind (OkS.asIntOf x) fun p => ?_
  split
  exact OkS.ite (OkS.pure _) (OkS.bounds _ _ _ _)
theorem OkS.sliceBounds (b : Bool) (n m : Nat) (lo hi mx : Option Value) : OkS P (Instr.sliceBounds b n m lo hi mx) := by
  unfold Instr.sliceBounds
  have hl : ∀ m h, OkS P (match lo with
      | some v => do let l ← Instr.sliceBound v h (if mx.isSome then .slice3C else .sliceB); Pure.pure (l, h, m)
      | none => do let l ← Pure.pure 0; Pure.pure (l, h, m) : Sem (Nat × Nat × Nat)) := by
    intro m h
    split
    · exact OkS.bind (OkS.sliceBound _ _ _) fun _ => OkS.pure _
    · exact OkS.bind (OkS.pure _) fun _ => OkS.pure _
  dsimp only
  repeat' split
  all_goals first | exact OkS.stuck _ | (refine OkS.bind (OkS.sliceBound _ _ _) fun _ => ?_) | (refine OkS.bind (OkS.pure _) fun _ => ?_)
  all_goals (repeat' split)
  all_goals first | exact OkS.stuck _ | (refine OkS.bind (OkS.sliceBound _ _ _) fun _ => ?_) | (refine OkS.bind (OkS.pure _) fun _ => ?_) | (refine OkS.bind (OkS.stuck _) fun _ => ?_)
  all_goals (repeat' split)
  all_goals first | exact OkS.bind (OkS.sliceBound _ _ _) fun _ => OkS.pure _ | exact OkS.bind (OkS.pure _) fun _ => OkS.pure _ | exact OkS.pure _
theorem OkS.asAddr (v : Value) : OkS P (asAddr v) := by unfold Go.asAddr; split; exact OkS.pure _; exact OkS.panic _; exact OkS.stuck _
theorem OkS.slice (t : TypeId) (x : Value) (lo hi mx : Option Value) : OkS P (Instr.slice t x lo hi mx) := by
  unfold Instr.slice
  repeat' (first | exact OkS.pure _ | exact OkS.stuck _ | exact OkS.unsupported _ | exact OkS.bounds _ _ _ _ | exact OkS.panic _ | exact OkS.sliceBounds _ _ _ _ _ _ | exact OkS.sizeOf _ | exact OkS.underlying _ | exact OkS.asAddr _ | exact OkS.sureAddr _ | exact OkS.asIntOf _ | exact OkS.asAgg _ | exact OkS.part _ _ _ | refine OkS.bind ?_ fun _ => ?_ | split | dsimp only)
theorem OkS.sliceAt (t : TypeId) (x : Value) (lo hi mx : Option Value) : OkS P (Instr.sliceAt t x lo hi mx) := by
  unfold Instr.sliceAt
  refine OkS.bind (OkS.underlying t) fun d => ?_
  split
  · exact OkS.bind (OkS.sureAddr _) fun _ => OkS.bind (OkS.sliceBounds _ _ _ _ _ _) fun _ => OkS.bind (OkS.sizeOf _) fun _ => OkS.pure _
  · exact OkS.slice _ _ _ _ _
theorem OkS.indexAt (t : TypeId) (x i : Value) : OkS P (Instr.indexAt t x i) := by
  unfold Instr.indexAt
  repeat' (first | exact OkS.pure _ | exact OkS.stuck _ | exact OkS.unsupported _ | exact OkS.bounds _ _ _ _ | exact OkS.panic _ | exact OkS.sliceBounds _ _ _ _ _ _ | exact OkS.sizeOf _ | exact OkS.underlying _ | exact OkS.asAddr _ | exact OkS.sureAddr _ | exact OkS.asIntOf _ | exact OkS.asAgg _ | exact OkS.part _ _ _ | refine OkS.bind ?_ fun _ => ?_ | split | dsimp only)
theorem OkS.index (t : TypeId) (x i : Value) : OkS P (Instr.index t x i) := by
  unfold Instr.index
  repeat' (first | exact OkS.pure _ | exact OkS.stuck _ | exact OkS.unsupported _ | exact OkS.bounds _ _ _ _ | exact OkS.panic _ | exact OkS.sliceBounds _ _ _ _ _ _ | exact OkS.sizeOf _ | exact OkS.underlying _ | exact OkS.asAddr _ | exact OkS.sureAddr _ | exact OkS.asIntOf _ | exact OkS.asAgg _ | exact OkS.part _ _ _ | refine OkS.bind ?_ fun _ => ?_ | split | dsimp only)
theorem OkS.field (t : TypeId) (x : Value) (n : Nat) : OkS P (Instr.field t x n) := by
  unfold Instr.field
  repeat' (first | exact OkS.pure _ | exact OkS.stuck _ | exact OkS.unsupported _ | exact OkS.bounds _ _ _ _ | exact OkS.panic _ | exact OkS.sliceBounds _ _ _ _ _ _ | exact OkS.sizeOf _ | exact OkS.underlying _ | exact OkS.asAddr _ | exact OkS.sureAddr _ | exact OkS.asIntOf _ | exact OkS.asAgg _ | exact OkS.part _ _ _ | refine OkS.bind ?_ fun _ => ?_ | split | dsimp only)
theorem OkS.extract (x : Value) (n : Nat) : OkS P (Instr.extract x n) := by
  unfold Instr.extract
  repeat' (first | exact OkS.pure _ | exact OkS.stuck _ | exact OkS.unsupported _ | exact OkS.bounds _ _ _ _ | exact OkS.panic _ | exact OkS.sliceBounds _ _ _ _ _ _ | exact OkS.sizeOf _ | exact OkS.underlying _ | exact OkS.asAddr _ | exact OkS.sureAddr _ | exact OkS.asIntOf _ | exact OkS.asAgg _ | exact OkS.part _ _ _ | refine OkS.bind ?_ fun _ => ?_ | split | dsimp only)
theorem OkS.unary (op : UnOp) (x : Value) : OkS P (Op.unary op x) := by
  unfold Op.unary Op.intArith Op.intBits
  split <;> first | exact OkS.pure _ | exact OkS.stuck _ | exact OkS.unsupported _
theorem OkS.samePointer (a : Option Addr) : OkS P (samePointer a none) := by cases a <;> exact OkS.pure _
theorem OkS.shift (op : BinOp) (k : IntKind) (a : Int) (k' : IntKind) (b : Int) : OkS P (Op.shift op k a k' b) := by
  unfold Op.shift; dsimp only; repeat' (first | exact OkS.pure _ | exact OkS.stuck _ | exact OkS.panic _ | split)
theorem OkS.intArith (op : BinOp) (k : IntKind) (a b : Int) : OkS P (Op.intArith op k a b) := by
  unfold Op.intArith; repeat' (first | exact OkS.pure _ | exact OkS.stuck _ | exact OkS.panic _ | split)
theorem OkS.intDiv (op : BinOp) (k : IntKind) (a b : Int) : OkS P (Op.intDiv op k a b) := by
  unfold Op.intDiv; repeat' (first | exact OkS.pure _ | exact OkS.stuck _ | exact OkS.panic _ | split)
theorem OkS.intBits (op : BinOp) (k : IntKind) (a b : Int) : OkS P (Op.intBits op k a b) := by
  unfold Op.intBits; dsimp only; repeat' (first | exact OkS.pure _ | exact OkS.stuck _ | exact OkS.panic _ | split)
theorem OkS.intCmp (op : BinOp) (a b : Int) : OkS P (Op.intCmp op a b) := by
  unfold Op.intCmp; repeat' (first | exact OkS.pure _ | exact OkS.stuck _ | exact OkS.panic _ | split)
theorem OkS.stringOp (op : BinOp) (a b : ByteArray) : OkS P (Op.stringOp op a b) := by
  unfold Op.stringOp; dsimp only; repeat' (first | exact OkS.pure _ | exact OkS.stuck _ | exact OkS.unsupported _ | split)
theorem OkS.equalIn (d : Nat) (t : TypeId) {x y : Value} (h : plainBin x y = true) : OkS P (Op.equalIn (d + 1) t x y) := by
  unfold Op.equalIn
  refine OkS.bind (OkS.underlying t) fun d => ?_
  unfold plainBin at h
  split at h <;> first | cases h; done | skip
  all_goals
    cases d <;> dsimp only <;> repeat' (first | exact OkS.pure _ | exact OkS.stuck _ | exact OkS.unsupported _ | contradiction | (exfalso; rename_i hh; injection hh; contradiction) | (exfalso; rename_i hh _; injection hh; contradiction) | exact OkS.samePointer _ | split)
theorem OkS.equal (t : TypeId) {x y : Value} (h : plainBin x y = true) : OkS P (Op.equal t x y) := OkS.equalIn 9999 t h
inductive Plain : Value → Value → Prop where
  | int (k a k' b) : Plain (.int k a) (.int k' b)
  | bool (a b) : Plain (.bool a) (.bool b)
  | string (a b) : Plain (.string a) (.string b)
  | sliceL (a b b' c d) : Plain (.slice none a b) (.slice b' c d)
  | sliceR (p a b c d) : Plain (.slice (some p) a b) (.slice none c d)
  | ptrL (p) : Plain (.pointer none) (.pointer p)
  | ptrR (p) : Plain (.pointer (some p)) (.pointer none)
  | ifL (t v) : Plain .nilIface (.iface t v)
  | ifR (t v) : Plain (.iface t v) .nilIface
theorem plain_of {x y : Value} (h : plainBin x y = true) : Plain x y := by
  unfold plainBin at h
  split at h
  · exact .int ..
  · exact .bool ..
  · exact .string ..
  · exact .sliceL ..
  · rename_i p _ _ _ _ _
    cases p
    · exact .sliceL ..
    · exact .sliceR ..
  · exact .ptrL ..
  · rename_i p _
    cases p
    · exact .ptrL ..
    · exact .ptrR ..
  · exact .ifL ..
  · exact .ifR ..
  · cases h
theorem OkS.binOp (op : BinOp) (t : TypeId) {x y : Value} (h : plainBin x y = true) : OkS P (binOp op t x y) := by
  have he := OkS.equal (P := P) t h
  have e1 : OkS P (do Pure.pure (.bool (← Op.equal t x y)) : Sem Value) := OkS.bind he fun _ => OkS.pure _
  have e2 : OkS P (do Pure.pure (.bool (!(← Op.equal t x y))) : Sem Value) := OkS.bind he fun _ => OkS.pure _
  cases plain_of h
  case int k a k' b =>
    clear e1 e2 he h
    cases op
    case shl => unfold Go.binOp; dsimp only; exact OkS.shift _ _ _ _ _
    case shr => unfold Go.binOp; dsimp only; exact OkS.shift _ _ _ _ _
    all_goals
      unfold Go.binOp
      dsimp only
      refine OkS.ite (OkS.stuck _) ?_
      first | exact OkS.intArith _ _ _ _ | exact OkS.intDiv _ _ _ _ | exact OkS.intBits _ _ _ _ | exact OkS.intCmp _ _ _
  case string a b => clear e1 e2 he h; cases op <;> unfold Go.binOp <;> dsimp only <;> exact OkS.stringOp _ _ _
  case bool a b =>
    cases op
    case eql => unfold Go.binOp; dsimp only; exact e1
    case neq => unfold Go.binOp; dsimp only; exact e2
    all_goals (unfold Go.binOp; dsimp only; exact OkS.stuck _)
  case ptrL p =>
    cases p <;> cases op <;> unfold Go.binOp <;> dsimp only <;> first | exact OkS.unsupported _ | exact e1 | exact e2
  case ptrR p =>
    cases op
    case eql => unfold Go.binOp; dsimp only; exact e1
    case neq => unfold Go.binOp; dsimp only; exact e2
    all_goals (unfold Go.binOp; dsimp only; exact OkS.unsupported _)
  all_goals
    cases op
    case eql => unfold Go.binOp; dsimp only; exact e1
    case neq => unfold Go.binOp; dsimp only; exact e2
    all_goals (unfold Go.binOp; dsimp only; exact OkS.stuck _)
theorem OkS.eqGuard (op : BinOp) (t : TypeId) (xo yo : Operand) {x y : Value} (h : plainBin x y = true) : OkS P (eqGuard op t xo yo x y) := by
  unfold Go.eqGuard
  unfold plainBin at h
  split at h <;> first | cases h; done | skip
  all_goals
    dsimp only
    repeat' (first | exact OkS.pure _ | split)
end

theorem inert_v {P : Program} {ρ : Operand → Value} {o : Oper} {s : Sem Value} (h : OkS P s) (he : execOp ρ o = (s >>= fun x => Pure.pure (.value x))) : Inert P ρ o := by
  intro w n w' hr
  rw [he] at hr ⊢
  have hr2 : Sem.run P (Sem.bind s fun x => (Pure.pure (Next.value x) : Sem Next)) w = .ok n w' := hr
  clear hr
  rw [Sem.run_bind'] at hr2
  cases hs : s.run P w with
  | ok v w1 =>
    rw [hs] at hr2
    obtain ⟨rfl, hu⟩ := h w v w1 hs
    have hr : Result.ok (Next.value v) w1 = .ok n w' := hr2
    injection hr with h1 h2
    subst h1; subst h2
    refine ⟨⟨v, rfl⟩, rfl, fun u => ?_⟩
    show Sem.run P (Sem.bind s fun x => (Pure.pure (Next.value x) : Sem Next)) u = _
    rw [Sem.run_bind', hu u]; rfl
  | halt x w1 => rw [hs] at hr2; cases hr2

theorem inert_pure {P : Program} {ρ : Operand → Value} {o : Oper} {v : Value} (he : execOp ρ o = Pure.pure (.value v)) : Inert P ρ o := by
  intro w n w' hr
  rw [he] at hr ⊢
  have hr : Result.ok (Next.value v) w = .ok n w' := hr
  injection hr with h1 h2
  subst h1; subst h2
  exact ⟨⟨v, rfl⟩, rfl, fun u => rfl⟩

theorem inert_len {P : Program} (ts : Array TypeId) (t : TypeId) {x : Value} (h : (match x with | .slice .. => true | .string _ => true | _ => false) = true) :
    OkS P (Builtin.len_ ts t #[x]) ∧ OkS P (Builtin.cap_ ts t #[x]) := by
  split at h <;> first | cases h; done | skip
  all_goals
    refine ⟨?_, ?_⟩
    all_goals
      first | unfold Builtin.len_ | unfold Builtin.cap_
      simp only [List.getElem?_toArray, List.getElem?_cons_zero]
      split
      · refine OkS.bind (OkS.underlying _) fun d => ?_
        rename_i heq
        injection heq with _ heq
        injection heq with heq
        subst heq
        cases d <;> dsimp only <;> repeat' (first | exact OkS.pure _ | exact OkS.stuck _ | refine OkS.bind (OkS.underlying _) fun _ => ?_ | split)
      · exact OkS.stuck _

theorem plain_inert (P : Program) (o : Oper) (ρ : Operand → Value) (h1 : inertK o = true) (h2 : plainAt ρ o = true) : Inert P ρ o := by
  obtain ⟨dst, op, type, pos, after, guard⟩ := o
  cases op <;> first | (simp [inertK] at h1; done) | skip
  case move x => exact inert_pure rfl
  case assign x => exact inert_pure rfl
  case pick c a b => exact inert_v (s := do Pure.pure (if ← asBool (ρ c) then ρ a else ρ b)) (OkS.bind (OkS.asBool _) fun _ => OkS.pure _) (by simp [execOp])
  case binOp op t x y _ => exact inert_v (OkS.bind (OkS.eqGuard _ _ _ _ h2) fun _ => OkS.binOp _ _ h2) rfl
  case unOp op t x => exact inert_v (OkS.unary _ _) rfl
  case slice t x lo hi mx => exact inert_v (OkS.sliceAt _ _ _ _ _) rfl
  case indexAddr t x i => exact inert_v (OkS.indexAt _ _ _) rfl
  case index t x i => exact inert_v (OkS.index _ _ _) rfl
  case field t x i => exact inert_v (OkS.field _ _ _) rfl
  case extract t i => exact inert_v (OkS.extract _ _) rfl
  case nilCheck x =>
    unfold plainAt at h2
    dsimp only at h2
    intro w n w' hr
    unfold execOp at hr ⊢
    dsimp only at hr ⊢
    split at h2
    · cases h2
    · rename_i hne
      split at hr
      · exact absurd hr (never_panic _ _ _ _)
      · exact absurd hr (never_panic _ _ _ _)
      · exact absurd hr (never_panic _ _ _ _)
      · rename_i hx; exact absurd hx (hne _ _ _)
      · have hr : Result.ok (Next.value (ρ x)) w = .ok n w' := hr
        injection hr with e1 e2
        subst e1; subst e2
        exact ⟨⟨_, rfl⟩, rfl, fun u => rfl⟩
  case call c =>
    obtain ⟨callee, args, argTypes⟩ := c
    have hl : (args.map ρ).toList = args.toList.map ρ := by simp
    cases callee with
    | value f => simp [inertK] at h1
    | invoke r m => simp [inertK] at h1
    | builtin b =>
      cases b <;> first | (simp [inertK] at h1; done) | skip
      case len =>
        unfold plainAt at h2
        dsimp only at h2
        refine inert_v (s := Builtin.len_ argTypes type (args.map ρ)) ?_ rfl
        rw [← hl] at h2
        generalize args.map ρ = vs at h2
        obtain ⟨vs⟩ := vs
        dsimp only at h2
        split at h2
        · exact (inert_len _ _ rfl).1
        · exact (inert_len _ _ rfl).1
        · cases h2
      case cap =>
        unfold plainAt at h2
        dsimp only at h2
        refine inert_v (s := Builtin.cap_ argTypes type (args.map ρ)) ?_ rfl
        rw [← hl] at h2
        generalize args.map ρ = vs at h2
        obtain ⟨vs⟩ := vs
        dsimp only at h2
        split at h2
        · exact (inert_len _ _ rfl).2
        · exact (inert_len _ _ rfl).2
        · cases h2
      case min =>
        unfold plainAt at h2
        dsimp only at h2
        refine inert_v (s := Builtin.min_ argTypes type (args.map ρ)) ?_ rfl
        rw [← hl] at h2
        generalize args.map ρ = vs at h2
        obtain ⟨vs⟩ := vs
        dsimp only at h2
        split at h2
        · exact OkS.bind (OkS.pure _) fun _ => OkS.pure _
        · cases h2
      case max =>
        unfold plainAt at h2
        dsimp only at h2
        refine inert_v (s := Builtin.max_ argTypes type (args.map ρ)) ?_ rfl
        rw [← hl] at h2
        generalize args.map ρ = vs at h2
        obtain ⟨vs⟩ := vs
        dsimp only at h2
        split at h2
        · exact OkS.bind (OkS.pure _) fun _ => OkS.pure _
        · cases h2

/-- A drawn region may be walked in text order. -/
theorem wp_region_text {P : Program} {Q : Exit → Act → World → Prop} {id : Nat} {ops : Array Oper} {a : Act} {w : World}
    (hm : P.follows .mixedOrders = true) (ht : textB ops = true) (h : wpList P ops (TextQ ops Q) ops.toList a w.drew) : (Code.region id ops true).wp P Q a w :=
  wp_region_textC (fun o ρ => plain_inert P o ρ) hm ht (by rw [List.range_eq_range', ← Array.length_toList, wpOps_eq_wpList ops.toList 0 (by simp)]; exact h)

theorem wp_region_textL {P : Program} {Q : Exit → Act → World → Prop} {id : Nat} {l : List Oper} {a : Act} {w : World}
    (hm : P.follows .mixedOrders = true) (ht : textB l.toArray = true) (h : wpList P l.toArray (TextQ l.toArray Q) l a w.drew) : (Code.region id l.toArray true).wp P Q a w :=
  wp_region_text hm ht (by simpa using h)

theorem textQ_of {Q : Exit → Act → World → Prop} {ops : Array Oper} {a : Act} {w : World} (hp : plainAll ops a = true) (h : Q .normal a w) : TextQ ops Q .normal a w := ⟨rfl, hp, h⟩
end Go.Proofs.Ytglccdcdnbannaa
