/- Operations over data without memory: those that change nothing. No statement of the seat. -/
import Derived.Test.YtglccdcdnbannaaAw
import Derived.Laws.Strings
import Derived.Laws.Strings2
import Derived.Laws.Strings3
import Derived.Laws.Slices
import Derived.Laws.Small
import Derived.Laws.Pointers
import Derived.Laws.Unary
import Derived.Laws.Cells
set_option linter.unusedVariables false
set_option linter.unusedSimpArgs false
namespace Go.Proofs.Ytglccdcdnbannaa
open Go.RowKit

class TSize (P : Program) (t : TypeId) (n : outParam Nat) : Prop where
  h : (P.info? t).map (·.size) = some n
def aggB (P : Program) (t : TypeId) : Option Bool := (P.underlying t).map fun | .struct _ => true | .array .. => true | _ => false
class TAgg (P : Program) (t : TypeId) (b : outParam Bool) : Prop where
  h : aggB P t = some b
class TSl (P : Program) (t : TypeId) (e : outParam TypeId) : Prop where
  h : P.underlying t = some (.slice e)
class TArr (P : Program) (t : TypeId) (n : outParam Nat) (e : outParam TypeId) : Prop where
  h : P.underlying t = some (.array n e)
def fldOf (P : Program) (s : TypeId) (f : Nat) : Option (Nat × TypeId) := match P.underlying s with
  | some (.struct fs) => (fs[f]?).map fun x => (x.offset, x.type)
  | _ => none
class TFld (P : Program) (s : TypeId) (f : Nat) (off : outParam Nat) (ft : outParam TypeId) : Prop where
  h : fldOf P s f = some (off, ft)

class TPtr (P : Program) (t : TypeId) (e : outParam TypeId) : Prop where
  h : P.underlying t = some (.pointer e)
class TStr (P : Program) (t : TypeId) : Prop where
  h : P.underlying t = some .string
class TBool (P : Program) (t : TypeId) : Prop where
  h : P.underlying t = some .bool
class TInt (P : Program) (t : TypeId) (k : outParam IntKind) : Prop where
  h : P.underlying t = some (.int k)
theorem TSl.self {P : Program} {t e : TypeId} [h : TSl P t e] : P.underlying t = some (.slice (P.elem t)) := by
  have := h.h
  unfold Program.elem
  rw [this]
theorem TPtr.self {P : Program} {t e : TypeId} [h : TPtr P t e] : P.underlying t = some (.pointer (P.pointee t)) := by
  have := h.h
  unfold Program.pointee
  rw [this]
theorem TInt.self {P : Program} {t : TypeId} {k : IntKind} [h : TInt P t k] : P.intKind t = k := by
  have := h.h
  unfold Program.intKind
  rw [this]
section runs
variable {P : Program} {w : World}
theorem run_size {t n : Nat} [h : TSize P t n] : (sizeOf t).run P w = .ok n w := by
  obtain ⟨i, hi, hn⟩ := Option.map_eq_some_iff.1 h.h
  simp [sizeOf, typeInfo, hi, hn]
theorem run_agg {t : Nat} {b : Bool} [h : TAgg P t b] : (isAgg t).run P w = .ok b w := by
  obtain ⟨d, hd, hb⟩ := Option.map_eq_some_iff.1 h.h
  unfold isAgg
  simp only [Sem.run_bind, run_underlying hd, Result.andThen_ok]
  cases d <;> simp at hb <;> subst hb <;> rfl
theorem run_fieldAt {s f off ft n : Nat} [h : TFld P s f off ft] [hs : TSize P ft n] (hn : n ≠ 0) (a : Addr) : (Instr.fieldAt s (.pointer (some a)) f).run P w = .ok (.pointer (some (a.add off))) w := by
  have h := h.h
  unfold fldOf at h
  split at h
  · rename_i fs hu
    obtain ⟨x, hx, he⟩ := Option.map_eq_some_iff.1 h
    simp only [Prod.mk.injEq] at he
    obtain ⟨rfl, rfl⟩ := he
    simp only [Instr.fieldAt, Sem.run_bind, run_underlying hu, Result.andThen_ok, hx, Instr.sureAddr, Sem.run_pure, fieldPlace, run_size, if_neg hn]
  · cases h
theorem run_part {t n : Nat} {b : Bool} [ha : TAgg P t b] [hs : TSize P t n] (cs : Array Value) (off : Nat) (h : off + n ≤ cs.size) (h1 : b = false → n = 1) :
    (part t cs off).run P w = .ok (if b = true then .agg (cs.extract off (off + n)) else cs.getD off undef) w := by
  unfold part
  simp only [Sem.run_bind, run_agg, Result.andThen_ok]
  cases b with
  | true => simp only [if_true, Sem.run_bind, run_size, Result.andThen_ok, Sem.run_pure]
  | false =>
    have := h1 rfl
    have hlt : off < cs.size := by omega
    simp [hlt]
end runs

theorem RdL.c0 {L : List Nat} {w : World} {vs : List Value} (h : RdL L w [] vs) : vs = [] := by cases h; rfl
theorem RdL.c1 {L : List Nat} {w : World} {d : AV} {ds : List AV} {vs : List Value} (h : RdL L w (d :: ds) vs) : ∃ v us, vs = v :: us ∧ Rd L w d v ∧ RdL L w ds us := by cases h with | cons h t => exact ⟨_, _, rfl, h, t⟩
theorem Rd.rawEq {L : List Nat} {w : World} {v u : Value} (h : Rd L w (.raw v) u) : u = v := by cases h; rfl
def oneA : AV → Bool
  | .raw v => v.oneCell'
  | .sl .. | .elt .. | .eptr .. | .fn .. => true
  | _ => false
theorem Rd.one {L : List Nat} {w : World} {d : AV} {v : Value} (h : Rd L w d v) (ho : oneA d = true) : v.oneCell' = true := by
  cases h <;> first | rfl | exact ho | cases ho

section opf
variable {P : Program} {F : List Ent} {o : Oper}
theorem opF1 {x : Operand} {d r : AV} (hop : o.op.operands.toList = [x])
    (h : ∀ (L : List Nat) (w : World) (ρ : Operand → Value), HpOk L w F → Rd (hpB F ++ L) w d (ρ x) → ∃ u, (execOp ρ o).run P w = .ok (.value u) w ∧ Rd (hpB F ++ L) w r u) : OpF P F o [d] r := fun L w ρ hF hr => by
  rw [hop] at hr
  obtain ⟨v, us, he, h1, _⟩ := hr.c1
  simp only [List.map_cons, List.cons.injEq] at he
  rw [← he.1] at h1
  exact h L w ρ hF h1
theorem opF2 {x y : Operand} {d e r : AV} (hop : o.op.operands.toList = [x, y])
    (h : ∀ (L : List Nat) (w : World) (ρ : Operand → Value), HpOk L w F → Rd (hpB F ++ L) w d (ρ x) → Rd (hpB F ++ L) w e (ρ y) → ∃ u, (execOp ρ o).run P w = .ok (.value u) w ∧ Rd (hpB F ++ L) w r u) : OpF P F o [d, e] r := fun L w ρ hF hr => by
  rw [hop] at hr
  obtain ⟨v, us, he, h1, h2⟩ := hr.c1
  obtain ⟨v2, us2, he2, h3, _⟩ := h2.c1
  subst he2
  simp only [List.map_cons, List.cons.injEq] at he
  rw [← he.1] at h1
  rw [← he.2.1] at h3
  exact h L w ρ hF h1 h3
theorem opF3 {x y z : Operand} {d e f r : AV} (hop : o.op.operands.toList = [x, y, z])
    (h : ∀ (L : List Nat) (w : World) (ρ : Operand → Value), HpOk L w F → Rd (hpB F ++ L) w d (ρ x) → Rd (hpB F ++ L) w e (ρ y) → Rd (hpB F ++ L) w f (ρ z) → ∃ u, (execOp ρ o).run P w = .ok (.value u) w ∧ Rd (hpB F ++ L) w r u) : OpF P F o [d, e, f] r := fun L w ρ hF hr => by
  rw [hop] at hr
  obtain ⟨v, us, he, h1, h2⟩ := hr.c1
  obtain ⟨v2, us2, he2, h3, h4⟩ := h2.c1
  obtain ⟨v3, us3, he3, h5, _⟩ := h4.c1
  subst he3 he2
  simp only [List.map_cons, List.cons.injEq] at he
  rw [← he.1] at h1
  rw [← he.2.1] at h3
  rw [← he.2.2.1] at h5
  exact h L w ρ hF h1 h3 h5
theorem opF1r {x : Operand} {a u : Value} (hop : o.op.operands.toList = [x]) (h : ∀ (w : World) (ρ : Operand → Value), ρ x = a → (execOp ρ o).run P w = .ok (.value u) w) : OpF P F o [.raw a] (.raw u) :=
  opF1 hop fun L w ρ _ h1 => ⟨u, h w ρ h1.rawEq, .raw _⟩
theorem opF2r {x y : Operand} {a b u : Value} (hop : o.op.operands.toList = [x, y]) (h : ∀ (w : World) (ρ : Operand → Value), ρ x = a → ρ y = b → (execOp ρ o).run P w = .ok (.value u) w) : OpF P F o [.raw a, .raw b] (.raw u) :=
  opF2 hop fun L w ρ _ h1 h2 => ⟨u, h w ρ h1.rawEq h2.rawEq, .raw _⟩

theorem opf_move {x : Operand} {d : AV} (ho : o.op = .move x) : OpF P F o [d] d := opF1 (x := x) (by rw [ho]; rfl) fun L w ρ _ h => ⟨ρ x, by simp [execOp, ho], h⟩
theorem opf_assign {x : Operand} {d : AV} (ho : o.op = .assign x) : OpF P F o [d] d := opF1 (x := x) (by rw [ho]; rfl) fun L w ρ _ h => ⟨ρ x, by simp [execOp, ho], h⟩
theorem opf_pick_t {c x y : Operand} {d e : AV} (ho : o.op = .pick c x y) : OpF P F o [.raw (.bool true), d, e] d := opF3 (x := c) (y := x) (z := y) (by rw [ho]; rfl) fun L w ρ _ h1 h2 h3 => ⟨ρ x, by simp [execOp, ho, h1.rawEq, asBool], h2⟩
theorem opf_pick_f {c x y : Operand} {d e : AV} (ho : o.op = .pick c x y) : OpF P F o [.raw (.bool false), d, e] e := opF3 (x := c) (y := x) (z := y) (by rw [ho]; rfl) fun L w ρ _ h1 h2 h3 => ⟨ρ y, by simp [execOp, ho, h1.rawEq, asBool], h3⟩
theorem opf_pick_tr {c x y : Operand} {b : Bool} {d e : AV} (ho : o.op = .pick c x y) (hb : b = true) : OpF P F o [.raw (.bool b), d, e] d := by subst hb; exact opf_pick_t ho
theorem opf_pick_fr {c x y : Operand} {b : Bool} {d e : AV} (ho : o.op = .pick c x y) (hb : b = false) : OpF P F o [.raw (.bool b), d, e] e := by subst hb; exact opf_pick_f ho

theorem beqI (a b : Int) : (a == b) = decide (a = b) := by rw [Bool.eq_iff_iff]; simp
section bin
variable {t t' : TypeId} {x y : Operand} {k : IntKind} {a b : Int}
theorem opf_add (ho : o.op = .binOp .add t x y t') : OpF P F o [.raw (.int k a), .raw (.int k b)] (.raw (.int k (k.wrap (a + b)))) :=
  opF2r (x := x) (y := y) (by rw [ho]; rfl) fun w ρ h1 h2 => by simp [execOp, ho, h1, h2, eqGuard_add, binOp, Op.intArith]
theorem opf_sub (ho : o.op = .binOp .sub t x y t') : OpF P F o [.raw (.int k a), .raw (.int k b)] (.raw (.int k (k.wrap (a - b)))) :=
  opF2r (x := x) (y := y) (by rw [ho]; rfl) fun w ρ h1 h2 => by simp [execOp, ho, h1, h2, eqGuard_sub, binOp, Op.intArith]
theorem opf_mul (ho : o.op = .binOp .mul t x y t') : OpF P F o [.raw (.int k a), .raw (.int k b)] (.raw (.int k (k.wrap (a * b)))) :=
  opF2r (x := x) (y := y) (by rw [ho]; rfl) fun w ρ h1 h2 => by simp [execOp, ho, h1, h2, eqGuard_mul, binOp, Op.intArith]
theorem opf_add_in (ho : o.op = .binOp .add t x y t') (h1 : -9223372036854775808 ≤ a + b) (h2 : a + b ≤ 9223372036854775807) : OpF P F o [.raw (.int .i64 a), .raw (.int .i64 b)] (.raw (.int .i64 (a + b))) := by
  have := opf_add (P := P) (F := F) (k := .i64) (a := a) (b := b) ho
  rwa [IntWalk.i64_in _ ⟨by omega, by omega⟩] at this
theorem opf_sub_in (ho : o.op = .binOp .sub t x y t') (h1 : -9223372036854775808 ≤ a - b) (h2 : a - b ≤ 9223372036854775807) : OpF P F o [.raw (.int .i64 a), .raw (.int .i64 b)] (.raw (.int .i64 (a - b))) := by
  have := opf_sub (P := P) (F := F) (k := .i64) (a := a) (b := b) ho
  rwa [IntWalk.i64_in _ ⟨by omega, by omega⟩] at this
theorem opf_mul_in (ho : o.op = .binOp .mul t x y t') (h1 : -9223372036854775808 ≤ a * b) (h2 : a * b ≤ 9223372036854775807) : OpF P F o [.raw (.int .i64 a), .raw (.int .i64 b)] (.raw (.int .i64 (a * b))) := by
  have := opf_mul (P := P) (F := F) (k := .i64) (a := a) (b := b) ho
  rwa [IntWalk.i64_in _ ⟨by omega, by omega⟩] at this
theorem opf_quo (ho : o.op = .binOp .quo t x y t') (hb : b ≠ 0) : OpF P F o [.raw (.int k a), .raw (.int k b)] (.raw (.int k (k.wrap (a.tdiv b)))) :=
  opF2r (x := x) (y := y) (by rw [ho]; rfl) fun w ρ h1 h2 => by simp [execOp, ho, h1, h2, eqGuard_quo, binOp, Op.intDiv, hb]
theorem opf_rem (ho : o.op = .binOp .rem t x y t') (hb : b ≠ 0) : OpF P F o [.raw (.int k a), .raw (.int k b)] (.raw (.int k (a.tmod b))) :=
  opF2r (x := x) (y := y) (by rw [ho]; rfl) fun w ρ h1 h2 => by simp [execOp, ho, h1, h2, eqGuard_rem, binOp, Op.intDiv, hb]
theorem opf_lss (ho : o.op = .binOp .lss t x y t') : OpF P F o [.raw (.int k a), .raw (.int k b)] (.raw (.bool (decide (a < b)))) :=
  opF2r (x := x) (y := y) (by rw [ho]; rfl) fun w ρ h1 h2 => by simp [execOp, ho, h1, h2, eqGuard_lss, binOp, Op.intCmp]
theorem opf_leq (ho : o.op = .binOp .leq t x y t') : OpF P F o [.raw (.int k a), .raw (.int k b)] (.raw (.bool (decide (a ≤ b)))) :=
  opF2r (x := x) (y := y) (by rw [ho]; rfl) fun w ρ h1 h2 => by simp [execOp, ho, h1, h2, eqGuard_leq, binOp, Op.intCmp]
theorem opf_gtr (ho : o.op = .binOp .gtr t x y t') : OpF P F o [.raw (.int k a), .raw (.int k b)] (.raw (.bool (decide (b < a)))) :=
  opF2r (x := x) (y := y) (by rw [ho]; rfl) fun w ρ h1 h2 => by simp [execOp, ho, h1, h2, eqGuard_gtr, binOp, Op.intCmp]
theorem opf_geq (ho : o.op = .binOp .geq t x y t') : OpF P F o [.raw (.int k a), .raw (.int k b)] (.raw (.bool (decide (b ≤ a)))) :=
  opF2r (x := x) (y := y) (by rw [ho]; rfl) fun w ρ h1 h2 => by simp [execOp, ho, h1, h2, eqGuard_geq, binOp, Op.intCmp]
theorem opf_eql (ho : o.op = .binOp .eql t x y t') : OpF P F o [.raw (.int k a), .raw (.int k b)] (.raw (.bool (decide (a = b)))) :=
  opF2r (x := x) (y := y) (by rw [ho]; rfl) fun w ρ h1 h2 => by
    simp [execOp, ho, h1, h2, eqGuard_at_int, binOp, Op.intCmp]
    exact beqI a b
theorem opf_neq (ho : o.op = .binOp .neq t x y t') : OpF P F o [.raw (.int k a), .raw (.int k b)] (.raw (.bool (decide (a ≠ b)))) :=
  opF2r (x := x) (y := y) (by rw [ho]; rfl) fun w ρ h1 h2 => by
    simp [execOp, ho, h1, h2, eqGuard_at_int, binOp, Op.intCmp]
    rw [bne, beqI]
theorem opf_eql_s {s s' : ByteArray} (ho : o.op = .binOp .eql t x y t') : OpF P F o [.raw (.string s), .raw (.string s')] (.raw (.bool (decide (s = s')))) :=
  opF2r (x := x) (y := y) (by rw [ho]; rfl) fun w ρ h1 h2 => by
    simp [execOp, ho, h1, h2, eqGuard_at_string, binOp, Op.stringOp]
    by_cases h : s = s'
    · simp [h]
    · simp [h, sbeq_f h]
theorem opf_neq_s {s s' : ByteArray} (ho : o.op = .binOp .neq t x y t') : OpF P F o [.raw (.string s), .raw (.string s')] (.raw (.bool (decide (s ≠ s')))) :=
  opF2r (x := x) (y := y) (by rw [ho]; rfl) fun w ρ h1 h2 => by
    simp [execOp, ho, h1, h2, eqGuard_at_string, binOp, Op.stringOp]
    by_cases h : s = s'
    · simp [h]
    · simp [h, sbeq_f h, bne]
theorem opf_eql_b {c c' : Bool} (ho : o.op = .binOp .eql t x y t') (ht : P.underlying t = some .bool) : OpF P F o [.raw (.bool c), .raw (.bool c')] (.raw (.bool (c == c'))) :=
  opF2r (x := x) (y := y) (by rw [ho]; rfl) fun w ρ h1 h2 => by simp [execOp, ho, h1, h2, eqGuard_at_bool, run_eql_bool w t c c' ht]
theorem opf_neq_b {c c' : Bool} (ho : o.op = .binOp .neq t x y t') (ht : P.underlying t = some .bool) : OpF P F o [.raw (.bool c), .raw (.bool c')] (.raw (.bool (!(c == c')))) :=
  opF2r (x := x) (y := y) (by rw [ho]; rfl) fun w ρ h1 h2 => by simp [execOp, ho, h1, h2, eqGuard_at_bool, run_neq_bool w t c c' ht]
theorem opf_eql_p {p : Option Addr} (ho : o.op = .binOp .eql t x y t') (ht : P.underlying t = some (.pointer (P.pointee t))) : OpF P F o [.raw (.pointer p), .raw (.pointer none)] (.raw (.bool p.isNone)) :=
  opF2r (x := x) (y := y) (by rw [ho]; rfl) fun w ρ h1 h2 => by simp [execOp, ho, h1, h2, eqGuard_at_pointer, run_eql_pointer_nil w t p ht]
theorem opf_neq_p {p : Option Addr} (ho : o.op = .binOp .neq t x y t') (ht : P.underlying t = some (.pointer (P.pointee t))) : OpF P F o [.raw (.pointer p), .raw (.pointer none)] (.raw (.bool (!p.isNone))) :=
  opF2r (x := x) (y := y) (by rw [ho]; rfl) fun w ρ h1 h2 => by simp [execOp, ho, h1, h2, eqGuard_at_pointer, run_neq_pointer_nil w t p ht]
theorem opf_add_s {s s' : ByteArray} (ho : o.op = .binOp .add t x y t') (hs : s.size + s'.size ≤ 9223372036854775807) : OpF P F o [.raw (.string s), .raw (.string s')] (.raw (.string (s ++ s'))) :=
  opF2r (x := x) (y := y) (by rw [ho]; rfl) fun w ρ h1 h2 => by
    simp [execOp, ho, h1, h2, eqGuard_add, binOp, Op.stringOp]
    omega
end bin

theorem opf_not {t : TypeId} {x : Operand} {c : Bool} (ho : o.op = .unOp .not t x) : OpF P F o [.raw (.bool c)] (.raw (.bool (!c))) :=
  opF1r (x := x) (by rw [ho]; rfl) fun w ρ h1 => by simp [execOp, ho, h1, unary_not]
theorem opf_conv_int {s t : TypeId} {x : Operand} {k : IntKind} {n : Int} (ho : o.op = .convert s t x) (hs : (P.underlying s).isSome = true) (hd : P.underlying t = some (.int (P.intKind t))) : OpF P F o [.raw (.int k n)] (.raw (.int (P.intKind t) ((P.intKind t).wrap n))) :=
  opF1r (x := x) (by rw [ho]; rfl) fun w ρ h1 => by simp [execOp, ho, h1, run_convert_int w s t k n hs hd]

/-! len, cap, min, max -/
theorem opf_len_sl {t : TypeId} {x : Operand} {k : Nat} {xs : List (List AV)} (ho : o.op = .call { callee := .builtin .len, args := #[x], argTypes := #[t] }) (ht : P.underlying t = some (.slice (P.elem t))) : OpF P F o [.sl k xs] (.raw (.int .i64 xs.length)) :=
  opF1 (x := x) (by rw [ho]; rfl) fun L w ρ _ h => by
    generalize hv : ρ x = v at h
    cases h
    rename_i A c us kp hk hc hm hn hs hb hl hcell hone hr
    exact ⟨_, by simp [execOp, ho, hv, resolve, invoke, builtin, run_len_slice w t _ _ _ _ ht, goInt], .raw _⟩
theorem opf_len_s {t : TypeId} {x : Operand} {s : ByteArray} (ho : o.op = .call { callee := .builtin .len, args := #[x], argTypes := #[t] }) (ht : P.underlying t = some .string) : OpF P F o [.raw (.string s)] (.raw (.int .i64 s.size)) :=
  opF1r (x := x) (by rw [ho]; rfl) fun w ρ h => by simp [execOp, ho, h, resolve, invoke, builtin, run_len_string w t _ _ ht, goInt]
theorem opf_len_r {t : TypeId} {x : Operand} {A : Option Addr} {n c : Nat} (ho : o.op = .call { callee := .builtin .len, args := #[x], argTypes := #[t] }) (ht : P.underlying t = some (.slice (P.elem t))) : OpF P F o [.raw (.slice A n c)] (.raw (.int .i64 n)) :=
  opF1r (x := x) (by rw [ho]; rfl) fun w ρ h => by simp [execOp, ho, h, resolve, invoke, builtin, run_len_slice w t _ _ _ _ ht, goInt]
theorem opf_cap_r {t : TypeId} {x : Operand} {A : Option Addr} {n c : Nat} (ho : o.op = .call { callee := .builtin .cap, args := #[x], argTypes := #[t] }) (ht : P.underlying t = some (.slice (P.elem t))) : OpF P F o [.raw (.slice A n c)] (.raw (.int .i64 c)) :=
  opF1r (x := x) (by rw [ho]; rfl) fun w ρ h => by simp [execOp, ho, h, resolve, invoke, builtin, run_cap_slice w t _ _ _ _ ht, goInt]
theorem opf_min {ts : Array TypeId} {x y : Operand} {k : IntKind} {a b : Int} (ho : o.op = .call { callee := .builtin .min, args := #[x, y], argTypes := ts }) : OpF P F o [.raw (.int k a), .raw (.int k b)] (.raw (.int k (min a b))) :=
  opF2r (x := x) (y := y) (by rw [ho]; rfl) fun w ρ h1 h2 => by
    simp [execOp, ho, h1, h2, resolve, invoke, builtin, run_min_int2]
    rw [Int.min_def]; split <;> split <;> omega
theorem opf_max {ts : Array TypeId} {x y : Operand} {k : IntKind} {a b : Int} (ho : o.op = .call { callee := .builtin .max, args := #[x, y], argTypes := ts }) : OpF P F o [.raw (.int k a), .raw (.int k b)] (.raw (.int k (max a b))) :=
  opF2r (x := x) (y := y) (by rw [ho]; rfl) fun w ρ h1 h2 => by
    simp [execOp, ho, h1, h2, resolve, invoke, builtin, run_max_int2]
    rw [Int.max_def]; split <;> split <;> omega
theorem opf_extract {x : Operand} {i : Nat} {ds : List AV} {d : AV} (ho : o.op = .extract x i) (hd : ds[i]? = some d) : OpF P F o [.tup ds] d :=
  opF1 (x := x) (by rw [ho]; rfl) fun L w ρ _ h => by
    generalize hv : ρ x = v at h
    cases h with
    | tup us hl hr =>
      have hi := (List.getElem?_eq_some_iff.1 hd).1
      have hu : us[i]? = some (us[i]'(by omega)) := List.getElem?_eq_getElem _
      exact ⟨_, by simp [execOp, ho, hv, Instr.extract, hu], hr i d _ hd hu⟩
theorem opf_nilCheck_p {x : Operand} {a : Addr} (ho : o.op = .nilCheck x) : OpF P F o [.raw (.pointer (some a))] (.raw (.pointer (some a))) :=
  opF1r (x := x) (by rw [ho]; rfl) fun w ρ h => by simp [execOp, ho, h]
theorem opf_nilCheck_e {x : Operand} {cs : List AV} {n : Nat} (ho : o.op = .nilCheck x) : OpF P F o [.elt cs n] (.elt cs n) :=
  opF1 (x := x) (by rw [ho]; rfl) fun L w ρ _ h => by
    refine ⟨ρ x, ?_, h⟩
    generalize hv : ρ x = v at h
    cases h
    simp [execOp, ho, hv]

/-! slices -/
theorem Sl.dropTake {α : Type} {R : Rp α} {L : List Nat} {w : World} {A : Option Addr} {n c : Nat} {xs : List α} (h : Sl R L w (.slice A n c) xs) {lo hi : Nat} (h1 : lo ≤ hi) (h2 : hi ≤ xs.length) :
    Sl R L w (.slice (if c = lo then A else A.map (·.add (lo * R.k))) (hi - lo) (c - lo)) ((xs.take hi).drop lo) := by
  obtain ⟨A', c', hv, hc, hmx, hn, ha⟩ := h
  injection hv with e1 e2 e3
  subst e1 e2 e3
  have hl : ((xs.take hi).drop lo).length = hi - lo := by rw [List.length_drop, List.length_take]; omega
  refine ⟨_, c - lo, by rw [hl], by omega, by omega, fun e => ?_, fun a e => ?_⟩
  · split at e
    · omega
    · cases A with
      | none => have := hn rfl; omega
      | some a => cases e
  · split at e
    · rename_i hcl
      exact ⟨fun h0 => by omega, fun j hj => by omega⟩
    · cases A with
      | none => cases e
      | some ad =>
        injection e with e
        by_cases h00 : hi - lo = 0
        · exact ⟨fun h0 => by omega, fun j hj => by omega⟩
        have hs := (ha ad rfl).1 (by omega)
        have e2 : ad.add (lo * R.k) = ⟨ad.block, ad.off + lo * R.k, none⟩ := by
          unfold Addr.add
          split
          · rename_i h0; cases ad; simp_all
          · rfl
        have e : ad.add (lo * R.k) = a := e
        rw [e2] at e
        subst e
        refine ⟨fun _ => rfl, fun j hj => ?_⟩
        have hj' : lo + j < xs.length := by omega
        obtain ⟨g1, us, g2, g3⟩ := (ha ad rfl).2 (lo + j) hj'
        refine ⟨g1, us, ?_, fun i u hu => ?_⟩
        · have : ((xs.take hi).drop lo)[j] = xs[lo + j] := by simp
          rw [this]; exact g2
        · have := g3 i u hu
          rw [Nat.add_mul] at this
          rwa [show ad.off + lo * R.k + (j * R.k + i) = ad.off + (lo * R.k + j * R.k + i) by omega]

theorem opf_slice_lh {t e n : Nat} {x lo hi : Operand} {xs : List (List AV)} {a b : Int} {k1 k2 : IntKind} (ho : o.op = .slice t x (some lo) (some hi) none) (ht : P.underlying t = some (.slice (P.elem t))) [TSl P t e] [TSize P e n]
    (h1 : 0 ≤ a) (h2 : a ≤ b) (h3 : b ≤ xs.length) : OpF P F o [.sl n xs, .raw (.int k1 a), .raw (.int k2 b)] (.sl n ((xs.take b.toNat).drop a.toNat)) :=
  opF3 (x := x) (y := lo) (z := hi) (by rw [ho]; rfl) fun L w ρ _ r1 r2 r3 => by
    obtain ⟨kp, hs⟩ := r1.sl_to
    obtain ⟨A, c, hv, hc, hm, _⟩ := id hs
    have he : P.elem t = e := by have h := TSl.h (P := P) (t := t) (e := e); rw [ht] at h; injection h with h; injection h
    rw [hv] at hs
    refine ⟨_, ?_, Rd.of_sl (kp := kp) (hs.dropTake (lo := a.toNat) (hi := b.toNat) (by omega) (by omega))⟩
    simp only [execOp, ho, hv, r2.rawEq, r3.rawEq, Option.map_some, Option.map_none, run_sliceAt_slice w t _ _ _ _ ht, Sem.run_bind, run_slice_lh w t A _ c ht k1 k2 a b h1 h2 (by omega), he, run_size, Result.andThen_ok, sliced, Sem.run_pure]
    rfl
theorem opf_slice_h {t e n : Nat} {x hi : Operand} {xs : List (List AV)} {b : Int} {k2 : IntKind} (ho : o.op = .slice t x none (some hi) none) (ht : P.underlying t = some (.slice (P.elem t))) [TSl P t e] [TSize P e n]
    (h2 : 0 ≤ b) (h3 : b ≤ xs.length) : OpF P F o [.sl n xs, .raw (.int k2 b)] (.sl n (xs.take b.toNat)) :=
  opF2 (x := x) (y := hi) (by rw [ho]; rfl) fun L w ρ _ r1 r3 => by
    obtain ⟨kp, hs⟩ := r1.sl_to
    obtain ⟨A, c, hv, hc, hm, _⟩ := id hs
    have he : P.elem t = e := by have h := TSl.h (P := P) (t := t) (e := e); rw [ht] at h; injection h with h; injection h
    rw [hv] at hs
    have hd := hs.dropTake (lo := 0) (hi := b.toNat) (by omega) (by omega)
    rw [List.drop_zero] at hd
    refine ⟨_, ?_, Rd.of_sl (kp := kp) hd⟩
    simp only [execOp, ho, hv, r3.rawEq, Option.map_some, Option.map_none, run_sliceAt_slice w t _ _ _ _ ht, Sem.run_bind, run_slice_h w t A _ c ht k2 b h2 (by omega), he, run_size, Result.andThen_ok, sliced, Sem.run_pure]
    rfl
theorem opf_slice_l {t e n : Nat} {x lo : Operand} {xs : List (List AV)} {a : Int} {k1 : IntKind} (ho : o.op = .slice t x (some lo) none none) (ht : P.underlying t = some (.slice (P.elem t))) [TSl P t e] [TSize P e n]
    (h1 : 0 ≤ a) (h2 : a ≤ xs.length) : OpF P F o [.sl n xs, .raw (.int k1 a)] (.sl n (xs.drop a.toNat)) :=
  opF2 (x := x) (y := lo) (by rw [ho]; rfl) fun L w ρ _ r1 r2 => by
    obtain ⟨kp, hs⟩ := r1.sl_to
    obtain ⟨A, c, hv, hc, hm, _⟩ := id hs
    have he : P.elem t = e := by have h := TSl.h (P := P) (t := t) (e := e); rw [ht] at h; injection h with h; injection h
    rw [hv] at hs
    have hd := hs.dropTake (lo := a.toNat) (hi := xs.length) (by omega) (by omega)
    rw [List.take_length] at hd
    refine ⟨_, ?_, Rd.of_sl (kp := kp) hd⟩
    simp only [execOp, ho, hv, r2.rawEq, Option.map_some, Option.map_none, run_sliceAt_slice w t _ _ _ _ ht, Sem.run_bind, run_slice_l w t A _ c ht k1 a h1 h2, he, run_size, Result.andThen_ok, sliced, Sem.run_pure]
    rfl

/-! addresses -/
theorem opf_fieldAddr_p {s f off ft n : Nat} {x : Operand} {b p : Nat} (ho : o.op = .fieldAddr s x f) [TFld P s f off ft] [TSize P ft n] (hn : n ≠ 0) : OpF P F o [.raw (.pointer (some ⟨b, p, none⟩))] (.raw (.pointer (some ⟨b, p + off, none⟩))) :=
  opF1r (x := x) (by rw [ho]; rfl) fun w ρ h => by simp only [execOp, ho, h, Sem.run_bind, run_fieldAt hn, Result.andThen_ok, Addr.add_lit, Sem.run_pure]
theorem opf_fieldAddr_e {s f off ft n : Nat} {x : Operand} {cs : List AV} {m : Nat} (ho : o.op = .fieldAddr s x f) [TFld P s f off ft] [TSize P ft n] (hn : n ≠ 0) : OpF P F o [.elt cs m] (.elt cs (m + off)) :=
  opF1 (x := x) (by rw [ho]; rfl) fun L w ρ _ h => by
    generalize hv : ρ x = v at h
    cases h with
    | @elt _ _ b o2 us hl hp hb hcell hone hr =>
      refine ⟨.pointer (some ⟨b, o2 + (m + off), none⟩), ?_, .elt us hl hp hb hcell hone hr⟩
      simp only [execOp, ho, hv, Sem.run_bind, run_fieldAt hn, Result.andThen_ok, Addr.add_lit, Sem.run_pure, Nat.add_assoc]
theorem opf_indexAddr_sl {t e n : Nat} {x y : Operand} {xs : List (List AV)} {i : Int} {k : IntKind} {cs : List AV} (ho : o.op = .indexAddr t x y) (ht : P.underlying t = some (.slice (P.elem t))) [TSl P t e] [TSize P e n]
    (h1 : 0 ≤ i) (h2 : xs[i.toNat]? = some cs) : OpF P F o [.sl n xs, .raw (.int k i)] (.elt cs 0) :=
  opF2 (x := x) (y := y) (by rw [ho]; rfl) fun L w ρ _ r1 r2 => by
    have hlt : i.toNat < xs.length := (List.getElem?_eq_some_iff.1 h2).1
    have he : P.elem t = e := by have h := TSl.h (P := P) (t := t) (e := e); rw [ht] at h; injection h with h; injection h
    generalize hv : ρ x = v at r1
    cases r1 with
    | @sl _ _ A c us kp hk hc hm hn hs hb hl hcell hone hr =>
      cases A with
      | none => have := hn rfl; omega
      | some ad =>
        have hsp := hs ad rfl (by omega)
        have e2 : ad.add (i.toNat * n) = ⟨ad.block, ad.off + i.toNat * n + 0, none⟩ := by
          unfold Addr.add
          split
          · rename_i h0; cases ad; simp_all
          · rfl
        have hcs : cs.length = n := hk cs (List.mem_of_getElem? h2)
        have hlen := hl i.toNat hlt
        refine ⟨.pointer (some ⟨ad.block, ad.off + i.toNat * n + 0, none⟩), ?_, .elt (us i.toNat) (by rw [hlen, hcs]) (by omega) (hb ad rfl (by omega)) (fun j u hu => ?_) (fun u hu => hone i.toNat u hlt hu) (fun j d u hd hu => hr i.toNat cs j d u h2 hd hu)⟩
        · simp only [execOp, ho, hv, r2.rawEq, Sem.run_bind, run_indexAt_slice w t ad _ c k i ht, he, run_size, Result.andThen_ok, Sem.run_pure]
          rw [if_pos ⟨h1, by omega⟩]
          simp only [Result.andThen_ok, e2]
        · have := hcell ad rfl i.toNat j u hlt hu
          rwa [show ad.off + i.toNat * n + j = ad.off + (i.toNat * n + j) by omega]
theorem opf_indexAddr_m {β : Type} {t e n : Nat} {x y : Operand} {ys : List β} {f : β → List AV} {i : Nat} {k : IntKind} (ho : o.op = .indexAddr t x y) (ht : P.underlying t = some (.slice (P.elem t))) [TSl P t e] [TSize P e n]
    (h2 : i < ys.length) : OpF P F o [.sl n (ys.map f), .raw (.int k (i : Int))] (.elt (f ys[i]) 0) :=
  opf_indexAddr_sl ho ht (by omega) (by simp [h2])
theorem opf_index_s {t : Nat} {x y : Operand} {s : ByteArray} {i : Int} {k : IntKind} (ho : o.op = .index t x y) (ht : P.underlying t = some .string) (h1 : 0 ≤ i) (h2 : i.toNat < s.size) :
    OpF P F o [.raw (.string s), .raw (.int k i)] (.raw (.int .u8 s[i.toNat].toNat)) :=
  opF2r (x := x) (y := y) (by rw [ho]; rfl) fun w ρ r1 r2 => by
    simp only [execOp, ho, r1, r2, Sem.run_bind, Instr.index, run_underlying ht, asIntOf, Sem.run_pure, Result.andThen_ok]
    simp [h1, h2]

/-! reading -/
theorem opf_load_e {t n : Nat} {x : Operand} {cs : List AV} {m : Nat} {d : AV} (ho : o.op = .load t x) [TAgg P t false] (hd : cs[m]? = some d) : OpF P F o [.elt cs m] d :=
  opF1 (x := x) (by rw [ho]; rfl) fun L w ρ _ h => by
    generalize hv : ρ x = v at h
    cases h with
    | @elt _ _ b o2 us hl hp hb hcell hone hr =>
      have hi := (List.getElem?_eq_some_iff.1 hd).1
      have hu : us[m]? = some (us[m]'(by omega)) := List.getElem?_eq_getElem _
      refine ⟨_, ?_, hr m d _ hd hu⟩
      simp [execOp, ho, hv, Instr.loadAt, Instr.sureAddr, loadVar, run_agg, run_load, hcell m _ hu]
theorem opf_load_ea {t n : Nat} {x : Operand} {cs : List AV} {m : Nat} (ho : o.op = .load t x) [TAgg P t true] [TSize P t n] (hd : m + n ≤ cs.length) : OpF P F o [.elt cs m] (.agg ((cs.drop m).take n)) :=
  opF1 (x := x) (by rw [ho]; rfl) fun L w ρ _ h => by
    generalize hv : ρ x = v at h
    cases h with
    | @elt _ _ b o2 us hl hp hb hcell hone hr =>
      have hlen : ((us.drop m).take n).length = n := by rw [List.length_take, List.length_drop]; omega
      have hcs := ((Cs.of hl hone hr).drop m).take n
      refine ⟨.agg ((us.drop m).take n).toArray, ?_, .agg _ hcs.1 hcs.one hcs.rd⟩
      have := run_loadCells_list (P := P) w (a := ⟨b, o2 + m, none⟩) ((us.drop m).take n) (fun j v hj => by
        rw [List.getElem?_take] at hj
        split at hj
        · rw [List.getElem?_drop] at hj
          rw [Addr.add_lit, Nat.add_assoc]
          exact hcell _ _ hj
        · cases hj)
      rw [hlen] at this
      simp [execOp, ho, hv, Instr.loadAt, Instr.sureAddr, loadVar, run_agg, run_size, this]
theorem opf_field {s f off ft n : Nat} {x : Operand} {cs : List AV} {d : AV} (ho : o.op = .field s x f) [TFld P s f off ft] [TSize P ft n] [TAgg P ft false] (hd : cs[off]? = some d) : OpF P F o [.agg cs] d :=
  opF1 (x := x) (by rw [ho]; rfl) fun L w ρ _ h => by
    generalize hv : ρ x = v at h
    cases h with
    | agg us hl hone hr =>
      have hi := (List.getElem?_eq_some_iff.1 hd).1
      have hu : us[off]? = some (us[off]'(by omega)) := List.getElem?_eq_getElem _
      refine ⟨_, ?_, hr off d _ hd hu⟩
      have h := TFld.h (P := P) (s := s) (f := f) (off := off) (ft := ft)
      unfold fldOf at h
      split at h
      · rename_i fs hus
        obtain ⟨fl, hx, he⟩ := Option.map_eq_some_iff.1 h
        simp only [Prod.mk.injEq] at he
        obtain ⟨rfl, rfl⟩ := he
        simp only [execOp, ho, hv, Sem.run_bind, Instr.field, run_underlying hus, Result.andThen_ok, hx, asAgg, Sem.run_pure, part, run_agg]
        simp [hu]
      · cases h
theorem opf_field_a {s f off ft n : Nat} {x : Operand} {cs : List AV} (ho : o.op = .field s x f) [TFld P s f off ft] [TSize P ft n] [TAgg P ft true] : OpF P F o [.agg cs] (.agg ((cs.drop off).take n)) :=
  opF1 (x := x) (by rw [ho]; rfl) fun L w ρ _ h => by
    generalize hv : ρ x = v at h
    cases h with
    | agg us hl hone hr =>
      have hcs := ((Cs.of hl hone hr).drop off).take n
      refine ⟨.agg ((us.drop off).take n).toArray, ?_, .agg _ hcs.1 hcs.one hcs.rd⟩
      have h := TFld.h (P := P) (s := s) (f := f) (off := off) (ft := ft)
      unfold fldOf at h
      split at h
      · rename_i fs hus
        obtain ⟨fl, hx, he⟩ := Option.map_eq_some_iff.1 h
        simp only [Prod.mk.injEq] at he
        obtain ⟨rfl, rfl⟩ := he
        simp only [execOp, ho, hv, Sem.run_bind, Instr.field, run_underlying hus, Result.andThen_ok, hx, asAgg, Sem.run_pure, part, run_agg, if_true, run_size]
        congr 3
        apply Array.ext'
        simp [Array.toList_extract, List.extract_eq_take_drop]
      · cases h
theorem opf_makeFunc0 {fn : Fn} (ho : o.op = .makeFunc fn #[] #[]) : OpF P F o [] (.raw (.func fn #[] #[])) := fun L w ρ hF hr => ⟨_, by simp [execOp, ho, Instr.makeFunc], .raw _⟩
theorem opf_makeFunc1 {fn : Fn} {x : Operand} {d : AV} (ho : o.op = .makeFunc fn #[] #[x]) : OpF P F o [d] (.fn fn [d]) := opF1 (x := x) (by rw [ho]; rfl) fun L w ρ _ h => ⟨_, by simp [execOp, ho, Instr.makeFunc], .fn [ρ x] rfl (fun i e u h1 h2 => by
  cases i with
  | zero => simp at h1 h2; subst h1; subst h2; exact h
  | succ i => simp at h1)⟩
end opf
end Go.Proofs.Ytglccdcdnbannaa
