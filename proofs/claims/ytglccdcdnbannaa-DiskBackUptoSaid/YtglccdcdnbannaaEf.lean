/- Operations over data without memory: those that make memory, write, append, call. No statement of the seat. -/
import Derived.Test.YtglccdcdnbannaaOp
import Derived.Laws.Tables
import Derived.Laws.CopyRow
import Derived.Laws.MakeOwn
import Derived.Laws.OwnMore
set_option linter.unusedVariables false
set_option linter.unusedSimpArgs false
namespace Go.Proofs.Ytglccdcdnbannaa
open Go.RowKit

/-- The cells of a value. -/
def cellsA : AV → Option (List AV)
  | .agg cs => some cs
  | .raw (.agg us) => if us.toList.all (·.oneCell') = true then some (us.toList.map .raw) else none
  | d => if oneA d = true then some [d] else none
theorem one_cells {v : Value} (h : v.oneCell' = true) : v.cells = #[v] := by cases v <;> first | rfl | cases h
theorem Cs.single {L : List Nat} {w : World} {d : AV} {v : Value} (h : Rd L w d v) (h1 : v.oneCell' = true) : Cs L w [d] [v] :=
  ⟨rfl, fun i e u h2 h3 => by
    cases i with
    | zero => simp at h2 h3; subst h2; subst h3; exact ⟨h1, h⟩
    | succ i => simp at h2⟩
theorem cellsA_spec {L : List Nat} {w : World} {d : AV} {cs : List AV} {v : Value} (h : cellsA d = some cs) (hr : Rd L w d v) : ∃ us, v.cells = us.toArray ∧ Cs L w cs us := by
  have sc : (if oneA d = true then some [d] else none) = some cs → ∃ us, v.cells = us.toArray ∧ Cs L w cs us := fun h => by
    split at h
    · rename_i h1
      injection h with h
      subst h
      exact ⟨[v], by rw [one_cells (hr.one h1)], Cs.single hr (hr.one h1)⟩
    · cases h
  cases d with
  | agg ds =>
    injection h with h
    subst h
    cases hr with
    | agg us hl hone hr => exact ⟨us, rfl, Cs.of hl hone hr⟩
  | raw u =>
    have := hr.rawEq
    subst this
    cases v with
    | agg us =>
      simp only [cellsA] at h
      split at h
      · rename_i h1
        injection h with h
        subst h
        refine ⟨us.toList, by simp [Value.cells], Cs.of (by simp) (fun u hu => List.all_eq_true.1 h1 u hu) (fun i d u h2 h3 => ?_)⟩
        rw [List.getElem?_map, h3] at h2
        injection h2 with h2
        subst h2
        exact .raw _
      · cases h
    | _ => exact sc h
  | _ => exact sc h

theorem HpOk.box1 {L : List Nat} {w : World} {b : Nat} {t : TypeId} {cs : List AV} {us : List Value} (hb : w.heap[b]? = some (.cells us.toArray t (0, 0))) (hcs : Cs (b :: L) w cs us) (hL : b ∉ L) : HpOk L w [.box b t cs] :=
  ⟨fun e he => by
      obtain rfl := List.mem_singleton.1 he
      exact ⟨us, hb, hcs⟩, by simp [hpB, Ent.bl], fun b' hb' => by simp [hpB, Ent.bl] at hb'; subst hb'; exact hL⟩
theorem HpOk.own1 {L : List Nat} {w : World} {v : Value} {t : TypeId} {k : Nat} {kp : 0 < k} {B : Nat} {xs : List (List AV)} (h : Ow (cellsR k kp) L B w t v xs) : HpOk L w [.own v t k xs] := by
  obtain ⟨cs, h1, h2, h3⟩ := h
  refine ⟨fun e he => ?_, ?_, fun b hb => ?_⟩
  · obtain rfl := List.mem_singleton.1 he
    refine ⟨kp, cs, ⟨h1.1, ?_⟩, by simpa [hpB, Ent.bl] using h2⟩
    rcases h1.2 with hn | ⟨g, cap, cur, hv, hb, r⟩
    · exact .inl hn
    · exact .inr ⟨g, cap, cur, hv, Nat.zero_le _, r⟩
  · simp only [hpB, List.flatMap_cons, List.flatMap_nil, List.append_nil, Ent.bl, ob]
    cases v.ownBlock <;> simp
  · simp only [hpB, List.flatMap_cons, List.flatMap_nil, List.append_nil, Ent.bl] at hb
    exact h3 b (ob_mem.1 hb)
theorem HpOk.unown {L : List Nat} {w : World} {v : Value} {t : TypeId} {k : Nat} {xs : List (List AV)} (h : HpOk L w [.own v t k xs]) : ∃ kp, Ow (cellsR k kp) L 0 w t v xs := by
  obtain ⟨kp, us, h1, h2⟩ := h.ent (.own v t k xs) (by simp)
  exact ⟨kp, us, h1, by simpa [hpB, Ent.bl] using h2, fun b hb => h.dj b (by simp [hpB, Ent.bl, ob_mem.2 hb])⟩
theorem HpOk.unbox {L : List Nat} {w : World} {b : Nat} {t : TypeId} {cs : List AV} (h : HpOk L w [.box b t cs]) : ∃ us, w.heap[b]? = some (.cells us.toArray t (0, 0)) ∧ Cs (b :: L) w cs us ∧ b ∉ L := by
  obtain ⟨us, h1, h2⟩ := h.ent (.box b t cs) (by simp)
  exact ⟨us, h1, by simpa [hpB, Ent.bl] using h2, h.dj b (by simp [hpB, Ent.bl])⟩
/-- Of many, one. -/
theorem HpOk.mem_box {L : List Nat} {w : World} {hp : List Ent} {b : Nat} {t : TypeId} {cs : List AV} (h : HpOk L w hp) (hm : Ent.box b t cs ∈ hp) : ∃ us, w.heap[b]? = some (.cells us.toArray t (0, 0)) ∧ Cs (hpB hp ++ L) w cs us := h.ent _ hm
theorem HpOk.mem_own {L : List Nat} {w : World} {hp : List Ent} {v : Value} {t : TypeId} {k : Nat} {xs : List (List AV)} (h : HpOk L w hp) (hm : Ent.own v t k xs ∈ hp) : ∃ kp : 0 < k, ∃ us, w.ownsRow 0 t k v xs.length us ∧ Els (cellsR k kp) (hpB hp ++ L) w xs us := h.ent _ hm

class TZero (P : Program) (t : TypeId) (zs : outParam (List Value)) : Prop where
  h : (P.info? t).map (fun i => i.zero.map (fun z => (z.cells.toList, z.cells.toList.all (·.oneCell')))) = some (some (zs, true))
/-- zero, size, bytes of an element. -/
class TEl (P : Program) (t : TypeId) (z : outParam Value) (size bytes : outParam Nat) : Prop where
  h : (P.info? t).map (fun i => (i.zero, i.size, i.bytes)) = some (some z, size, bytes)
  hz : z.cells.size = size ∧ 0 < size ∧ 0 < bytes ∧ z.cells.toList.all (·.oneCell') = true

section
variable {P : Program} {o : Oper}
theorem opS0 {hi : List Ent} {K : AV → List Ent → Prop}
    (h : ∀ (L : List Nat) (w : World) (ρ : Operand → Value), (∀ b ∈ L, b < w.heap.size) → HpOk L w hi → Does P ρ o w (Aft L hi w K)) : OpS P o [] hi K := fun L w ρ hL hok hr => h L w ρ hL hok
theorem opS1 {x : Operand} {d : AV} {hi : List Ent} {K : AV → List Ent → Prop} (hop : o.op.operands.toList = [x])
    (h : ∀ (L : List Nat) (w : World) (ρ : Operand → Value), (∀ b ∈ L, b < w.heap.size) → HpOk L w hi → Rd (hpB hi ++ L) w d (ρ x) → Does P ρ o w (Aft L hi w K)) : OpS P o [d] hi K := fun L w ρ hL hok hr => by
  rw [hop] at hr
  obtain ⟨v, us, he, h1, _⟩ := hr.c1
  simp only [List.map_cons, List.cons.injEq] at he
  rw [← he.1] at h1
  exact h L w ρ hL hok h1
theorem opS2 {x y : Operand} {d e : AV} {hi : List Ent} {K : AV → List Ent → Prop} (hop : o.op.operands.toList = [x, y])
    (h : ∀ (L : List Nat) (w : World) (ρ : Operand → Value), (∀ b ∈ L, b < w.heap.size) → HpOk L w hi → Rd (hpB hi ++ L) w d (ρ x) → Rd (hpB hi ++ L) w e (ρ y) → Does P ρ o w (Aft L hi w K)) : OpS P o [d, e] hi K := fun L w ρ hL hok hr => by
  rw [hop] at hr
  obtain ⟨v, us, he, h1, h2⟩ := hr.c1
  obtain ⟨v2, us2, he2, h3, _⟩ := h2.c1
  subst he2
  simp only [List.map_cons, List.cons.injEq] at he
  rw [← he.1] at h1
  rw [← he.2.1] at h3
  exact h L w ρ hL hok h1 h3
theorem does_value {ρ : Operand → Value} {w w' : World} {v : Value} {post : Value → World → Prop} (hr : (execOp ρ o).run P w = .ok (.value v) w') (h : post v w') : Does P ρ o w post := by
  unfold Does; rw [hr]; exact h
theorem does_skip {ρ : Operand → Value} {w w' : World} {post : Value → World → Prop} (hr : (execOp ρ o).run P w = .ok .skip w') (h : post undef w') : Does P ρ o w post := by
  unfold Does; rw [hr]; exact h

def IsBox (e : TypeId) (cs : List AV) (r : AV) (ho : List Ent) : Prop := ∃ b, r = .raw (.pointer (some ⟨b, 0, none⟩)) ∧ ho = [.box b e cs]
theorem aft_box {L : List Nat} {w : World} {e : TypeId} {cs : List AV} {us : List Value} (hL : ∀ b ∈ L, b < w.heap.size) (hcs : Cs L w cs us) :
    Aft L [] w (IsBox e cs) (.pointer (some ⟨w.heap.size, 0, none⟩)) (w.alloc (.cells us.toArray e)) := by
  have hnl : w.heap.size ∉ L := fun h => Nat.lt_irrefl _ (hL _ h)
  refine ⟨_, _, ⟨w.heap.size, rfl, rfl⟩, .raw _, HpOk.box1 (blk_new w _) (hcs.mv fun b hb hx => ⟨Below.heap_alloc _ _ _ hb, fun h => ?_⟩) hnl, (Fr.refl _ _).alloc _, fun b hb => ?_⟩
  · rcases List.mem_cons.1 h with h | h
    · omega
    · exact hx h
  · simp [hpB, Ent.bl] at hb
    exact .inr (by omega)
theorem ops_box {x : Operand} {e : TypeId} {d : AV} {cs : List AV} (ho : o.op = .box e x) (hc : cellsA d = some cs) : OpS P o [d] [] (IsBox e cs) :=
  opS1 (x := x) (by rw [ho]; rfl) fun L w ρ hL hok hr => by
    obtain ⟨us, hu, hcs⟩ := cellsA_spec hc hr
    exact does_value (by simp [execOp, ho, Instr.box, newVar, newRow, hu]; rfl) (aft_box hL (by simpa [hpB] using hcs))
theorem Cs.raws {L : List Nat} {w : World} {zs : List Value} (h : zs.all (·.oneCell') = true) : Cs L w (zs.map .raw) zs := Cs.of (by simp) (fun u hu => List.all_eq_true.1 h u hu) (fun i d u h2 h3 => by
  rw [List.getElem?_map, h3] at h2
  injection h2 with h2
  subst h2
  exact .raw _)
theorem ops_alloc {e : TypeId} {zs : List Value} (ho : o.op = .alloc e) [hz : TZero P e zs] : OpS P o [] [] (IsBox e (zs.map .raw)) :=
  opS0 fun L w ρ hL hok => by
    obtain ⟨i, hi, h⟩ := Option.map_eq_some_iff.1 hz.h
    obtain ⟨z, hz1, h2⟩ := Option.map_eq_some_iff.1 h
    simp only [Prod.mk.injEq] at h2
    obtain ⟨rfl, h3⟩ := h2
    have := aft_box (e := e) hL (Cs.raws (L := L) (w := w) h3)
    rw [Array.toArray_toList] at this
    exact does_value (by simp [execOp, ho, Instr.alloc, zeroValue, typeInfo, hi, hz1, newVar, newRow]) this

/-! literals -/
/-- Elements of parts: numbers 0, 1, 2 and so on, of k cells each. -/
def litA (k : Nat) : Nat → List (Nat × Operand) → List AV → Option (List (List AV))
  | _, [], [] => some []
  | n, (i, _) :: ps, d :: ds => match cellsA d, litA k (n + 1) ps ds with
    | some cs, some r => if i = n ∧ cs.length = k then some (cs :: r) else none
    | _, _ => none
  | _, _, _ => none
theorem litA_len {k : Nat} : ∀ {n : Nat} {ps : List (Nat × Operand)} {ds : List AV} {xs : List (List AV)}, litA k n ps ds = some xs → xs.length = ps.length ∧ ds.length = ps.length
  | _, [], [], _, h => by injection h with h; subst h; exact ⟨rfl, rfl⟩
  | n, (i, x) :: ps, d :: ds, xs, h => by
    simp only [litA] at h
    split at h
    · rename_i cs r h1 h2
      split at h
      · injection h with h
        subst h
        have := litA_len h2
        simp [this]
      · cases h
    · cases h
  | _, [], _ :: _, _, h => by cases h
  | _, _ :: _, [], _, h => by cases h
theorem foldl_place (off : Nat) : ∀ (l : List Value) (i : Nat) (cs : Array Value), off + i + l.length ≤ cs.size →
    ((l.zipIdx i).foldl (fun cs (p : Value × Nat) => cs.setIfInBounds (off + p.2) p.1) cs).toList = cs.toList.take (off + i) ++ l ++ cs.toList.drop (off + i + l.length) := by
  intro l
  induction l with
  | nil => intro i cs _; simp
  | cons v l ih =>
    intro i cs hl
    simp only [List.length_cons] at hl
    rw [List.zipIdx_cons, List.foldl_cons, ih _ _ (by simp; omega)]
    simp only [Array.toList_setIfInBounds]
    have := list_seg_step cs.toList (off + i) v l (by simp; omega)
    simpa [Nat.add_assoc] using this
/-- What fill does where all are told: parts 0 .. of k cells each. -/
theorem fill_lit {k : Nat} {L : List Nat} {w : World} {ρ : Operand → Value} {kp : 0 < k} : ∀ {ps : List (Nat × Operand)} {ds : List AV} {xs : List (List AV)} {n : Nat}, litA k n ps ds = some xs → RdL L w ds (ps.map fun p => ρ p.2) →
    ∀ (cells : Array Value), cells.size = (n + ps.length) * k → ∃ us, Instr.fill (fun i => some (i * k, k)) cells (ps.map fun p => (p.1, ρ p.2)) = some (cells.toList.take (n * k) ++ us).toArray ∧ Els (cellsR k kp) L w xs us
  | [], [], xs, n, h, hr, cells, hc => by
    injection h with h
    subst h
    refine ⟨[], ?_, rfl⟩
    have : cells.toList.take (n * k) = cells.toList := List.take_of_length_le (by simp [hc])
    simp [Instr.fill, this]
  | (i, x) :: ps, d :: ds, xs, n, h, hr, cells, hc => by
    simp only [litA] at h
    split at h
    · rename_i cs r h1 h2
      split at h
      · rename_i h3
        obtain ⟨rfl, hk⟩ := h3
        injection h with h
        subst h
        obtain ⟨v, vs, he, hv, hvs⟩ := hr.c1
        simp only [List.map_cons, List.cons.injEq] at he
        obtain ⟨rfl, rfl⟩ := he
        obtain ⟨us, hu, hcs⟩ := cellsA_spec h1 hv
        have hul : us.length = k := by rw [hcs.1, hk]
        have hsz : cells.size = i * k + k + ps.length * k := by rw [hc]; simp only [List.length_cons, Nat.add_mul]; omega
        have hfold := foldl_place (i * k) us 0 cells (by simp; omega)
        generalize hc2 : (us.zipIdx.foldl (fun cs (p : Value × Nat) => cs.setIfInBounds (i * k + p.2) p.1) cells) = c2 at *
        simp only [Nat.add_zero] at hfold
        have hsz2 : c2.size = (i + 1 + ps.length) * k := by
          have := congrArg List.length hfold
          simp only [Array.length_toList, List.length_append, List.length_take, List.length_drop] at this
          rw [this]; simp only [Nat.add_mul]; omega
        obtain ⟨us2, hf, he2⟩ := fill_lit (kp := kp) (ρ := ρ) h2 hvs c2 hsz2
        refine ⟨us ++ us2, ?_, us, us2, rfl, ⟨hk, hcs⟩, he2⟩
        simp only [List.map_cons, Instr.fill, hu]
        rw [if_neg (by simp; omega)]
        have e1 : (us.toArray.zipIdx.foldl (fun cs (x : Value × Nat) => cs.setIfInBounds (i * k + x.2) x.1) cells) = c2 := by
          rw [← hc2, ← Array.foldl_toList]
          simp
        have e2 : Array.foldl (fun (cs : Array Value) (x : Value × Nat) => match x with | (c, j) => cs.setIfInBounds (i * k + j) c) cells us.toArray.zipIdx = c2 := e1
        rw [e2, hf]
        congr 2
        rw [hfold, List.take_append_of_le_length (by simp; rw [Nat.add_mul]; omega), List.take_of_length_le (by simp; rw [Nat.add_mul]; omega), List.append_assoc]
      · cases h
    · cases h
  | [], _ :: _, _, _, h, _, _, _ => by cases h
  | _ :: _, [], _, _, h, _, _, _ => by cases h

def IsOwn (e : TypeId) (k : Nat) (n : Nat) (xs : List (List AV)) (r : AV) (ho : List Ent) : Prop := ∃ A c, r = .raw (.slice A n c) ∧ ho = [.own (.slice A n c) e k xs]
def IsSl (k : Nat) (xs : List (List AV)) (r : AV) (ho : List Ent) : Prop := r = .sl k xs ∧ ho = []

theorem aft_own {L : List Nat} {w w' : World} {hi : List Ent} {e : TypeId} {k n : Nat} {kp : 0 < k} {B : Nat} {A : Option Addr} {c : Nat} {xs : List (List AV)} (hO : Ow (cellsR k kp) L B w' e (.slice A n c) xs) (hf : Fr (hpB hi) w w') (hn : ∀ b, Value.ownBlock (.slice A n c) = some b → b ∈ hpB hi ∨ w.heap.size ≤ b) :
    Aft L hi w (IsOwn e k n xs) (.slice A n c) w' :=
  ⟨_, _, ⟨A, c, rfl, rfl⟩, .raw _, HpOk.own1 hO, hf, fun b hb => hn b (by simpa [hpB, Ent.bl, ob_mem] using hb)⟩
/-- What was the call's own is handed on for reading. -/
theorem aft_frz {L : List Nat} {w : World} {hi : List Ent} {e : TypeId} {k n : Nat} {xs : List (List AV)} {v : Value} {w' : World} (h : Aft L hi w (IsOwn e k n xs) v w') : Aft L hi w (IsSl k xs) v w' := by
  obtain ⟨d, ho, ⟨A, c, rfl, rfl⟩, hr, hok, hf, hn⟩ := h
  obtain ⟨kp, hO⟩ := hok.unown
  have := hr.rawEq
  subst this
  exact ⟨_, _, ⟨rfl, rfl⟩, by simpa [hpB] using Rd.of_sl hO.sl, HpOk.nil _ _, hf, fun b hb => by simp [hpB] at hb⟩
theorem OpS.frz {args : List AV} {hi : List Ent} {e : TypeId} {k n : Nat} {xs : List (List AV)} (h : OpS P o args hi (IsOwn e k n xs)) : OpS P o args hi (IsSl k xs) := fun L w ρ hL hok hr => (h L w ρ hL hok hr).mono fun v w' => aft_frz

theorem ops_lit {t e : TypeId} {len k : Nat} {ps : Array (Nat × Operand)} {ds : List AV} {xs : List (List AV)} (ho : o.op = .buildSlice t len ps) [ht : TSl P t e] {z : Value} {bytes : Nat} [he : TEl P e z k bytes] (hl : litA k 0 ps.toList ds = some xs) (hn : ps.toList.length = len) (hm : len * k ≤ 16777216) :
    OpS P o ds [] (IsOwn e k len xs) := fun L w ρ hL hok hr => by
  have kp : 0 < k := he.hz.2.1
  obtain ⟨i, hi, h2⟩ := Option.map_eq_some_iff.1 he.h
  simp only [Prod.mk.injEq] at h2
  obtain ⟨hz0, rfl, hz2⟩ := h2
  have hops : o.op.operands.toList.map ρ = ps.toList.map fun p => ρ p.2 := by rw [ho]; simp [Op.operands]
  rw [hops] at hr
  simp only [hpB, List.flatMap_nil, List.nil_append] at hr
  obtain ⟨hx1, hx2⟩ := litA_len hl
  generalize hc0 : (Array.range (len * i.size)).map (fun j => (if len * i.size = 0 then (#[] : Array Value) else z.cells)[j % (if len * i.size = 0 then (#[] : Array Value) else z.cells).size]!) = c0
  have hc0s : c0.size = (0 + ps.toList.length) * i.size := by rw [← hc0, hn]; simp
  obtain ⟨us, hf, hels⟩ := fill_lit (kp := kp) hl hr c0 hc0s
  simp only [Nat.zero_mul, List.take_zero, List.nil_append] at hf
  have hO : Ow (cellsR i.size kp) L 0 (w.alloc (.cells us.toArray e)) e (.slice (some ⟨w.heap.size, 0, none⟩) xs.length xs.length) xs := Ow.lit hels 0 (Nat.zero_le _) e hL (by rw [hx1, hn]; unfold maxLen; have : len ≤ len * i.size := Nat.le_mul_of_pos_right _ kp; omega)
  rw [hx1, hn] at hO
  have hrun : (execOp ρ o).run P w = .ok (.value (.slice (some ⟨w.heap.size, 0, none⟩) len len)) (w.alloc (.cells us.toArray e)) := by
    have hg : ¬ (len * i.size > 2 ^ 24) := by omega
    simp only [execOp, ho, Instr.buildSlice, Sem.run_bind, run_underlying ht.h, Result.andThen_ok, sizeOf, typeInfo, run_program, hi, Sem.run_pure, hg, if_false]
    by_cases h0 : len * i.size = 0
    · simp only [h0, if_true, Sem.run_pure, Result.andThen_ok]
      rw [h0] at hc0
      simp only [if_true] at hc0
      have hc0' : Array.map (fun (x : Nat) => (#[] : Array Value)[x % (#[] : Array Value).size]!) (Array.range 0) = c0 := hc0
      simp only [Sem.run_bind, Sem.run_pure, Result.andThen_ok]
      simp only [hc0']
      simp only [Array.toList_map, hf, newRow, Sem.run_bind, run_newObj, Result.andThen_ok, Sem.run_pure, World.alloc_eq]
    · simp only [h0, if_false, zeroValue, typeInfo, Sem.run_bind, run_program, Result.andThen_ok, hi, hz0, Sem.run_pure]
      simp only [h0, if_false] at hc0
      have hc0' : Array.map (fun (x : Nat) => z.cells[x % z.cells.size]!) (Array.range (len * i.size)) = c0 := hc0
      simp only [hc0']
      simp only [Array.toList_map, hf, newRow, Sem.run_bind, run_newObj, Result.andThen_ok, Sem.run_pure, World.alloc_eq]
  exact does_value hrun (aft_own hO ((Fr.refl _ _).alloc _) (fun b hb => by simp [Value.ownBlock] at hb; exact .inr (by omega)))
end
end Go.Proofs.Ytglccdcdnbannaa
