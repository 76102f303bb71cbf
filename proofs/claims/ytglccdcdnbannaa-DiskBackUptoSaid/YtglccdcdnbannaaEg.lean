/- Operations over data without memory: variables, own rows, appends, calls. No statement of the seat. -/
import Derived.Test.YtglccdcdnbannaaEf
set_option linter.unusedVariables false
set_option linter.unusedSimpArgs false
namespace Go.Proofs.Ytglccdcdnbannaa
open Go.RowKit

section
variable {P : Program} {F : List Ent} {o : Oper}
/-! ### variables -/
theorem opf_load_b {t : TypeId} {x : Operand} {b p : Nat} {ty : TypeId} {cs : List AV} {d : AV} (ho : o.op = .load t x) [TAgg P t false] (hm : Ent.box b ty cs ∈ F) (hd : cs[p]? = some d) : OpF P F o [.raw (.pointer (some ⟨b, p, none⟩))] d :=
  opF1 (x := x) (by rw [ho]; rfl) fun L w ρ hF hr => by
    obtain ⟨us, hb, hcs⟩ := hF.mem_box hm
    obtain ⟨u, hu, h1, hr2⟩ := hcs.get hd
    have hc : w.cell? ⟨b, p, none⟩ = some u := by rw [blk_cell hb p]; simpa using hu
    refine ⟨u, ?_, hr2⟩
    simp [execOp, ho, hr.rawEq, Instr.loadAt, Instr.sureAddr, loadVar, run_agg, run_load, hc]
theorem opf_load_ba {t n : TypeId} {x : Operand} {b p : Nat} {ty : TypeId} {cs : List AV} (ho : o.op = .load t x) [TAgg P t true] [TSize P t n] (hm : Ent.box b ty cs ∈ F) (hd : p + n ≤ cs.length) : OpF P F o [.raw (.pointer (some ⟨b, p, none⟩))] (.agg ((cs.drop p).take n)) :=
  opF1 (x := x) (by rw [ho]; rfl) fun L w ρ hF hr => by
    obtain ⟨us, hb, hcs⟩ := hF.mem_box hm
    have hlen : ((us.drop p).take n).length = n := by rw [List.length_take, List.length_drop, hcs.1]; omega
    have hcs2 := (hcs.drop p).take n
    refine ⟨.agg ((us.drop p).take n).toArray, ?_, .agg _ hcs2.1 hcs2.one hcs2.rd⟩
    have := run_loadCells_list (P := P) w (a := ⟨b, p, none⟩) ((us.drop p).take n) (fun j v hj => by
      rw [List.getElem?_take] at hj
      split at hj
      · rw [List.getElem?_drop] at hj
        rw [Addr.add_lit, blk_cell hb]
        simpa using hj
      · cases hj)
    rw [hlen] at this
    simp [execOp, ho, hr.rawEq, Instr.loadAt, Instr.sureAddr, loadVar, run_agg, run_size, this]

def setA (cs : List AV) (p : Nat) (ds : List AV) : List AV := cs.take p ++ ds ++ cs.drop (p + ds.length)
theorem Cs.setA {L : List Nat} {w : World} {cs ds : List AV} {us vs : List Value} (h : Cs L w cs us) (k : Cs L w ds vs) (p : Nat) : Cs L w (setA cs p ds) (us.take p ++ vs ++ us.drop (p + vs.length)) := by
  unfold Go.Proofs.Ytglccdcdnbannaa.setA
  rw [k.1]
  exact ((h.take p).append k).append (h.drop _)
theorem setRow_fr {M : List Nat} {w : World} {g : Nat} (hg : g ∈ M) (cs : Array Value) : Fr M w (w.setRow g cs) :=
  ⟨rfl, rfl, rfl, by simp [World.setRow], fun k hk hm => by
    have : g ≠ k := fun e => hm (e ▸ hg)
    simp [World.setRow, Array.getElem?_modify, this]⟩

/-- What is stored. -/
theorem run_store_at {t n : TypeId} {w : World} {g p : Nat} {ty : TypeId} {us vs : List Value} {v : Value} [hs : TSize P t n] (hb : w.heap[g]? = some (.cells us.toArray ty (0, 0))) (hv : v.cells = vs.toArray) (hn : vs.length = n) (hone : ∀ u ∈ vs, u.oneCell' = true) (hp : p + n ≤ us.length) :
    (Instr.storeAt t (.pointer (some ⟨g, p, none⟩)) v).run P w = .ok () (w.setRow g (us.take p ++ vs ++ us.drop (p + vs.length)).toArray) := by
  have := run_storeCells_at P g p ty vs 0 us.toArray w hb (by simp; omega) hone
  simp only [Nat.add_zero] at this
  simp only [Instr.storeAt, Instr.sureAddr, Sem.run_bind, Sem.run_pure, Result.andThen_ok, storeVar, run_size, hv]
  rw [if_neg (by simp [hn])]
  simpa using this

theorem ops_store_b {t n : TypeId} {x y : Operand} {b p : Nat} {ty : TypeId} {cs ds : List AV} {d : AV} (ho : o.op = .store t x y) [TSize P t n] (hc : cellsA d = some ds) (hn : ds.length = n) (hp : p + n ≤ cs.length) :
    OpS P o [.raw (.pointer (some ⟨b, p, none⟩)), d] [.box b ty cs] (fun r ho => r = .top ∧ ho = [.box b ty (setA cs p ds)]) :=
  opS2 (x := x) (y := y) (by rw [ho]; rfl) fun L w ρ hL hok r1 r2 => by
    obtain ⟨us, hb, hcs, hbl⟩ := hok.unbox
    obtain ⟨vs, hv, hvs⟩ := cellsA_spec hc r2
    have hlt := blk_lt hb
    have hpl : p + n ≤ us.length := by rw [hcs.1]; exact hp
    have hvl : vs.length = n := hvs.1.trans hn
    have hrun := run_store_at (P := P) (t := t) hb hv hvl hvs.one hpl
    have hL2 : hpB [Ent.box b ty cs] ++ L = b :: L := by simp [hpB, Ent.bl]
    rw [hL2] at hvs
    have hfr : Fr [b] w (w.setRow b (us.take p ++ vs ++ us.drop (p + vs.length)).toArray) := setRow_fr (by simp) _
    have hmv : Mv (b :: L) (b :: L) w (w.setRow b (us.take p ++ vs ++ us.drop (p + vs.length)).toArray) := hfr.mv (fun x hx => by simp at hx; simp [hx])
    refine does_skip (w' := w.setRow b (us.take p ++ vs ++ us.drop (p + vs.length)).toArray) (by simp only [execOp, ho, r1.rawEq, Sem.run_bind, hrun, Result.andThen_ok, Sem.run_pure]) ?_
    refine ⟨_, _, ⟨rfl, rfl⟩, .top _, HpOk.box1 (setRow_heap w b us.toArray _ ty (0, 0) hb) ((hcs.setA hvs p).mv hmv) hbl, by simpa [hpB, Ent.bl] using hfr, fun b' hb' => .inl (by simpa [hpB, Ent.bl] using hb')⟩

/-! ### own rows -/
theorem cellsR_k {k : Nat} {kp : 0 < k} : (cellsR k kp).k = k := rfl
theorem own_form {L : List Nat} {w : World} {hp : List Ent} {v : Value} {t : TypeId} {k : Nat} {xs : List (List AV)} (h : HpOk L w hp) (hm : Ent.own v t k xs ∈ hp) : (v = .slice none 0 0 ∧ xs = []) ∨ ∃ g c us cur, ∃ kp : 0 < k, v = .slice (some ⟨g, 0, none⟩) xs.length c ∧ w.heap[g]? = some (.cells cur t (0, 0)) ∧ xs.length ≤ c ∧ c ≤ maxLen ∧ cur.size = c * k ∧ cur.toList.take (xs.length * k) = us ∧ Els (cellsR k kp) (hpB hp ++ L) w xs us := by
  obtain ⟨kp, us, h1, h2⟩ := h.mem_own hm
  rcases h1.2 with ⟨rfl, hn⟩ | ⟨g, cap, cur, rfl, _, hg, h3, h4, h5, h6⟩
  · exact .inl ⟨rfl, List.eq_nil_of_length_eq_zero hn⟩
  · exact .inr ⟨g, cap, us, cur, kp, rfl, hg, h3, h4, h5, h6, h2⟩
theorem opf_indexAddr_o {t e : TypeId} {k m c : Nat} {A : Option Addr} {ty : TypeId} {x y : Operand} {xs : List (List AV)} {i : Int} {ki : IntKind} (ho : o.op = .indexAddr t x y) (ht : P.underlying t = some (.slice (P.elem t))) [TSl P t e] [TSize P e k]
    (hm : Ent.own (.slice A m c) ty k xs ∈ F) (h1 : 0 ≤ i) (h2 : i < xs.length) : OpF P F o [.raw (.slice A m c), .raw (.int ki i)] (.eptr (.slice A m c) k i.toNat 0) :=
  opF2 (x := x) (y := y) (by rw [ho]; rfl) fun L w ρ hF r1 r2 => by
    have he : P.elem t = e := by have h := TSl.h (P := P) (t := t) (e := e); rw [ht] at h; injection h with h; injection h
    rcases own_form hF hm with ⟨hv, hx⟩ | ⟨g, c', us, cur, kp, hv, hg, h3, h4, h5, h6, h7⟩
    · subst hx; simp at h2; omega
    · injection hv with e1 e2 e3
      subst e1 e2 e3
      refine ⟨.pointer (some ⟨g, i.toNat * k + 0, none⟩), ?_, .eptr rfl⟩
      simp only [execOp, ho, r1.rawEq, r2.rawEq, Sem.run_bind, run_indexAt_slice w t _ _ c ki i ht, he, run_size, Result.andThen_ok, Sem.run_pure]
      rw [if_pos ⟨h1, by omega⟩]
      simp only [Result.andThen_ok, Addr.add_lit, Nat.zero_add, Nat.add_zero]
theorem opf_fieldAddr_o {s f off ft n : Nat} {x : Operand} {v : Value} {k i m : Nat} (ho : o.op = .fieldAddr s x f) [TFld P s f off ft] [TSize P ft n] (hn : n ≠ 0) : OpF P F o [.eptr v k i m] (.eptr v k i (m + off)) :=
  opF1 (x := x) (by rw [ho]; rfl) fun L w ρ _ h => by
    generalize hv : ρ x = u at h
    cases h with
    | @eptr _ _ _ _ b c mm hvv =>
      refine ⟨.pointer (some ⟨b, i * k + (m + off), none⟩), ?_, .eptr hvv⟩
      simp only [execOp, ho, hv, Sem.run_bind, run_fieldAt hn, Result.andThen_ok, Addr.add_lit, Sem.run_pure, Nat.add_assoc]
theorem opf_nilCheck_o {x : Operand} {v : Value} {k i m : Nat} (ho : o.op = .nilCheck x) : OpF P F o [.eptr v k i m] (.eptr v k i m) :=
  opF1 (x := x) (by rw [ho]; rfl) fun L w ρ _ h => by
    refine ⟨ρ x, ?_, h⟩
    generalize hv : ρ x = u at h
    cases h
    simp [execOp, ho, hv]
theorem own_cells {L : List Nat} {w : World} {hp : List Ent} {v : Value} {t : TypeId} {k i : Nat} {xs : List (List AV)} {cs : List AV} (h : HpOk L w hp) (hm : Ent.own v t k xs ∈ hp) (hx : xs[i]? = some cs) {b m c : Nat} (hv : v = .slice (some ⟨b, 0, none⟩) m c) :
    ∃ us, Cs (hpB hp ++ L) w cs us ∧ us.length = k ∧ ∀ j u, us[j]? = some u → w.cell? ⟨b, i * k + j, none⟩ = some u := by
  have hi := (List.getElem?_eq_some_iff.1 hx).1
  rcases own_form h hm with ⟨hv2, hx2⟩ | ⟨g, c', us, cur, kp, hv2, hg, h3, h4, h5, h6, h7⟩
  · subst hx2; simp at hi
  · rw [hv] at hv2
    injection hv2 with e1 e2 e3
    injection e1 with e1
    injection e1 with e1
    subst e1
    obtain ⟨ds, hd, hget⟩ := h7.get hi
    have hxi : xs[i] = cs := by rw [List.getElem?_eq_getElem hi] at hx; injection hx
    rw [hxi] at hd
    refine ⟨ds, hd.2, hd.2.1.trans hd.1, fun j u hu => ?_⟩
    have := hget j u hu
    rw [← h6, List.getElem?_take, cellsR_k] at this
    split at this
    · rw [blk_cell hg]
      simpa using this
    · cases this
theorem opf_load_o {t : TypeId} {x : Operand} {v : Value} {k i n : Nat} {ty : TypeId} {xs : List (List AV)} {cs : List AV} {d : AV} (ho : o.op = .load t x) [TAgg P t false] (hm : Ent.own v ty k xs ∈ F) (hx : xs[i]? = some cs) (hd : cs[n]? = some d) : OpF P F o [.eptr v k i n] d :=
  opF1 (x := x) (by rw [ho]; rfl) fun L w ρ hF h => by
    generalize hv : ρ x = u at h
    cases h with
    | @eptr _ _ _ _ b c mm hvv =>
      obtain ⟨us, hcs, _, hcell⟩ := own_cells hF hm hx hvv
      obtain ⟨u, hu, h1, hr2⟩ := hcs.get hd
      refine ⟨u, ?_, hr2⟩
      simp [execOp, ho, hv, Instr.loadAt, Instr.sureAddr, loadVar, run_agg, run_load, hcell _ _ hu]
theorem opf_load_oa {t s : TypeId} {x : Operand} {v : Value} {k i n : Nat} {ty : TypeId} {xs : List (List AV)} {cs : List AV} (ho : o.op = .load t x) [TAgg P t true] [TSize P t s] (hm : Ent.own v ty k xs ∈ F) (hx : xs[i]? = some cs) (hd : n + s ≤ cs.length) : OpF P F o [.eptr v k i n] (.agg ((cs.drop n).take s)) :=
  opF1 (x := x) (by rw [ho]; rfl) fun L w ρ hF h => by
    generalize hv : ρ x = u at h
    cases h with
    | @eptr _ _ _ _ b c mm hvv =>
      obtain ⟨us, hcs, _, hcell⟩ := own_cells hF hm hx hvv
      have hlen : ((us.drop n).take s).length = s := by rw [List.length_take, List.length_drop, hcs.1]; omega
      have hcs2 := (hcs.drop n).take s
      refine ⟨.agg ((us.drop n).take s).toArray, ?_, .agg _ hcs2.1 hcs2.one hcs2.rd⟩
      have := run_loadCells_list (P := P) w (a := ⟨b, i * k + n, none⟩) ((us.drop n).take s) (fun j v hj => by
        rw [List.getElem?_take] at hj
        split at hj
        · rw [List.getElem?_drop] at hj
          rw [Addr.add_lit, Nat.add_assoc]
          exact hcell _ _ hj
        · cases hj)
      rw [hlen] at this
      simp [execOp, ho, hv, Instr.loadAt, Instr.sureAddr, loadVar, run_agg, run_size, this]

theorem Els.set {α : Type} {R : Rp α} {L : List Nat} {w : World} : ∀ {xs : List α} {us : List Value}, Els R L w xs us → ∀ {i : Nat} (hi : i < xs.length) {x : α} {c : List Value}, R.rd L w x c → Els R L w (xs.set i x) (us.take (i * R.k) ++ c ++ us.drop (i * R.k + R.k))
  | x0 :: xs, us, ⟨c0, r, e, h1, h2⟩, 0, _, x, c, hc => by
    refine ⟨c, r, ?_, hc, h2⟩
    rw [e, Nat.zero_mul, Nat.zero_add, List.take_zero, List.nil_append, List.drop_append_of_le_length (by rw [R.len h1]; omega), List.drop_of_length_le (by rw [R.len h1]; omega), List.nil_append]
  | x0 :: xs, us, ⟨c0, r, e, h1, h2⟩, i + 1, hi, x, c, hc => by
    refine ⟨c0, _, ?_, h1, Els.set h2 (i := i) (by simpa using hi) hc⟩
    have hl := R.len h1
    rw [e]
    have e1 : (i + 1) * R.k = c0.length + i * R.k := by rw [hl, Nat.add_mul]; omega
    rw [e1, List.take_append, Nat.add_assoc, List.drop_append]
    simp [List.take_of_length_le, List.append_assoc]
theorem seg_key (cur vs : List Value) (a N p k : Nat) (h1 : a + k ≤ N) (h2 : N ≤ cur.length) (h3 : p + vs.length ≤ k) :
    (cur.take (a + p) ++ vs ++ cur.drop (a + p + vs.length)).take N = (cur.take N).take a ++ (((cur.drop a).take k).take p ++ vs ++ ((cur.drop a).take k).drop (p + vs.length)) ++ (cur.take N).drop (a + k) := by
  obtain ⟨A, r1, hA, rfl⟩ : ∃ A r, A.length = a ∧ cur = A ++ r := ⟨cur.take a, cur.drop a, by rw [List.length_take]; omega, (List.take_append_drop _ _).symm⟩
  obtain ⟨B, r2, hB, rfl⟩ : ∃ A r, A.length = p ∧ r1 = A ++ r := ⟨r1.take p, r1.drop p, by rw [List.length_take]; simp at h2; omega, (List.take_append_drop _ _).symm⟩
  obtain ⟨D, r3, hD, rfl⟩ : ∃ A r, A.length = vs.length ∧ r2 = A ++ r := ⟨r2.take vs.length, r2.drop vs.length, by rw [List.length_take]; simp at h2; omega, (List.take_append_drop _ _).symm⟩
  obtain ⟨E, r4, hE, rfl⟩ : ∃ A r, A.length = k - (p + vs.length) ∧ r3 = A ++ r := ⟨r3.take (k - (p + vs.length)), r3.drop (k - (p + vs.length)), by rw [List.length_take]; simp at h2; omega, (List.take_append_drop _ _).symm⟩
  subst hA hB
  have e1 : (A ++ (B ++ (D ++ (E ++ r4)))).take (A.length + B.length) = A ++ B := by rw [← List.append_assoc A B, List.take_append_of_le_length (by simp), List.take_of_length_le (by simp)]
  have e2 : (A ++ (B ++ (D ++ (E ++ r4)))).drop (A.length + B.length + vs.length) = E ++ r4 := by
    rw [← List.append_assoc A B, ← List.append_assoc (A ++ B) D, List.drop_append_of_le_length (by simp; omega), List.drop_of_length_le (by simp; omega), List.nil_append]
  have e3 : (A ++ (B ++ (D ++ (E ++ r4)))).drop A.length = B ++ (D ++ (E ++ r4)) := by rw [List.drop_append_of_le_length (Nat.le_refl _), List.drop_length, List.nil_append]
  have e4 : (B ++ (D ++ (E ++ r4))).take k = B ++ (D ++ E) := by
    rw [← List.append_assoc D E, ← List.append_assoc B (D ++ E), List.take_append_of_le_length (by simp; omega), List.take_of_length_le (by simp; omega)]
  have e5 : (B ++ (D ++ E)).take B.length = B := by rw [List.take_append_of_le_length (Nat.le_refl _), List.take_length]
  have e6 : (B ++ (D ++ E)).drop (B.length + vs.length) = E := by
    rw [← List.append_assoc B D, List.drop_append_of_le_length (by simp; omega), List.drop_of_length_le (by simp; omega), List.nil_append]
  rw [e1, e2, e3, e4, e5, e6]
  have e7 : (A ++ (B ++ (D ++ (E ++ r4)))).take N = A ++ (B ++ (D ++ (E ++ r4.take (N - (A.length + k))))) := by
    rw [← List.append_assoc D E, ← List.append_assoc B (D ++ E), ← List.append_assoc A (B ++ (D ++ E)), List.take_append, List.take_of_length_le (by simp; omega), show (A ++ (B ++ (D ++ E))).length = A.length + k by simp; omega]
    simp only [List.append_assoc]
  rw [e7]
  have e8 : (A ++ (B ++ (D ++ (E ++ r4.take (N - (A.length + k)))))).drop (A.length + k) = r4.take (N - (A.length + k)) := by
    rw [← List.append_assoc D E, ← List.append_assoc B (D ++ E), ← List.append_assoc A (B ++ (D ++ E)), List.drop_append_of_le_length (by simp; omega), List.drop_of_length_le (by simp; omega), List.nil_append]
  rw [e8]
  have e9 : (A ++ (B ++ (D ++ (E ++ r4.take (N - (A.length + k)))))).take A.length = A := by rw [List.take_append_of_le_length (Nat.le_refl _), List.take_length]
  rw [e9, ← List.append_assoc _ E, List.take_append, List.take_of_length_le (by simp; omega), show (A ++ B ++ vs ++ E).length = A.length + k by simp; omega]
  simp only [List.append_assoc]
theorem ops_store_o {t n : TypeId} {x y : Operand} {v : Value} {k i p : Nat} {ty : TypeId} {xs : List (List AV)} {cs ds : List AV} {d : AV} (ho : o.op = .store t x y) [TSize P t n] (hc : cellsA d = some ds) (hn : ds.length = n) (hx : xs[i]? = some cs) (hp : p + n ≤ cs.length) :
    OpS P o [.eptr v k i p, d] [.own v ty k xs] (fun r ho => r = .top ∧ ho = [.own v ty k (xs.set i (setA cs p ds))]) :=
  opS2 (x := x) (y := y) (by rw [ho]; rfl) fun L w ρ hL hok r1 r2 => by
    obtain ⟨kp, hO⟩ := hok.unown
    obtain ⟨us, h1, h2, h3⟩ := hO
    obtain ⟨vs, hv, hvs⟩ := cellsA_spec hc r2
    have hi := (List.getElem?_eq_some_iff.1 hx).1
    have hL2 : hpB [Ent.own v ty k xs] ++ L = ob v ++ L := by simp [hpB, Ent.bl]
    rw [hL2] at hvs
    generalize hq : ρ x = q at r1
    cases r1 with
    | @eptr _ _ _ _ b c mm hvv =>
      rcases h1.2 with ⟨hvn, _⟩ | ⟨g, cap, cur, hv2, _, hg, h4, h5, h6, h7⟩
      · rw [hvn] at hvv; cases hvv
      · rw [hvv] at hv2
        injection hv2 with e1 e2 e3
        injection e1 with e1
        injection e1 with e1
        subst e1 e2 e3 hvv
        have hob : ob (.slice (some ⟨b, 0, none⟩) xs.length c) = [b] := rfl
        rw [hob] at hvs h2
        have hvl : vs.length = n := hvs.1.trans hn
        obtain ⟨c0, hc0, hget⟩ := h2.get hi
        simp only [cellsR_k] at h1 h6 h7 hget
        have hxi : xs[i] = cs := by rw [List.getElem?_eq_getElem hi] at hx; injection hx
        rw [hxi] at hc0
        have hcl : cs.length = k := hc0.1
        have hc0l : c0.length = k := hc0.2.1.trans hcl
        have hik : i * k + k ≤ xs.length * k := by rw [← Nat.succ_mul]; exact Nat.mul_le_mul_right k hi
        have hck : xs.length * k ≤ c * k := Nat.mul_le_mul_right k h4
        have hcur : cur.toList.length = c * k := by simpa using h6
        have hrun := run_store_at (P := P) (t := t) (us := cur.toList) (by simpa using hg) hv hvl hvs.one (p := i * k + p) (by rw [hcur]; omega)
        generalize hcur2 : cur.toList.take (i * k + p) ++ vs ++ cur.toList.drop (i * k + p + vs.length) = cur2 at *
        have hfr : Fr [b] w (w.setRow b cur2.toArray) := setRow_fr (by simp) _
        have hmv : Mv ([b] ++ L) ([b] ++ L) w (w.setRow b cur2.toArray) := hfr.mv (fun x hx => by simp at hx; simp [hx])
        have hset := Els.set h2 hi (x := setA cs p ds) (c := c0.take p ++ vs ++ c0.drop (p + vs.length)) ⟨by simp [setA]; omega, hc0.2.setA hvs p⟩
        simp only [cellsR_k] at hset
        have hlen2 : cur2.length = c * k := by rw [← hcur2]; simp only [List.length_append, List.length_take, List.length_drop, hcur]; omega
        have hus : us.length = xs.length * k := h1.1
        have hc0e : c0 = (cur.toList.drop (i * k)).take k := by
          apply List.ext_getElem?
          intro j
          by_cases hj : j < k
          · have hj0 : c0[j]? = some (c0[j]'(by omega)) := List.getElem?_eq_getElem _
            have := hget j _ hj0
            rw [← h7, List.getElem?_take, if_pos (by omega)] at this
            rw [hj0, List.getElem?_take, if_pos hj, List.getElem?_drop, this]
          · rw [List.getElem?_eq_none (by omega), List.getElem?_eq_none (by simp; omega)]
        have key : cur2.take (xs.length * k) = us.take (i * k) ++ (c0.take p ++ vs ++ c0.drop (p + vs.length)) ++ us.drop (i * k + k) := by
          rw [← hcur2, ← h7, hc0e]
          exact seg_key cur.toList vs _ _ p k (by omega) (by omega) (by omega)
        have hOw : Ow (cellsR k kp) L 0 (w.setRow b cur2.toArray) ty (.slice (some ⟨b, 0, none⟩) xs.length c) (xs.set i (setA cs p ds)) := by
          refine ⟨_, ⟨?_, .inr ⟨b, c, cur2.toArray, by simp, Nat.zero_le _, setRow_heap w b cur _ ty (0, 0) hg, by simpa using h4, h5, by rw [cellsR_k]; simpa using hlen2, by rw [cellsR_k]; simpa using key⟩⟩, hset.mv hmv, h3⟩
          have := congrArg List.length key
          rw [List.length_take, hlen2] at this
          simp only [List.length_set, cellsR_k]
          omega
        refine does_skip (w' := w.setRow b cur2.toArray) (by simp only [execOp, ho, hq, Sem.run_bind, hrun, Result.andThen_ok, Sem.run_pure]) ?_
        exact ⟨_, _, ⟨rfl, rfl⟩, .top _, HpOk.own1 hOw, by simpa [hpB, Ent.bl, hob] using hfr, fun b' hb' => .inl (by simpa [hpB, Ent.bl] using hb')⟩

/-! ### append -/
theorem ops_append {t e : TypeId} {x y : Operand} {k n c : Nat} {A : Option Addr} {z : Value} {bytes : Nat} {xs ys : List (List AV)} (ho : o.op = .call { callee := .builtin .append, args := #[x, y], argTypes := #[t, t] }) [ht : TSl P t e] [he : TEl P e z k bytes]
    (hl : (xs.length + ys.length) * bytes ≤ 140737488355328) : OpS P o [.raw (.slice A n c), .sl k ys] [.own (.slice A n c) e k xs] (IsOwn e k (xs.length + ys.length) (xs ++ ys)) :=
  opS2 (x := x) (y := y) (by rw [ho]; rfl) fun L w ρ hL hok r1 r2 => by
    obtain ⟨kp, hO⟩ := hok.unown
    obtain ⟨kp2, hy⟩ := r2.sl_to
    have hL2 : hpB [Ent.own (.slice A n c) e k xs] ++ L = ob (.slice A n c) ++ L := by simp [hpB, Ent.bl]
    rw [hL2] at hy
    obtain ⟨v1, w1, hr, g1, g2, g3⟩ := run_ap (P := P) (cellsR k kp) t o.type e z bytes ht.h he.h he.hz.1 he.hz.2.2.1 hO hy (Nat.zero_le _) hL hl
    obtain ⟨A1, c1, rfl⟩ := g1.form
    rw [List.length_append] at g1 hr
    refine does_value (w' := w1) (by simp [execOp, ho, resolve, invoke, builtin, r1.rawEq, hr]) (aft_own g1 (by simpa [hpB, Ent.bl] using g3) fun b hb => ?_)
    by_cases hb2 : b ∈ ob (.slice A n c)
    · exact .inl (by simpa [hpB, Ent.bl] using hb2)
    · refine .inr ?_
      rcases Nat.lt_or_ge b w.heap.size with h | h
      · by_cases hbL : b ∈ L
        · obtain ⟨_, _, _, h9⟩ := g1
          exact absurd hbL (h9 b hb)
        · have := (g2 b h (by simp [hb2, hbL])).2
          exact absurd (by simp [ob_mem.2 hb]) this
      · exact h
theorem ops_append_nil {t e : TypeId} {x y : Operand} {k : Nat} {z : Value} {bytes : Nat} {ys : List (List AV)} (ho : o.op = .call { callee := .builtin .append, args := #[x, y], argTypes := #[t, t] }) [ht : TSl P t e] [he : TEl P e z k bytes]
    (hl : ys.length * bytes ≤ 140737488355328) : OpS P o [.raw (.slice none 0 0), .sl k ys] [] (IsOwn e k ys.length ys) := fun L w ρ hL hok hr => by
  have kp : 0 < k := he.hz.2.1
  have hO : HpOk L w [.own (.slice none 0 0) e k []] := HpOk.own1 (Ow.nil (cellsR k kp) L 0 w e)
  have h := ops_append (P := P) (o := o) (xs := []) (ys := ys) (A := none) (n := 0) (c := 0) (k := k) (e := e) ho (by simpa using hl) L w ρ hL hO (by simpa [hpB, Ent.bl, ob, Value.ownBlock] using hr)
  simp only [List.length_nil, Nat.zero_add, List.nil_append] at h
  exact h.mono fun v w' ⟨d, hoo, h1, h2, h3, h4, h5⟩ => ⟨d, hoo, h1, h2, h3, by simpa [hpB, Ent.bl, ob, Value.ownBlock] using h4, by simpa [hpB, Ent.bl, ob, Value.ownBlock] using h5⟩

/-! ### calls -/
def callsOk (P : Program) (f : FuncId) : Bool := match P.funcs[f]? with
  | some fn => fn.name != "runtime.NumGoroutine" && fn.body.isSome
  | none => false
theorem run_callFunc {f : FuncId} {vs : Array Value} {w : World} (h : callsOk P f = true) : (callFunc f vs).run P w = .ok (.enter f vs) w := by
  unfold callsOk at h
  unfold callFunc
  cases hf : P.funcs[f]? with
  | none => rw [hf] at h; cases h
  | some fn =>
    rw [hf] at h
    simp only [Bool.and_eq_true, bne_iff_ne] at h
    have h2 : fn.body.isNone = false := by cases hb : fn.body <;> simp [hb] at h ⊢
    have h3 : (fn.name == "runtime.NumGoroutine") = false := by simpa using h.1
    simp only [Sem.run_bind, run_program, Result.andThen_ok, hf, h3, h2, Bool.false_eq_true, if_false, Sem.run_pure]
theorem ops_call {f : FuncId} {fo : Operand} {xs : Array Operand} {ts : Array TypeId} {args : List AV} {hi : List Ent} {K : AV → List Ent → Prop} (ho : o.op = .call { callee := .value fo, args := xs, argTypes := ts }) (hf : callsOk P f = true)
    (h : ACalls P f args hi K) : OpS P o (.raw (.func (.func f) #[] #[]) :: args) hi K := fun L w ρ hL hok hr => by
  have hops : o.op.operands.toList.map ρ = ρ fo :: xs.toList.map ρ := by rw [ho]; simp [Op.operands, Call.operands]
  rw [hops] at hr
  obtain ⟨v, us, he, h1, h2⟩ := hr.c1
  simp only [List.cons.injEq] at he
  obtain ⟨rfl, rfl⟩ := he
  have hc := h L w _ hL hok h2
  have hx : (xs.toList.map ρ).toArray = xs.map ρ := by apply Array.ext'; simp
  rw [hx] at hc
  unfold Does
  simp only [execOp, ho, resolve, h1.rawEq, Deferred.ofValue, Sem.run_bind, Sem.run_pure, Result.andThen_ok, invoke, Array.append_empty, Array.empty_append, run_callFunc hf]
  exact hc
/-- A function value, with what it holds. -/
theorem ops_callFn {f : FuncId} {fo : Operand} {xs : Array Operand} {ts : Array TypeId} {args cs : List AV} {hi : List Ent} {K : AV → List Ent → Prop} (ho : o.op = .call { callee := .value fo, args := xs, argTypes := ts }) (hf : callsOk P f = true)
    (h : ACalls P f (args ++ cs) hi K) : OpS P o (.fn (.func f) cs :: args) hi K := fun L w ρ hL hok hr => by
  have hops : o.op.operands.toList.map ρ = ρ fo :: xs.toList.map ρ := by rw [ho]; simp [Op.operands, Call.operands]
  rw [hops] at hr
  obtain ⟨v, us, he, h1, h2⟩ := hr.c1
  simp only [List.cons.injEq] at he
  obtain ⟨rfl, rfl⟩ := he
  generalize hv : ρ fo = v at h1
  cases h1 with
  | fn us hl hr1 =>
    have hc := h L w _ hL hok (h2.append (RdL.of hl hr1))
    have hx : (xs.toList.map ρ ++ us).toArray = xs.map ρ ++ us.toArray := by apply Array.ext'; simp
    rw [hx] at hc
    unfold Does
    simp only [execOp, ho, resolve, hv, Deferred.ofValue, Sem.run_bind, Sem.run_pure, Result.andThen_ok, invoke, Array.empty_append, run_callFunc hf]
    exact hc
end
end Go.Proofs.Ytglccdcdnbannaa
