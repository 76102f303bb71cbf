/- What the arguments of a law read as, and what stands behind the call. No statement of the seat. -/
import Derived.Test.YtglccdcdnbannaaRows
import Derived.Test.YtglccdcdnbannaaTy
import Derived.ProofKit
import Derived.OpenShut
import Derived.JoinedCond
set_option linter.unusedVariables false
set_option linter.unusedSimpArgs false
namespace Go.Proofs.Ytglccdcdnbannaa
open Go.ChangeShapes Go.WideShapes Go.ChangeAt Go.RowKit

section opens
variable {P : Program} {t e : TypeId} {α β : Type}
/-- A type's readings read as data. -/
def Opens (P : Program) (t : TypeId) {α : Type} (en : α → List AV) (sz : α → Nat) (ok : α → Prop) : Prop :=
  ∀ (H : Type) (enc : TypeId × Value → H) (W : World) (fuel : Nat) (cs : List Value) (x : DataW H × List MemPlace), DataW.trod enc P W 0 (fun _ => true) true fuel t cs = some x →
    ∃ a, ok a ∧ Cs [] W (en a) cs ∧ sz a + 1 ≤ Rows.uptoBulk x.1
/-- Spare room is read again, or there is none. -/
def Steady (P : Program) (t : TypeId) : Prop :=
  ∀ (H : Type) (enc : TypeId × Value → H) (W : World) (fuel : Nat) (cs : List Value) (x : DataW H × List MemPlace), DataW.trod enc P W 0 (fun _ => true) true fuel t cs = some x →
    ∀ sp : Nat → Bool, (∀ p ∈ x.2, sp p.block = true) → DataW.trod enc P W 0 sp true fuel t cs = some x
theorem Opens.turn {en : α → List AV} {sz : α → Nat} {ok : α → Prop} {en' : β → List AV} {sz' : β → Nat} {ok' : β → Prop} (h : Opens P t en sz ok) (hm : ∀ a, ok a → ∃ b, ok' b ∧ en' b = en a ∧ sz' b ≤ sz a) : Opens P t en' sz' ok' :=
  fun H enc W fuel cs x hx => by
    obtain ⟨a, h1, h2, h3⟩ := h H enc W fuel cs x hx
    obtain ⟨b, g1, g2, g3⟩ := hm a h1
    exact ⟨b, g1, by rw [g2]; exact h2, by omega⟩
theorem cs_raw (W : World) {v : Value} (h : v.oneCell' = true) : Cs [] W [.raw v] [v] := Cs.of rfl (fun u hu => by simp at hu; subst hu; exact h) (fun i d u h1 h2 => by
  cases i with
  | zero => simp at h1 h2; subst h1; subst h2; exact .raw _
  | succ i => simp at h1)
theorem opens_int {k : IntKind} (ht : P.underlying t = some (.int k)) : Opens P t (fun n : Int => [.raw (.int k n)]) (fun _ => 0) (fun n => (Lit.int k n).wf = true) := fun H enc W fuel cs x hx => by
  obtain ⟨n, rfl, rfl, hw⟩ := DataW.trod_int ht hx
  exact ⟨n, hw, cs_raw W rfl, by simp [Rows.uptoBulk]⟩
theorem opens_bool (ht : P.underlying t = some .bool) : Opens P t (fun b : Bool => [.raw (.bool b)]) (fun _ => 0) (fun _ => True) := fun H enc W fuel cs x hx => by
  obtain ⟨n, rfl, rfl⟩ := DataW.trod_bool ht hx
  exact ⟨n, trivial, cs_raw W rfl, by simp [Rows.uptoBulk]⟩
theorem opens_string (ht : P.underlying t = some .string) : Opens P t (fun s : ByteArray => [.raw (.string s)]) (fun s => s.size) (fun _ => True) := fun H enc W fuel cs x hx => by
  obtain ⟨n, rfl, rfl, hw⟩ := DataW.trod_string ht hx
  refine ⟨n, trivial, cs_raw W rfl, ?_⟩
  have : n.data.toList.length = n.size := Array.length_toList
  simp only [Rows.uptoBulk]
  omega
theorem steady_one (h : P.underlying t = some .bool ∨ (∃ k, P.underlying t = some (.int k)) ∨ P.underlying t = some .string) : Steady P t := fun H enc W fuel cs x hx sp _ => by
  cases fuel with
  | zero => simp [DataW.trod] at hx
  | succ n =>
    rcases h with ht | ⟨k, ht⟩ | ht
    · obtain ⟨b, rfl, rfl⟩ := DataW.trod_bool ht hx
      simp [DataW.trod, ht]
    · obtain ⟨b, rfl, rfl, hw⟩ := DataW.trod_int ht hx
      simp [DataW.trod, ht, hw]
    · obtain ⟨b, rfl, rfl, hw⟩ := DataW.trod_string ht hx
      unfold DataW.trod
      rw [ht]
      exact if_pos hw
theorem chosen {p : Nat → α → Prop} : ∀ (n : Nat), (∀ i, i < n → ∃ a, p i a) → ∃ xs : List α, xs.length = n ∧ ∀ i (h : i < xs.length), p i xs[i]
  | 0, _ => ⟨[], rfl, fun i h => by simp at h⟩
  | n + 1, h => by
    obtain ⟨xs, hl, hx⟩ := chosen n (fun i hi => h i (by omega))
    obtain ⟨a, ha⟩ := h n (by omega)
    refine ⟨xs ++ [a], by simp [hl], fun i hi => ?_⟩
    rcases Nat.lt_or_ge i xs.length with h1 | h1
    · rw [List.getElem_append_left h1]; exact hx i h1
    · have : i = n := by simp at hi; omega
      subst this
      rw [List.getElem_append_right h1]
      simpa using ha
/-- The size of a list of readings. -/
def szs (sz : α → Nat) : List α → Nat
  | [] => 0
  | x :: xs => sz x + 1 + szs sz xs
theorem szs_len (sz : α → Nat) : ∀ xs : List α, xs.length ≤ szs sz xs
  | [] => Nat.le_refl _
  | x :: xs => by have := szs_len sz xs; simp only [List.length_cons, szs]; omega
theorem szs_mem (sz : α → Nat) : ∀ (xs : List α) (x : α), x ∈ xs → sz x + 1 ≤ szs sz xs
  | y :: xs, x, h => by
    simp only [szs]
    rcases List.mem_cons.1 h with rfl | h
    · omega
    · have := szs_mem sz xs x h; omega
theorem bulk_one {H : Type} (d : DataW H) : 1 ≤ Rows.uptoBulk d := by
  cases d with
  | lit l => cases l <;> simp [Rows.uptoBulk]
  | nil => simp [Rows.uptoBulk]
  | ptr d => simp [Rows.uptoBulk]
  | slice elems spare => simp [Rows.uptoBulk]
  | agg parts => simp [Rows.uptoBulk]
  | iface t d => simp [Rows.uptoBulk]
  | map entries => simp [Rows.uptoBulk]
  | held h => simp [Rows.uptoBulk]
theorem bulk_mem {H : Type} {d : DataW H} : ∀ {l : List (DataW H)}, d ∈ l → Rows.uptoBulk d ≤ Rows.uptoBulkAll l
  | x :: r, h => by
    simp only [Rows.uptoBulkAll]
    rcases List.mem_cons.1 h with rfl | h
    · omega
    · have := bulk_mem h; omega
theorem bulk_szs {H : Type} (sz : α → Nat) : ∀ (xs : List α) (ds : List (DataW H)), xs.length = ds.length → (∀ i (h : i < xs.length) (h' : i < ds.length), sz xs[i] + 1 ≤ Rows.uptoBulk ds[i]) → szs sz xs ≤ Rows.uptoBulkAll ds
  | [], ds, _, _ => Nat.zero_le _
  | x :: xs, d :: ds, hl, h => by
    have h0 := h 0 (by simp) (by simp)
    have h1 := bulk_szs sz xs ds (by simpa using hl) (fun i h1 h2 => by
      have := h (i + 1) (by simp; omega) (by simp; omega)
      rw [List.getElem_cons_succ, List.getElem_cons_succ] at this
      exact this)
    simp only [szs, Rows.uptoBulkAll]
    simp at h0
    omega
theorem opens_slice {k : Nat} (ht : P.underlying t = some (.slice e)) {en : α → List AV} {sz : α → Nat} {ok : α → Prop} (he : Opens P e en sz ok) (hk : P.cellsOf e = k) (kp : 0 < k) :
    Opens P t (fun xs : List α => [.sl k (xs.map en)]) (szs sz) (fun xs => ∀ x ∈ xs, ok x) := fun H enc W fuel cs x hx => by
  rcases DataW.trod_slice ht hx with ⟨rfl, rfl⟩ | ⟨a, len, cap, elems, rest, n, _, rfl, rfl, hb, hl, hm, hlen, hel, hsp, hns⟩
  · refine ⟨[], fun x h => (by cases h), Cs.of rfl (fun u hu => by simp at hu; subst hu; rfl) (fun i d u h1 h2 => ?_), by simp [szs, Rows.uptoBulk]⟩
    cases i with
    | zero => simp at h1 h2; subst h1; subst h2; exact Rd.of_sl (kp := kp) (Sl.nil _ _ _)
    | succ i => simp at h1
  · rw [hk] at hel
    obtain ⟨xs, hxl, hxx⟩ := chosen (p := fun i b => ok b ∧ ∃ us, W.cells? 0 (a.add (i * k)) k = some us ∧ Cs [] W (en b) us ∧ ∃ y, elems[i]? = some y ∧ sz b + 1 ≤ Rows.uptoBulk y.1) len (fun i hi => by
      have h1 := hel i hi
      rw [List.getElem?_eq_getElem (by omega)] at h1
      obtain ⟨us, h2, h3⟩ := Option.bind_eq_some_iff.1 h1
      obtain ⟨b, g1, g2, g3⟩ := he H enc W n us _ h3
      exact ⟨b, g1, us, h2, g2, _, List.getElem?_eq_getElem (by omega), g3⟩)
    subst hxl
    refine ⟨xs, fun x hx => ?_, Cs.of rfl (fun u hu => by simp at hu; subst hu; rfl) (fun i d u h1 h2 => ?_), ?_⟩
    · obtain ⟨i, hi, rfl⟩ := List.getElem_of_mem hx
      exact (hxx i hi).1
    · cases i with
      | succ i => simp at h1
      | zero =>
        simp at h1 h2
        subst h1; subst h2
        have hspot : ∀ i, i < xs.length → a.spot = none := fun i hi => by
          obtain ⟨_, us, h2, _⟩ := hxx i hi
          obtain ⟨_, hul, huc⟩ := World.cells?_some h2
          have h3 := huc 0 kp
          rw [List.getElem?_eq_getElem (by omega)] at h3
          have h4 := World.cell?_spot h3
          have h5 := World.cell?_spot (a := a.add (i * k)) (w := W) (v := us[0]'(by omega)) (by
            have : (a.add (i * k)).add 0 = a.add (i * k) := by simp [Addr.add]
            rwa [this] at h3)
          unfold Addr.add at h5
          split at h5
          · exact h5
          · rename_i hne
            have hel0 := hxx 0 (by omega)
            obtain ⟨_, us0, k2, _⟩ := hel0
            obtain ⟨_, kul, kuc⟩ := World.cells?_some k2
            have k3 := kuc 0 kp
            rw [List.getElem?_eq_getElem (by omega)] at k3
            have k4 := World.cell?_spot k3
            simpa [Addr.add] using k4
        refine Rd.of_sl (kp := kp) ⟨some a, cap, by simp, by simpa using hl, hm, (fun h => by cases h), fun a' ha' => ?_⟩
        injection ha' with ha'
        subst ha'
        refine ⟨fun h0 => hspot 0 (by simpa using h0), fun j hj => ⟨List.not_mem_nil, ?_⟩⟩
        have hj' : j < xs.length := by simpa using hj
        have hs := hspot j hj'
        obtain ⟨_, us, h2, h3, _⟩ := hxx j hj'
        obtain ⟨_, hul, huc⟩ := World.cells?_some h2
        refine ⟨us, ?_, fun i u hu => ?_⟩
        · rw [List.getElem_map]
          exact ⟨by rw [← h3.1, hul], h3⟩
        · have hi := (List.getElem?_eq_some_iff.1 hu).1
          have h4 := huc i (by omega)
          rw [hu] at h4
          obtain ⟨ab, ao, asp⟩ := a
          simp only at hs
          subst hs
          rw [Addr.add_lit, Addr.add_lit] at h4
          rw [← Nat.add_assoc]
          exact h4
    · have := bulk_szs sz xs (elems.map (·.1)) (by simp [hlen]) (fun i h h' => by
        obtain ⟨_, us, _, _, y, h5, h6⟩ := hxx i h
        rw [List.getElem_map]
        have h' : i < elems.length := by omega
        rw [List.getElem?_eq_getElem h'] at h5
        injection h5 with h5
        rw [h5]
        exact h6)
      simp only [Rows.uptoBulk]
      omega
theorem mapM_of {γ δ : Type} {f : γ → Option δ} : ∀ (l : List γ) (r : List δ), l.length = r.length → (∀ i (h : i < l.length) (h' : i < r.length), f l[i] = some r[i]) → l.mapM f = some r
  | [], [], _, _ => rfl
  | [], _ :: _, h, _ => by simp at h
  | _ :: _, [], h, _ => by simp at h
  | x :: l, y :: r, hl, h => by
    have h0 := h 0 (by simp) (by simp)
    have h1 := mapM_of l r (by simpa using hl) (fun i h1 h2 => by
      have := h (i + 1) (by simp; omega) (by simp; omega)
      rw [List.getElem_cons_succ, List.getElem_cons_succ] at this
      exact this)
    simp at h0
    simp [List.mapM_cons, h0, h1]
theorem steady_slice {k : Nat} (ht : P.underlying t = some (.slice e)) (he : Steady P e) (hk : P.cellsOf e = k) (kp : 0 < k) : Steady P t := fun H enc W fuel cs x hx sp hsp => by
  rcases DataW.trod_slice ht hx with ⟨rfl, rfl⟩ | ⟨a, len, cap, elems, rest, n, rfl, rfl, rfl, hb, hl, hm, hlen, hel, hrs, hns⟩
  · cases fuel with
    | zero => simp [DataW.trod] at hx
    | succ n => simp [DataW.trod, ht]
  · have hrl := (hrs rfl).1
    have E : ∀ i y, i < len → elems[i]? = some y → (W.cells? 0 (a.add (i * P.cellsOf e)) (P.cellsOf e)).bind (DataW.trod enc P W 0 sp true n e) = some y := fun i y hi hy => by
      have h1 := hel i hi
      rw [hy] at h1
      obtain ⟨us, h2, h3⟩ := Option.bind_eq_some_iff.1 h1
      rw [h2]
      exact he H enc W n us y h3 sp fun p hp => hsp p (List.mem_append.2 (.inr (List.mem_flatMap.2 ⟨y, List.mem_append.2 (.inl (List.mem_of_getElem? hy)), hp⟩)))
    have R : ∀ i y, i < cap - len → rest[i]? = some y → (W.cells? 0 (a.add ((len + i) * P.cellsOf e)) (P.cellsOf e)).bind (DataW.trod enc P W 0 sp true n e) = some y := fun i y hi hy => by
      have h1 := (hrs rfl).2 i hi
      rw [hy] at h1
      obtain ⟨us, h2, h3⟩ := Option.bind_eq_some_iff.1 h1
      rw [h2]
      exact he H enc W n us y h3 sp fun p hp => hsp p (List.mem_append.2 (.inr (List.mem_flatMap.2 ⟨y, List.mem_append.2 (.inr (List.mem_of_getElem? hy)), hp⟩)))
    have M : ∀ {f : Nat → Option (DataW H × List MemPlace)} (l : List (DataW H × List MemPlace)) (m : Nat), l.length = m → (∀ i y, i < m → l[i]? = some y → f i = some y) → (List.range m).mapM f = some l := fun {f} l m hl h => by
      exact mapM_of _ _ (by simp [hl]) fun i h1 h2 => by
        rw [List.getElem_range]
        exact h i _ (by simpa using h1) (List.getElem?_eq_getElem _)
    unfold DataW.trod
    rw [ht]
    simp only []
    rw [if_pos ⟨hb, hl, hm⟩, M elems len hlen (fun i y hi hy => E i y hi hy)]
    simp only [Option.bind_some]
    by_cases h0 : cap - len = 0
    · have : rest = [] := List.eq_nil_of_length_eq_zero (by omega)
      subst this
      rw [h0]
      cases sp a.block <;> simp
    · have hs : sp a.block = true := hsp (.cell a.block a.off) (List.mem_append.2 (.inl (MemPlace.mem_row.2 ⟨0, Nat.mul_pos (by omega) (by omega), rfl⟩)))
      rw [if_pos hs, M rest (cap - len) hrl (fun i y hi hy => R i y hi hy)]
      rfl
end opens

section law
variable {H : Type} {enc : TypeId × Value → H} {P : Program} {W W' : World}
theorem arg_one {α : Type} {t : TypeId} {v : Value} {d : DataW H} {p : List MemPlace} {en : α → AV} {sz : α → Nat} {ok : α → Prop} (hO : Opens P t (fun a => [en a]) sz ok) (h1 : v.cells.toList = [v]) (h : DataW.Trod enc P W 0 (fun _ => true) true t v d p) :
    ∃ a, ok a ∧ Rd [] W (en a) v ∧ sz a + 1 ≤ Rows.uptoBulk d := by
  obtain ⟨fuel, hf⟩ := h
  obtain ⟨a, h2, h3, h4⟩ := hO H enc W fuel _ _ hf
  rw [h1] at h3
  exact ⟨a, h2, h3.rd 0 _ _ rfl rfl, h4⟩
theorem arg_slice {α : Type} {t e : TypeId} {v : Value} {d : DataW H} {p : List MemPlace} {en : α → AV} {sz : α → Nat} {ok : α → Prop} {base : Nat} (ht : P.underlying t = some (.slice e)) (hO : Opens P t (fun a => [en a]) sz ok) (hv : Value.okWide P W .any base t v) (h : DataW.Trod enc P W 0 (fun _ => true) true t v d p) :
    ∃ a, ok a ∧ Rd [] W (en a) v ∧ sz a + 1 ≤ Rows.uptoBulk d := by
  obtain ⟨A, n, c, rfl⟩ := okWide_slice ht hv
  exact arg_one hO rfl h
theorem arg_int {t : TypeId} {k : IntKind} {v : Value} {d : DataW H} {p : List MemPlace} {base : Nat} (ht : P.underlying t = some (.int k)) (hv : Value.okWide P W .any base t v) (h : DataW.Trod enc P W 0 (fun _ => true) true t v d p) :
    ∃ n : Int, (Lit.int k n).wf = true ∧ Rd [] W (.raw (.int k n)) v := by
  obtain ⟨n, rfl⟩ := okWide_int ht hv
  obtain ⟨a, h1, h2, _⟩ := arg_one (opens_int ht) rfl h
  exact ⟨a, h1, h2⟩
theorem arg_string {t : TypeId} {v : Value} {d : DataW H} {p : List MemPlace} {base : Nat} (ht : P.underlying t = some .string) (hv : Value.okWide P W .any base t v) (h : DataW.Trod enc P W 0 (fun _ => true) true t v d p) :
    ∃ s : ByteArray, Rd [] W (.raw (.string s)) v ∧ s.size + 1 ≤ Rows.uptoBulk d := by
  obtain ⟨n, rfl⟩ := okWide_string ht hv
  obtain ⟨a, h1, h2, h3⟩ := arg_one (opens_string ht) rfl h
  exact ⟨a, h2, h3⟩
theorem arg_bool {t : TypeId} {v : Value} {d : DataW H} {p : List MemPlace} {base : Nat} (ht : P.underlying t = some .bool) (hv : Value.okWide P W .any base t v) (h : DataW.Trod enc P W 0 (fun _ => true) true t v d p) :
    ∃ b : Bool, Rd [] W (.raw (.bool b)) v := by
  obtain ⟨n, rfl⟩ := okWide_bool ht hv
  obtain ⟨a, h1, h2, h3⟩ := arg_one (opens_bool ht) rfl h
  exact ⟨a, h2⟩
/-- The arguments read again where nothing of theirs has turned. -/
theorem args_again {sp : Nat → Bool} : ∀ {ts : List TypeId} {vs : List Value} {ds : List (DataW H)} {ps : List MemPlace}, DataW.TrodAll enc P W 0 (fun _ => true) true ts vs ds ps → (∀ t ∈ ts, Steady P t) →
    (∀ p ∈ ps, sp p.block = true) → (∀ p ∈ ps, W.sameAt W' p) → DataW.TrodAll enc P W' 0 sp true ts vs ds ps
  | [], vs, ds, ps, h, _, _, _ => by
    obtain ⟨rfl, rfl, rfl⟩ := trodAll_nil h
    exact trodAll_mk0
  | t :: ts, vs, ds, ps, h, hs, h1, h2 => by
    obtain ⟨v, vs', d, ds', p, q, rfl, rfl, rfl, ⟨fuel, hf⟩, h4⟩ := trodAll_cons h
    refine trodAll_cons_mk ⟨fuel, ?_⟩ (args_again h4 (fun t ht => hs t (List.mem_cons_of_mem _ ht)) (fun p hp => h1 p (List.mem_append.2 (.inr hp))) (fun p hp => h2 p (List.mem_append.2 (.inr hp))))
    exact DataW.trod_carry fuel t _ _ (hs t (List.mem_cons_self ..) H enc W fuel _ _ hf sp (fun x hx => h1 x (List.mem_append.2 (.inl hx)))) (fun x hx => h2 x (List.mem_append.2 (.inl hx)))
theorem args_len : ∀ {ts : List TypeId} {vs : List Value} {ds : List (DataW H)} {ps : List MemPlace}, DataW.TrodAll enc P W 0 (fun _ => true) true ts vs ds ps → ds.length = ts.length
  | [], vs, ds, ps, h => by
    obtain ⟨rfl, rfl, rfl⟩ := trodAll_nil h
    rfl
  | t :: ts, vs, ds, ps, h => by
    obtain ⟨v, vs', d, ds', p, q, rfl, rfl, rfl, _, h4⟩ := trodAll_cons h
    simp [args_len h4]
theorem post_old {f : Func} {s : ChangeSpec} {apart fresh handsOn again : Bool} {args : Array Value} {ds : List (DataW H)} {before : List MemPlace}
    (hW : DataW.Whole enc P f.params.toList s.vars apart W args.toList ds [] before) (hvars : s.vars = []) (hfn : s.fn H ds = { results := [.lit (.bool true)], args := ds })
    (hst : ∀ t ∈ f.params.toList, Steady P t) {tb : TypeId} (hr : f.resultTypes = #[tb]) (htb : P.underlying tb = some .bool) (hf : Fr [] W W') :
    s.post enc P f apart fresh handsOn again W args (.bool true) W' := by
  have hlt := hW.lt
  obtain ⟨p, q, hA, hV, rfl, hz, hn⟩ := id hW
  rw [hvars] at hV
  obtain ⟨_, rfl⟩ := trodVars_none hV
  rw [List.append_nil] at *
  have hkeep : ∀ x ∈ p, W.sameAt W' x := fun x hx => hf.below.same (hlt x hx)
  have hres : ∀ (b : Nat) (sp : Nat → Bool) (hd : Bool), DataW.TrodAll enc P W' b sp hd f.resultTypes.toList ((Value.bool true).resultList f.resultTypes.size) (s.fn H (ds ++ [])).results [] := fun b sp hd => by
    rw [List.append_nil, hfn, hr]
    exact trodAll_cons_mk (shut_bool htb _) trodAll_mk0
  have hargs : ∀ sp : Nat → Bool, (∀ x ∈ p, sp x.block = true) → DataW.TrodAll enc P W' 0 sp true f.params.toList args.toList (s.fn H (ds ++ [])).args p := fun sp h => by
    rw [List.append_nil, hfn]
    exact args_again hA hst h hkeep
  have hvr : ∀ sp : Nat → Bool, DataW.TrodVars enc P W' sp s.vars (s.fn H (ds ++ [])).vars [] := fun sp => by
    rw [List.append_nil, hfn, hvars]
    rfl
  have hold : ∀ x ∈ p, (fun b => decide (b < W.heap.size)) x.block = true := fun x hx => by simpa using hlt x hx
  refine ⟨ds, [], p, [], p, [], hW, hres _ _ _, hargs _ hold, hvr _, World.keptBut_mono (fun x hx => ⟨hx, ?_⟩) (hf.below.frame (· ∈ p)), fun _ => ?_⟩
  · exact .inr (.inl hx)
  · refine ⟨ok_one hr rfl (okWide_bool_mk htb _), _, _, ([] ++ p) ++ [], ⟨[] ++ p, [], trodAll_append (hargs _ (fun _ _ => rfl)) (hres _ _ _), hvr _, rfl, ?_, ?_⟩, ?_⟩
    · intro b off hp
      have hp' : MemPlace.cell b off ∈ p := by simpa using hp
      rw [hf.free (a := ⟨b, off, none⟩) (hlt _ hp') List.not_mem_nil]
      exact hz b off hp'
    · intro ha
      simpa using hn ha
    · intro x hx _
      simpa using hx
/-- A law: what its arguments read as is walked to true. -/
theorem law_post {f : FuncId} {fn : Func} {s : ChangeSpec} {apart fresh handsOn again : Bool} {args : Array Value} {ds gs : List (DataW H)} {before : List MemPlace}
    (hW : DataW.Whole enc P fn.params.toList s.vars apart W args.toList ds gs before) (hvars : s.vars = []) (hfn : ds.length = fn.params.size → s.fn H ds = { results := [.lit (.bool true)], args := ds })
    (hst : ∀ t ∈ fn.params.toList, Steady P t) {tb : TypeId} (hr : fn.resultTypes = #[tb]) (htb : P.underlying tb = some .bool)
    (hwalk : ∃ avs, RdL [] W avs args.toList ∧ ACalls P f avs [] fun r ho => r = .raw (.bool true) ∧ ho = []) :
    Calls P f args W fun e W' => ∃ v, e = .returned v ∧ s.post enc P fn apart fresh handsOn again W args v W' := by
  obtain ⟨p, q, hA, hV, hpq, hz, hn⟩ := id hW
  have hV' := hV
  rw [hvars] at hV'
  obtain ⟨rfl, _⟩ := trodVars_none hV'
  have hlen := args_len hA
  obtain ⟨avs, hr1, hc⟩ := hwalk
  have h1 := hc [] W args.toList (fun b hb => by cases hb) (HpOk.nil _ _) hr1
  rw [Array.toArray_toList] at h1
  refine h1.mono fun e W' ⟨v, he, d, ho, ⟨h2, h3⟩, h4, _, h5, _⟩ => ?_
  subst h2
  refine ⟨v, he, ?_⟩
  rw [h4.rawEq]
  exact post_old hW hvars (hfn (by simpa using hlen)) hst hr htb h5
end law
end Go.Proofs.Ytglccdcdnbannaa
