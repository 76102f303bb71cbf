/- Data without memory: what values read as, which blocks a walk holds, and what stays where another call is made. No statement of the seat. -/
import Derived.Test.YtglccdcdnbannaaBase
import Derived.Test.YtglccdcdnbannaaTextAt
set_option linter.unusedVariables false
set_option linter.unusedSimpArgs false
namespace Go.Proofs.Ytglccdcdnbannaa
open Go.RowKit

/-- What a value reads as. -/
inductive AV where
  | top
  | raw (v : Value)
  | sl (k : Nat) (xs : List (List AV))
  | elt (cs : List AV) (n : Nat)
  | eptr (v : Value) (k i n : Nat)
  | agg (cs : List AV)
  | tup (cs : List AV)
  | fn (f : Fn) (cs : List AV)

inductive Rd (L : List Nat) (w : World) : AV → Value → Prop where
  | top (v : Value) : Rd L w .top v
  | raw (v : Value) : Rd L w (.raw v) v
  | sl {k : Nat} {xs : List (List AV)} {A : Option Addr} {c : Nat} (us : Nat → List Value) (kp : 0 < k) (hk : ∀ x ∈ xs, x.length = k)
      (hc : xs.length ≤ c) (hm : c ≤ maxLen) (hn : A = none → c = 0) (hs : ∀ a, A = some a → 0 < xs.length → a.spot = none)
      (hb : ∀ a, A = some a → 0 < xs.length → a.block ∉ L) (hl : ∀ j, j < xs.length → (us j).length = k)
      (hcell : ∀ a, A = some a → ∀ (j i : Nat) (u : Value), j < xs.length → (us j)[i]? = some u → w.cell? ⟨a.block, a.off + (j * k + i), none⟩ = some u)
      (hone : ∀ j u, j < xs.length → u ∈ us j → u.oneCell' = true)
      (hr : ∀ (j : Nat) (x : List AV) (i : Nat) (d : AV) (u : Value), xs[j]? = some x → x[i]? = some d → (us j)[i]? = some u → Rd L w d u) : Rd L w (.sl k xs) (.slice A xs.length c)
  | elt {cs : List AV} {n b o : Nat} (us : List Value) (hl : us.length = cs.length) (hp : 0 < us.length) (hb : b ∉ L)
      (hcell : ∀ (i : Nat) (u : Value), us[i]? = some u → w.cell? ⟨b, o + i, none⟩ = some u) (hone : ∀ u ∈ us, u.oneCell' = true)
      (hr : ∀ (i : Nat) (d : AV) (u : Value), cs[i]? = some d → us[i]? = some u → Rd L w d u) : Rd L w (.elt cs n) (.pointer (some ⟨b, o + n, none⟩))
  | eptr {v : Value} {k i n b c m : Nat} (hv : v = .slice (some ⟨b, 0, none⟩) m c) : Rd L w (.eptr v k i n) (.pointer (some ⟨b, i * k + n, none⟩))
  | agg {cs : List AV} (us : List Value) (hl : us.length = cs.length) (hone : ∀ u ∈ us, u.oneCell' = true)
      (hr : ∀ (i : Nat) (d : AV) (u : Value), cs[i]? = some d → us[i]? = some u → Rd L w d u) : Rd L w (.agg cs) (.agg us.toArray)
  | tup {cs : List AV} (us : List Value) (hl : us.length = cs.length)
      (hr : ∀ (i : Nat) (d : AV) (u : Value), cs[i]? = some d → us[i]? = some u → Rd L w d u) : Rd L w (.tup cs) (.tuple us.toArray)
  | fn {f : Fn} {cs : List AV} (us : List Value) (hl : us.length = cs.length)
      (hr : ∀ (i : Nat) (d : AV) (u : Value), cs[i]? = some d → us[i]? = some u → Rd L w d u) : Rd L w (.fn f cs) (.func f #[] us.toArray)

theorem Rd.mv {L L' : List Nat} {w w' : World} (m : Mv L L' w w') {d : AV} {v : Value} (h : Rd L w d v) : Rd L' w' d v := by
  induction h with
  | top v => exact .top v
  | raw v => exact .raw v
  | @sl k xs A c us kp hk hc hm hn hs hb hl hcell hone hr ih =>
    have key : ∀ a, A = some a → 0 < xs.length → a.block < w.heap.size := fun a ha hp => by
      have h0 : (us 0)[0]? = some ((us 0)[0]'(by rw [hl 0 hp]; exact kp)) := List.getElem?_eq_getElem _
      exact World.block_lt_of_cell? w ⟨a.block, _, none⟩ (hcell a ha 0 0 _ hp h0)
    exact .sl us kp hk hc hm hn hs (fun a ha hp => (m _ (key a ha hp) (hb a ha hp)).2) hl
      (fun a ha j i u hj hu => (World.cell?_of_block (a := ⟨a.block, _, none⟩) (m _ (key a ha (by omega)) (hb a ha (by omega))).1).trans (hcell a ha j i u hj hu)) hone ih
  | @elt cs n b o us hl hp hb hcell hone hr ih =>
    have hlt : b < w.heap.size := by
      have h0 : us[0]? = some (us[0]'hp) := List.getElem?_eq_getElem _
      exact World.block_lt_of_cell? w ⟨b, _, none⟩ (hcell 0 _ h0)
    exact .elt us hl hp (m _ hlt hb).2 (fun i u hu => (World.cell?_of_block (a := ⟨b, _, none⟩) (m _ hlt hb).1).trans (hcell i u hu)) hone ih
  | eptr hv => exact .eptr hv
  | agg us hl hone hr ih => exact .agg us hl hone ih
  | tup us hl hr ih => exact .tup us hl ih
  | fn us hl hr ih => exact .fn us hl ih

theorem Rd.less {L L' : List Nat} {w : World} (h : ∀ b, b ∈ L' → b ∈ L) {d : AV} {v : Value} (r : Rd L w d v) : Rd L' w d v := r.mv (Mv.less h)

/-- Cells read. -/
def Cs (L : List Nat) (w : World) (cs : List AV) (us : List Value) : Prop :=
  us.length = cs.length ∧ ∀ (i : Nat) (d : AV) (u : Value), cs[i]? = some d → us[i]? = some u → u.oneCell' = true ∧ Rd L w d u
theorem Cs.mv {L L' : List Nat} {w w' : World} (m : Mv L L' w w') {cs : List AV} {us : List Value} (h : Cs L w cs us) : Cs L' w' cs us :=
  ⟨h.1, fun i d u h1 h2 => ⟨(h.2 i d u h1 h2).1, (h.2 i d u h1 h2).2.mv m⟩⟩
theorem Cs.one {L : List Nat} {w : World} {cs : List AV} {us : List Value} (h : Cs L w cs us) : ∀ u ∈ us, u.oneCell' = true := fun u hu => by
  obtain ⟨i, hi, rfl⟩ := List.getElem_of_mem hu
  have h1 : cs[i]? = some (cs[i]'(by have := h.1; omega)) := List.getElem?_eq_getElem _
  exact (h.2 i _ _ h1 (List.getElem?_eq_getElem hi)).1
theorem Cs.rd {L : List Nat} {w : World} {cs : List AV} {us : List Value} (h : Cs L w cs us) : ∀ (i : Nat) (d : AV) (u : Value), cs[i]? = some d → us[i]? = some u → Rd L w d u := fun i d u h1 h2 => (h.2 i d u h1 h2).2
theorem Cs.of {L : List Nat} {w : World} {cs : List AV} {us : List Value} (hl : us.length = cs.length) (hone : ∀ u ∈ us, u.oneCell' = true)
    (hr : ∀ (i : Nat) (d : AV) (u : Value), cs[i]? = some d → us[i]? = some u → Rd L w d u) : Cs L w cs us := ⟨hl, fun i d u h1 h2 => ⟨hone u (List.mem_of_getElem? h2), hr i d u h1 h2⟩⟩
theorem Cs.nil (L : List Nat) (w : World) : Cs L w [] [] := ⟨rfl, fun i d u h => by simp at h⟩
theorem Cs.append {L : List Nat} {w : World} {cs ds : List AV} {us vs : List Value} (h : Cs L w cs us) (k : Cs L w ds vs) : Cs L w (cs ++ ds) (us ++ vs) := by
  refine ⟨by simp [h.1, k.1], fun i d u h1 h2 => ?_⟩
  rcases Nat.lt_or_ge i cs.length with hi | hi
  · rw [List.getElem?_append_left hi] at h1
    rw [List.getElem?_append_left (by rw [h.1]; exact hi)] at h2
    exact h.2 i d u h1 h2
  · rw [List.getElem?_append_right hi] at h1
    rw [List.getElem?_append_right (by rw [h.1]; exact hi), h.1] at h2
    exact k.2 _ d u h1 h2
theorem Cs.get {L : List Nat} {w : World} {cs : List AV} {us : List Value} (h : Cs L w cs us) {i : Nat} {d : AV} (hd : cs[i]? = some d) : ∃ u, us[i]? = some u ∧ u.oneCell' = true ∧ Rd L w d u := by
  have hi := (List.getElem?_eq_some_iff.1 hd).1
  have h2 : us[i]? = some (us[i]'(by rw [h.1]; exact hi)) := List.getElem?_eq_getElem _
  exact ⟨_, h2, h.2 i d _ hd h2⟩
theorem Cs.set {L : List Nat} {w : World} {cs : List AV} {us : List Value} (h : Cs L w cs us) (i : Nat) {d : AV} {u : Value} (hu : u.oneCell' = true) (hd : Rd L w d u) : Cs L w (cs.set i d) (us.set i u) := by
  refine ⟨by simp [h.1], fun j d' u' h1 h2 => ?_⟩
  rw [List.getElem?_set] at h1 h2
  by_cases hij : i = j
  · subst hij
    simp only [if_true] at h1 h2
    split at h1
    · split at h2
      · injection h1 with h1; injection h2 with h2; subst h1; subst h2; exact ⟨hu, hd⟩
      · cases h2
    · cases h1
  · rw [if_neg hij] at h1 h2
    exact h.2 j d' u' h1 h2
theorem Cs.drop {L : List Nat} {w : World} {cs : List AV} {us : List Value} (h : Cs L w cs us) (n : Nat) : Cs L w (cs.drop n) (us.drop n) :=
  ⟨by simp [h.1], fun i d u h1 h2 => h.2 (n + i) d u (by simpa using h1) (by simpa using h2)⟩
theorem Cs.take {L : List Nat} {w : World} {cs : List AV} {us : List Value} (h : Cs L w cs us) (n : Nat) : Cs L w (cs.take n) (us.take n) := by
  refine ⟨by simp [h.1], fun i d u h1 h2 => ?_⟩
  rw [List.getElem?_take] at h1 h2
  split at h1
  · rename_i hi
    rw [if_pos hi] at h2
    exact h.2 i d u h1 h2
  · cases h1

/-- Rows of k cells. -/
def cellsR (k : Nat) (kp : 0 < k) : Rp (List AV) where
  k := k
  rd := fun L w cs us => cs.length = k ∧ Cs L w cs us
  kp := kp
  len := fun h => h.2.1.trans h.1
  one := fun h => h.2.one
  mv := fun m h => ⟨h.1, h.2.mv m⟩

theorem Rd.sl_to {L : List Nat} {w : World} {k : Nat} {xs : List (List AV)} {v : Value} (h : Rd L w (.sl k xs) v) : ∃ kp : 0 < k, Sl (cellsR k kp) L w v xs := by
  cases h with
  | @sl _ _ A c us kp hk hc hm hn hs hb hl hcell hone hr =>
    refine ⟨kp, A, c, rfl, hc, hm, hn, fun a ha => ⟨hs a ha, fun j hj => ⟨hb a ha (by omega), us j, ⟨hk _ (List.getElem_mem hj), Cs.of ?_ (hone j · hj) (fun i d u h1 h2 => hr j _ i d u (List.getElem?_eq_getElem hj) h1 h2)⟩, fun i u hu => hcell a ha j i u hj hu⟩⟩⟩
    rw [hl j hj, hk _ (List.getElem_mem hj)]
theorem Rd.of_sl {L : List Nat} {w : World} {k : Nat} {kp : 0 < k} {xs : List (List AV)} {v : Value} (h : Sl (cellsR k kp) L w v xs) : Rd L w (.sl k xs) v := by
  obtain ⟨A, c, rfl, hc, hm, hn, ha⟩ := h
  rcases A with _ | a
  · have h0 := hn rfl
    obtain rfl := List.eq_nil_of_length_eq_zero (show xs.length = 0 by omega)
    exact .sl (fun _ => []) kp (fun x hx => by cases hx) hc hm hn (fun a h => by cases h) (fun a h => by cases h) (fun j hj => by simp at hj) (fun a h => by cases h) (fun j u hj => by simp at hj) (fun j x i d u h => by simp at h)
  · obtain ⟨hs, hx⟩ := ha a rfl
    have hx' : ∀ j, ∃ us, ∀ h : j < xs.length, a.block ∉ L ∧ (cellsR k kp).rd L w xs[j] us ∧ ∀ i u, us[i]? = some u → w.cell? ⟨a.block, a.off + (j * k + i), none⟩ = some u := fun j => by
      by_cases h : j < xs.length
      · obtain ⟨h1, us, h2, h3⟩ := hx j h
        exact ⟨us, fun _ => ⟨h1, h2, h3⟩⟩
      · exact ⟨[], fun h' => absurd h' h⟩
    obtain ⟨us, hus⟩ := Classical.axiomOfChoice hx'
    refine .sl us kp (fun x hxm => ?_) hc hm hn (fun a' e => by injection e with e; subst e; exact hs) (fun a' e hp => by injection e with e; subst e; exact (hus 0 hp).1)
      (fun j hj => (hus j hj).2.1.2.1.trans (hus j hj).2.1.1) (fun a' e j i u hj hu => by injection e with e; subst e; exact (hus j hj).2.2 i u hu)
      (fun j u hj hu => (hus j hj).2.1.2.one u hu) (fun j x i d u h1 h2 h3 => ?_)
    · obtain ⟨j, hj, rfl⟩ := List.getElem_of_mem hxm
      exact (hus j hj).2.1.1
    · have hj := (List.getElem?_eq_some_iff.1 h1).1
      rw [List.getElem?_eq_getElem hj] at h1
      injection h1 with h1
      subst h1
      exact (hus j hj).2.1.2.rd i d u h2 h3

/-- Arguments. -/
inductive RdL (L : List Nat) (w : World) : List AV → List Value → Prop where
  | nil : RdL L w [] []
  | cons {d : AV} {v : Value} {ds : List AV} {vs : List Value} (h : Rd L w d v) (t : RdL L w ds vs) : RdL L w (d :: ds) (v :: vs)
theorem RdL.mv {L L' : List Nat} {w w' : World} (m : Mv L L' w w') {ds : List AV} {vs : List Value} (h : RdL L w ds vs) : RdL L' w' ds vs := by
  induction h with
  | nil => exact .nil
  | cons h t ih => exact .cons (h.mv m) ih
theorem RdL.append {L : List Nat} {w : World} {ds es : List AV} {vs us : List Value} (h : RdL L w ds vs) (k : RdL L w es us) : RdL L w (ds ++ es) (vs ++ us) := by
  induction h with
  | nil => exact k
  | cons h t ih => exact .cons h ih
theorem RdL.of {L : List Nat} {w : World} : ∀ {ds : List AV} {vs : List Value}, vs.length = ds.length → (∀ (i : Nat) (d : AV) (u : Value), ds[i]? = some d → vs[i]? = some u → Rd L w d u) → RdL L w ds vs
  | [], [], _, _ => .nil
  | d :: ds, v :: vs, hl, h => .cons (h 0 d v rfl rfl) (RdL.of (by simpa using hl) (fun i d u h1 h2 => h (i + 1) d u (by simpa using h1) (by simpa using h2)))
  | [], _ :: _, hl, _ => by simp at hl
  | _ :: _, [], hl, _ => by simp at hl

/-! ### What a walk holds -/
inductive Ent where
  | box (b : Nat) (t : TypeId) (cs : List AV)
  | own (v : Value) (t : TypeId) (k : Nat) (xs : List (List AV))
def Ent.bl : Ent → List Nat
  | .box b _ _ => [b]
  | .own v _ _ _ => ob v
def hpB (hp : List Ent) : List Nat := hp.flatMap Ent.bl
theorem hpB_cons (e : Ent) (hp : List Ent) : hpB (e :: hp) = e.bl ++ hpB hp := rfl
theorem hpB_append (h1 h2 : List Ent) : hpB (h1 ++ h2) = hpB h1 ++ hpB h2 := by simp [hpB]

def EntOk (L : List Nat) (w : World) : Ent → Prop
  | .box b t cs => ∃ us, w.heap[b]? = some (.cells us.toArray t (0, 0)) ∧ Cs L w cs us
  | .own v t k xs => ∃ kp : 0 < k, ∃ us, w.ownsRow 0 t k v xs.length us ∧ Els (cellsR k kp) L w xs us
theorem EntOk.lt {L : List Nat} {w : World} {e : Ent} (h : EntOk L w e) : ∀ b ∈ e.bl, b < w.heap.size := by
  cases e with
  | box b t cs => obtain ⟨us, h1, _⟩ := h; intro b' hb; obtain rfl := List.mem_singleton.1 hb; exact blk_lt h1
  | own v t k xs => obtain ⟨kp, us, h1, _⟩ := h; intro b hb; exact (h1.lt b (ob_mem.1 hb)).2
theorem EntOk.mv {L L' : List Nat} {w w' : World} {e : Ent} (h : EntOk L w e) (m : Mv L L' w w') (hb : ∀ b ∈ e.bl, w'.heap[b]? = w.heap[b]?) : EntOk L' w' e := by
  cases e with
  | box b t cs => obtain ⟨us, h1, h2⟩ := h; exact ⟨us, (hb b (by simp [Ent.bl])).trans h1, h2.mv m⟩
  | own v t k xs =>
    obtain ⟨kp, us, h1, h2⟩ := h
    refine ⟨kp, us, ⟨h1.1, ?_⟩, h2.mv m⟩
    rcases h1.2 with hn | ⟨g, cap, cur, rfl, hb', hg, r⟩
    · exact .inl hn
    · exact .inr ⟨g, cap, cur, rfl, hb', (hb g (by simp [Ent.bl, ob, Value.ownBlock])).trans hg, r⟩

structure HpOk (L : List Nat) (w : World) (hp : List Ent) : Prop where
  ent : ∀ e ∈ hp, EntOk (hpB hp ++ L) w e
  nd : (hpB hp).Nodup
  dj : ∀ b ∈ hpB hp, b ∉ L
theorem HpOk.lt {L : List Nat} {w : World} {hp : List Ent} (h : HpOk L w hp) : ∀ b ∈ hpB hp, b < w.heap.size := fun b hb => by
  obtain ⟨e, he, hbe⟩ := List.mem_flatMap.1 hb
  exact (h.ent e he).lt b hbe
theorem HpOk.nil (L : List Nat) (w : World) : HpOk L w [] := ⟨fun e h => (by cases h), List.nodup_nil, fun b h => by cases h⟩
theorem hpB_perm {h1 h2 : List Ent} (p : h1.Perm h2) : (hpB h1).Perm (hpB h2) := p.flatMap_right _
theorem HpOk.perm {L : List Nat} {w : World} {h1 h2 : List Ent} (h : HpOk L w h1) (p : h1.Perm h2) : HpOk L w h2 :=
  ⟨fun e he => (h.ent e (p.mem_iff.2 he)).mv (Mv.less fun b hb => by
      rcases List.mem_append.1 hb with hb | hb
      · exact List.mem_append.2 (.inl ((hpB_perm p).mem_iff.2 hb))
      · exact List.mem_append.2 (.inr hb)) (fun _ _ => rfl), (hpB_perm p).nodup_iff.1 h.nd, fun b hb => h.dj b ((hpB_perm p).mem_iff.2 hb)⟩
/-- The part that is handed over. -/
theorem HpOk.left {L : List Nat} {w : World} {h1 h2 : List Ent} (h : HpOk L w (h1 ++ h2)) : HpOk (hpB h2 ++ L) w h1 := by
  have hb := hpB_append h1 h2
  have hnd := h.nd
  rw [hb] at hnd
  refine ⟨fun e he => (h.ent e (by simp [he])).mv (Mv.less fun b hx => by rw [hb]; simpa [or_assoc] using hx) (fun _ _ => rfl), (List.nodup_append.1 hnd).1, fun b hx hy => ?_⟩
  rcases List.mem_append.1 hy with hy | hy
  · exact (List.nodup_append.1 hnd).2.2 b hx b hy rfl
  · exact h.dj b (by rw [hb]; simp [hx]) hy

/-- What an operation or a call leaves: K tells the result and what is held. -/
def Aft (L : List Nat) (hi : List Ent) (w : World) (K : AV → List Ent → Prop) (v : Value) (w' : World) : Prop :=
  ∃ d ho, K d ho ∧ Rd (hpB ho ++ L) w' d v ∧ HpOk L w' ho ∧ Fr (hpB hi) w w' ∧ ∀ b ∈ hpB ho, b ∈ hpB hi ∨ w.heap.size ≤ b

/-- What stood beside what was handed over. -/
theorem aft_mv {L : List Nat} {w w' : World} {hi ho rest : List Ent} (hL : ∀ b ∈ L, b < w.heap.size) (hok : HpOk L w (hi ++ rest)) (hf : Fr (hpB hi) w w') (hn : ∀ b ∈ hpB ho, b ∈ hpB hi ∨ w.heap.size ≤ b) :
    Mv (hpB (hi ++ rest) ++ L) (hpB (ho ++ rest) ++ L) w w' := fun b hb hx => by
  rw [hpB_append] at hx
  refine ⟨hf.block b hb (fun h => hx (by simp [h])), fun hy => ?_⟩
  rw [hpB_append, List.append_assoc, List.mem_append] at hy
  rw [List.append_assoc, List.mem_append] at hx
  rcases hy with hy | hy
  · rcases hn b hy with h | h
    · exact hx (.inl h)
    · omega
  · exact hx (.inr hy)
theorem aft_hp {L : List Nat} {w w' : World} {hi ho rest : List Ent} (hL : ∀ b ∈ L, b < w.heap.size) (hok : HpOk L w (hi ++ rest)) (ho' : HpOk (hpB rest ++ L) w' ho) (hf : Fr (hpB hi) w w') (hn : ∀ b ∈ hpB ho, b ∈ hpB hi ∨ w.heap.size ≤ b) :
    HpOk L w' (ho ++ rest) := by
  have hb := hpB_append ho rest
  have hb1 := hpB_append hi rest
  have hm := aft_mv hL hok hf hn
  have hnd := hok.nd
  rw [hb1] at hnd
  have hlt := hok.lt
  have disj : ∀ b ∈ hpB ho, b ∉ hpB rest := fun b h1 h2 => ho'.dj b h1 (by simp [h2])
  refine ⟨fun e he => ?_, ?_, fun b hx => ?_⟩
  · rcases List.mem_append.1 he with he | he
    · exact (ho'.ent e he).mv (Mv.less fun b hx => by rw [hb] at hx; simpa [or_assoc] using hx) (fun _ _ => rfl)
    · refine (hok.ent e (by simp [he])).mv hm (fun b hx => ?_)
      have hbr : b ∈ hpB rest := List.mem_flatMap.2 ⟨e, he, hx⟩
      exact hf.block b (hlt b (by rw [hb1]; simp [hbr])) (fun h => (List.nodup_append.1 hnd).2.2 b h b hbr rfl)
  · rw [hb]
    refine List.nodup_append.2 ⟨ho'.nd, (List.nodup_append.1 hnd).2.1, fun a ha b hb' hab => ?_⟩
    subst hab
    exact disj a ha hb'
  · rw [hb] at hx
    rcases List.mem_append.1 hx with hx | hx
    · exact fun h => ho'.dj b hx (by simp [h])
    · exact hok.dj b (by rw [hb1]; simp [hx])

/-! ### Calls -/
def ACalls (P : Program) (f : FuncId) (args : List AV) (hi : List Ent) (K : AV → List Ent → Prop) : Prop :=
  ∀ (L : List Nat) (w : World) (vs : List Value), (∀ b ∈ L, b < w.heap.size) → HpOk L w hi → RdL (hpB hi ++ L) w args vs →
    Calls P f vs.toArray w fun e w' => ∃ v, e = .returned v ∧ Aft L hi w K v w'
theorem ACalls.mono {P : Program} {f : FuncId} {args : List AV} {hi : List Ent} {K K' : AV → List Ent → Prop} (h : ACalls P f args hi K) (hk : ∀ d ho, K d ho → K' d ho) : ACalls P f args hi K' :=
  fun L w vs h1 h2 h3 => (h L w vs h1 h2 h3).mono fun e w' ⟨v, he, d, ho, hK, r⟩ => ⟨v, he, d, ho, hk d ho hK, r⟩

/-- What an operation does: a value, or a call. -/
def Does (P : Program) (ρ : Operand → Value) (o : Oper) (w : World) (post : Value → World → Prop) : Prop :=
  match (execOp ρ o).run P w with
  | .ok (.value v) w' => post v w'
  | .ok .skip w' => post undef w'
  | .ok (.enter f args) w' => Calls P f args w' fun e w'' => ∃ v, e = .returned v ∧ post v w''
  | _ => False
theorem Does.mono {P : Program} {ρ : Operand → Value} {o : Oper} {w : World} {post post' : Value → World → Prop} (h : Does P ρ o w post) (hp : ∀ v w', post v w' → post' v w') : Does P ρ o w post' := by
  unfold Does at *
  split at h
  · exact hp _ _ h
  · exact hp _ _ h
  · exact h.mono fun e w'' ⟨v, he, hv⟩ => ⟨v, he, hp _ _ hv⟩
  · exact h

/-- An operation over what it takes (hi). -/
def OpS (P : Program) (o : Oper) (args : List AV) (hi : List Ent) (K : AV → List Ent → Prop) : Prop :=
  ∀ (L : List Nat) (w : World) (ρ : Operand → Value), (∀ b ∈ L, b < w.heap.size) → HpOk L w hi → RdL (hpB hi ++ L) w args (o.op.operands.toList.map ρ) →
    Does P ρ o w (Aft L hi w K)
/-- An operation that changes nothing, and what it yields hangs on its operands and on what stands (F) alone. -/
def OpF (P : Program) (F : List Ent) (o : Oper) (args : List AV) (d : AV) : Prop :=
  ∀ (L : List Nat) (w : World) (ρ : Operand → Value), HpOk L w F → RdL (hpB F ++ L) w args (o.op.operands.toList.map ρ) →
    ∃ v, (execOp ρ o).run P w = .ok (.value v) w ∧ Rd (hpB F ++ L) w d v

/-! ### Frames -/
abbrev Env := Nat → Option AV
def Env.put (env : Env) (dst : Option Tmp) (d : AV) : Env := match dst with
  | some t => fun s => if s = t then some d else env s
  | none => env
def Env.ev (env : Env) : Operand → Option AV
  | .tmp t => env t
  | .const v => some (.raw v)
  | .global g => some (.raw (.pointer (some ⟨g, 0, none⟩)))
  | .func f => some (.raw (.func (.func f) #[] #[]))
def evs (env : Env) : List Operand → Option (List AV)
  | [] => some []
  | x :: xs => match env.ev x, evs env xs with
    | some d, some ds => some (d :: ds)
    | _, _ => none

structure Ctx where
  P : Program
  L : List Nat
  M : List Nat
  w0 : World
  n : Nat

structure St (C : Ctx) (env : Env) (hp : List Ent) (a : Act) (w : World) : Prop where
  df : a.defers = []
  sz : a.tmps.size = C.n
  env : ∀ t d, env t = some d → ∃ v, a.tmps[t]? = some v ∧ Rd (hpB hp ++ C.L) w d v
  ok : HpOk C.L w hp
  fr : Fr C.M C.w0 w
  own : ∀ b ∈ hpB hp, b ∈ C.M ∨ C.w0.heap.size ≤ b
  lt : ∀ b ∈ C.L, b < C.w0.heap.size

theorem St.ev {C : Ctx} {env : Env} {hp : List Ent} {a : Act} {w : World} (h : St C env hp a w) {x : Operand} {d : AV} (hx : env.ev x = some d) : Rd (hpB hp ++ C.L) w d (a.eval x) := by
  cases x with
  | tmp t =>
    obtain ⟨v, hv, hr⟩ := h.env t d hx
    have : a.eval (.tmp t) = v := by simp [Act.eval, Array.getD_eq_getD_getElem?, hv]
    rw [this]; exact hr
  | const v => injection hx with hx; subst hx; exact .raw _
  | global g => injection hx with hx; subst hx; exact .raw _
  | func f => injection hx with hx; subst hx; exact .raw _
theorem St.evs {C : Ctx} {env : Env} {hp : List Ent} {a : Act} {w : World} (h : St C env hp a w) : ∀ {xs : List Operand} {ds : List AV}, evs env xs = some ds → RdL (hpB hp ++ C.L) w ds (xs.map a.eval)
  | [], ds, hx => by injection hx with hx; subst hx; exact .nil
  | x :: xs, ds, hx => by
    unfold Go.Proofs.Ytglccdcdnbannaa.evs at hx
    cases h1 : env.ev x with
    | none => rw [h1] at hx; cases hx
    | some d =>
      cases h2 : Go.Proofs.Ytglccdcdnbannaa.evs env xs with
      | none => rw [h1, h2] at hx; cases hx
      | some ds' =>
        rw [h1, h2] at hx
        injection hx with hx
        subst hx
        exact .cons (h.ev h1) (h.evs h2)
theorem St.ltw {C : Ctx} {env : Env} {hp : List Ent} {a : Act} {w : World} (h : St C env hp a w) : ∀ b ∈ C.L, b < w.heap.size := fun b hb => Nat.lt_of_lt_of_le (h.lt b hb) h.fr.size

/-- Behind an operation that took hi out of what is held. -/
theorem St.aft {C : Ctx} {env : Env} {hp hi ho rest : List Ent} {a : Act} {w w' : World} (h : St C env hp a w) (p : hp.Perm (hi ++ rest)) {dst : Option Tmp} (hd : ∀ t, dst = some t → t < C.n) {d : AV} {v : Value}
    (hr : Rd (hpB ho ++ (hpB rest ++ C.L)) w' d v) (ho' : HpOk (hpB rest ++ C.L) w' ho) (hf : Fr (hpB hi) w w') (hn : ∀ b ∈ hpB ho, b ∈ hpB hi ∨ w.heap.size ≤ b) :
    St C (env.put dst d) (ho ++ rest) (a.put dst v) w' := by
  have hok := h.ok.perm p
  have hm := aft_mv h.ltw hok hf hn
  have hpp := hpB_perm p
  have old : ∀ t d, env t = some d → ∃ v, a.tmps[t]? = some v ∧ Rd (hpB (ho ++ rest) ++ C.L) w' d v := fun t d hx => by
    obtain ⟨u, hu, hr⟩ := h.env t d hx
    exact ⟨u, hu, (hr.less fun b hb => by
      rcases List.mem_append.1 hb with hb | hb
      · exact List.mem_append.2 (.inl (hpp.mem_iff.2 hb))
      · exact List.mem_append.2 (.inr hb)).mv hm⟩
  refine ⟨?_, ?_, ?_, aft_hp h.ltw hok ho' hf hn, h.fr.trans' hf (fun b hb => ?_), fun b hb => ?_, h.lt⟩
  · cases dst <;> simp [Act.put, h.df]
  · cases dst <;> simp [Act.put, h.sz]
  · cases dst with
    | none => exact old
    | some t =>
      intro s d' hs
      simp only [Env.put] at hs
      by_cases hst : s = t
      · subst hst
        rw [if_pos rfl] at hs
        injection hs with hs
        subst hs
        refine ⟨v, ?_, ?_⟩
        · have := hd s rfl
          simp [Act.put, h.sz, this]
        · rw [hpB_append, List.append_assoc]; exact hr
      · rw [if_neg hst] at hs
        obtain ⟨u, hu, hr⟩ := old s d' hs
        exact ⟨u, by simp [Act.put, Array.getElem?_setIfInBounds_ne (Ne.symm hst), hu], hr⟩
  · exact h.own b (hpp.mem_iff.2 (show b ∈ hpB (hi ++ rest) by rw [hpB_append]; simp [hb]))
  · rw [hpB_append] at hb
    rcases List.mem_append.1 hb with hb | hb
    · rcases hn b hb with h1 | h1
      · exact h.own b (hpp.mem_iff.2 (show b ∈ hpB (hi ++ rest) by rw [hpB_append]; simp [h1]))
      · exact .inr (Nat.le_trans h.fr.size h1)
    · exact h.own b (hpp.mem_iff.2 (show b ∈ hpB (hi ++ rest) by rw [hpB_append]; simp [hb]))
/-- Behind an operation that changed nothing. -/
theorem St.pure {C : Ctx} {env : Env} {hp : List Ent} {a : Act} {w : World} (h : St C env hp a w) {dst : Option Tmp} (hd : ∀ t, dst = some t → t < C.n) {d : AV} {v : Value}
    (hr : Rd (hpB hp ++ C.L) w d v) : St C (env.put dst d) hp (a.put dst v) w := by
  refine ⟨?_, ?_, ?_, h.ok, h.fr, h.own, h.lt⟩
  · cases dst <;> simp [Act.put, h.df]
  · cases dst <;> simp [Act.put, h.sz]
  · cases dst with
    | none => exact h.env
    | some t =>
      intro s d' hs
      simp only [Env.put] at hs
      by_cases hst : s = t
      · subst hst
        rw [if_pos rfl] at hs
        injection hs with hs
        subst hs
        exact ⟨v, by have := hd s rfl; simp [Act.put, h.sz, this], hr⟩
      · rw [if_neg hst] at hs
        obtain ⟨u, hu, hr⟩ := h.env s d' hs
        exact ⟨u, by simp [Act.put, Array.getElem?_setIfInBounds_ne (Ne.symm hst), hu], hr⟩
theorem St.drew {C : Ctx} {env : Env} {hp : List Ent} {a : Act} {w : World} (h : St C env hp a w) : St C env hp a w.drew :=
  have m : ∀ L, Mv L L w w.drew := fun L => Fr.mv0 ((Fr.refl [] w).drew)
  ⟨h.df, h.sz, fun t d hx => by obtain ⟨v, h1, h2⟩ := h.env t d hx; exact ⟨v, h1, h2.mv (m _)⟩, ⟨fun e he => (h.ok.ent e he).mv (m _) (fun _ _ => rfl), h.ok.nd, h.ok.dj⟩, h.fr.drew, h.own, h.lt⟩
end Go.Proofs.Ytglccdcdnbannaa
