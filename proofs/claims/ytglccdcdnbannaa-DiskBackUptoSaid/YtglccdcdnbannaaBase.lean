/- Words for the walks of this seat's functions: worlds that keep what was there, slices that read as lists, rows that a call owns. No statement of the seat. -/
import Derived.WalkKit
import Derived.WalkSpells
import Derived.WalkLawsBesides
import Derived.Deep.LoopGhost
import Derived.Deep.QuietTactic
import Derived.BigQuiet
import Derived.Deep.RegionWith
import Derived.Deep.RegionHeld3
import Derived.Deep.DeepCutAuto
import Derived.Deep.Draws
import Derived.Maps.AppendAt
import Derived.Lib.Hide
import Derived.KernelRfl
set_option linter.unusedVariables false
set_option linter.unusedSimpArgs false
namespace Go.Proofs.Ytglccdcdnbannaa
open Go.RowKit

/-! ### 1. Worlds -/

/-- Only blocks of M may have turned; new ones may have come. -/
structure Fr (M : List Nat) (w w' : World) : Prop where
  os : w'.os = w.os
  tape : w'.tape = w.tape
  output : w'.output = w.output
  size : w.heap.size ≤ w'.heap.size
  block : ∀ k, k < w.heap.size → k ∉ M → w'.heap[k]? = w.heap[k]?

theorem Fr.refl (M : List Nat) (w : World) : Fr M w w := ⟨rfl, rfl, rfl, Nat.le_refl _, fun _ _ _ => rfl⟩
theorem Fr.trans' {M M' : List Nat} {w w1 w2 : World} (h : Fr M w w1) (k : Fr M' w1 w2) (hM : ∀ b, b ∈ M' → b ∈ M ∨ w.heap.size ≤ b) : Fr M w w2 :=
  ⟨k.os.trans h.os, k.tape.trans h.tape, k.output.trans h.output, Nat.le_trans h.size k.size, fun i hi hm =>
    (k.block i (Nat.lt_of_lt_of_le hi h.size) (fun hx => by rcases hM i hx with h1 | h1 <;> first | exact hm h1 | omega)).trans (h.block i hi hm)⟩
theorem Fr.trans {M : List Nat} {w w1 w2 : World} (h : Fr M w w1) (k : Fr M w1 w2) : Fr M w w2 := h.trans' k (fun _ hb => .inl hb)
theorem Fr.then {M : List Nat} {w w1 w2 : World} (h : Fr M w w1) (k : Fr [] w1 w2) : Fr M w w2 := h.trans' k (fun _ hb => by cases hb)
theorem Fr.mono {M M' : List Nat} {w w1 : World} (h : Fr M w w1) (hM : ∀ b, b ∈ M → b ∈ M') : Fr M' w w1 := ⟨h.os, h.tape, h.output, h.size, fun k hk hm => h.block k hk (fun hx => hm (hM k hx))⟩
theorem Fr.any {M : List Nat} {w w1 : World} (h : Fr [] w w1) : Fr M w w1 := h.mono (fun _ hb => by cases hb)
theorem Fr.alloc {M : List Nat} {w w1 : World} (h : Fr M w w1) (o : Obj) : Fr M w (w1.alloc o) :=
  ⟨h.os, h.tape, h.output, by have := h.size; simp; omega, fun k hk hm => (Below.heap_alloc _ _ _ (Nat.lt_of_lt_of_le hk h.size)).trans (h.block k hk hm)⟩
theorem Fr.drew {M : List Nat} {w w1 : World} (h : Fr M w w1) : Fr M w w1.drew := ⟨h.os, h.tape, h.output, h.size, h.block⟩
theorem Fr.drewN {M : List Nat} {w w1 : World} (h : Fr M w w1) (n : Nat) : Fr M w (w1.drewN n) := ⟨h.os, h.tape, h.output, h.size, h.block⟩
theorem size_setCell (w : World) (a : Addr) (u : Value) : (w.setCell a u).heap.size = w.heap.size := by simp [World.setCell]
theorem Fr.setCell {M : List Nat} {w w1 : World} (h : Fr M w w1) {a : Addr} (ha : a.block ∈ M ∨ w.heap.size ≤ a.block) (u : Value) : Fr M w (w1.setCell a u) :=
  ⟨h.os, h.tape, h.output, by rw [size_setCell]; exact h.size, fun k hk hm => (Below.heap_setCell _ _ _ _ (fun he => by rcases ha with h1 | h1 <;> first | exact hm (he ▸ h1) | omega)).trans (h.block k hk hm)⟩
/-- A store into a block that came in between. -/
theorem Fr.setNew {M : List Nat} {w w1 : World} (h : Fr M w w1) {b o : Nat} (hb : w.heap.size ≤ b) (u : Value) : Fr M w (w1.setCell ⟨b, o, none⟩ u) := h.setCell (.inr hb) u
theorem Fr.grown {M : List Nat} {w w1 w2 : World} {row : Option Nat} (h : Fr M w w1) (hg : w1.grownBy w2 row) (hr : ∀ k, row = some k → k ∈ M ∨ w.heap.size ≤ k) : Fr M w w2 :=
  ⟨hg.os.trans h.os, hg.tape.trans h.tape, hg.output.trans h.output, Nat.le_trans h.size hg.size, fun k hk hm =>
    (hg.block k (Nat.lt_of_lt_of_le hk h.size) (fun he => by rcases hr k he.symm with h1 | h1 <;> first | exact hm h1 | omega)).trans (h.block k hk hm)⟩
theorem Fr.below {w w1 : World} (h : Fr [] w w1) : Below w.heap.size w w1 := ⟨h.os, h.tape, h.output, h.size, fun k hk => h.block k hk (by simp)⟩
theorem Fr.of_below {w w1 : World} (h : Below w.heap.size w w1) : Fr [] w w1 := ⟨h.os, h.tape, h.output, h.size, fun k hk _ => h.block k hk⟩
theorem Fr.blk {M : List Nat} {w w1 : World} (h : Fr M w w1) {b : Nat} {o : Obj} (hb : w.heap[b]? = some o) (hm : b ∉ M) : w1.heap[b]? = some o := (h.block b (Array.getElem?_eq_some_iff.1 hb).1 hm).trans hb
theorem Fr.cell {M : List Nat} {w w1 : World} (h : Fr M w w1) {a : Addr} {v : Value} (hc : w.cell? a = some v) (hm : a.block ∉ M) : w1.cell? a = some v :=
  (World.cell?_of_block (h.block a.block (World.block_lt_of_cell? w a hc) hm)).trans hc
theorem Fr.free {M : List Nat} {w w1 : World} (h : Fr M w w1) {a : Addr} (hl : a.block < w.heap.size) (hm : a.block ∉ M) : w1.frozen? a = w.frozen? a := World.frozen?_of_block (h.block a.block hl hm)
/-- For the walk: what stood below still reads so. -/
theorem Fr.cells {w w1 : World} (h : Fr [] w w1) : (∀ b o, b < w.heap.size → w1.cell? ⟨b, o, none⟩ = w.cell? ⟨b, o, none⟩) ∧ (∀ b o, b < w.heap.size → w1.frozen? ⟨b, o, none⟩ = w.frozen? ⟨b, o, none⟩) :=
  ⟨fun b o hb => World.cell?_of_block (a := ⟨b, o, none⟩) (h.block b hb (by simp)), fun b o hb => World.frozen?_of_block (a := ⟨b, o, none⟩) (h.block b hb (by simp))⟩

theorem blk_lt {w : World} {g : Nat} {o : Obj} (h : w.heap[g]? = some o) : g < w.heap.size := (Array.getElem?_eq_some_iff.1 h).1
theorem blk_cell {w : World} {g : Nat} {t : TypeId} {cs : Array Value} {fz : Nat × Nat} (h : w.heap[g]? = some (.cells cs t fz)) (i : Nat) : w.cell? ⟨g, i, none⟩ = cs[i]? := cell_of_row w g i cs t fz h
theorem blk_free {w : World} {g : Nat} {t : TypeId} {cs : Array Value} (h : w.heap[g]? = some (.cells cs t (0, 0))) (i : Nat) : w.frozen? ⟨g, i, none⟩ = false := by simp [World.frozen?, h]
theorem blk_set {w : World} {g : Nat} {t : TypeId} {cs : Array Value} {fz : Nat × Nat} (h : w.heap[g]? = some (.cells cs t fz)) (i : Nat) (u : Value) : (w.setCell ⟨g, i, none⟩ u).heap[g]? = some (.cells (cs.setIfInBounds i u) t fz) := by
  simp [World.setCell, Array.getElem?_modify, h]
theorem blk_set_ne {w : World} {g k : Nat} {o : Obj} (h : w.heap[g]? = some o) (i : Nat) (u : Value) (hne : g ≠ k) : (w.setCell ⟨k, i, none⟩ u).heap[g]? = some o := (Below.heap_setCell w ⟨k, i, none⟩ u g hne).trans h
theorem blk_alloc {w : World} {g : Nat} {o : Obj} (h : w.heap[g]? = some o) (p : Obj) : (w.alloc p).heap[g]? = some o := (Below.heap_alloc w p g (blk_lt h)).trans h
theorem blk_new (w : World) (o : Obj) : (w.alloc o).heap[w.heap.size]? = some o := heap_alloc_new w o

/-! ### 2. What reads out of cells -/

/-- From w to w': what lies outside L is as it was, and outside L'. -/
def Mv (L L' : List Nat) (w w' : World) : Prop := ∀ b, b < w.heap.size → b ∉ L → w'.heap[b]? = w.heap[b]? ∧ b ∉ L'
theorem Fr.mv {M L : List Nat} {w w' : World} (h : Fr M w w') (hM : ∀ b, b ∈ M → b ∈ L) : Mv L L w w' := fun b hb hl => ⟨h.block b hb (fun hm => hl (hM b hm)), hl⟩
theorem Fr.mv0 {L : List Nat} {w w' : World} (h : Fr [] w w') : Mv L L w w' := h.mv (fun _ hb => by cases hb)
theorem Mv.less {L L' : List Nat} {w : World} (h : ∀ b, b ∈ L' → b ∈ L) : Mv L L' w w := fun b _ hl => ⟨rfl, fun hx => hl (h b hx)⟩
/-- New blocks are avoided by what there was. -/
theorem Mv.more {L L' : List Nat} {w : World} (h : ∀ b, b ∈ L' → b ∈ L ∨ w.heap.size ≤ b) : Mv L L' w w := fun b hb hl => ⟨rfl, fun hx => by rcases h b hx with h1 | h1 <;> first | exact hl h1 | omega⟩
theorem Mv.trans {L L' L'' : List Nat} {w w' w'' : World} (h : Mv L L' w w') (k : Mv L' L'' w' w'') (hs : w.heap.size ≤ w'.heap.size) : Mv L L'' w w'' := fun b hb hl =>
  have h1 := h b hb hl
  have h2 := k b (Nat.lt_of_lt_of_le hb hs) h1.2
  ⟨h2.1.trans h1.1, h2.2⟩

/-- How a datum reads out of k cells; L: blocks that it doesn't lead to. -/
structure Rp (α : Type) where
  k : Nat
  rd : List Nat → World → α → List Value → Prop
  kp : 0 < k
  len : ∀ {L w a cs}, rd L w a cs → cs.length = k
  one : ∀ {L w a cs}, rd L w a cs → ∀ u ∈ cs, u.oneCell' = true
  mv : ∀ {L L' w w' a cs}, Mv L L' w w' → rd L w a cs → rd L' w' a cs

/-- No memory behind it. -/
def Rp.flat {α : Type} (k : Nat) (kp : 0 < k) (enc : α → List Value) (h : ∀ a, (enc a).length = k ∧ ∀ u ∈ enc a, u.oneCell' = true) : Rp α where
  k := k
  rd := fun _ _ a cs => cs = enc a
  kp := kp
  len := fun e => by rw [e, (h _).1]
  one := fun e => by rw [e]; exact (h _).2
  mv := fun _ e => e

/-- A slice's value reads as xs. -/
def Sl {α : Type} (R : Rp α) (L : List Nat) (w : World) (v : Value) (xs : List α) : Prop :=
  ∃ A c, v = .slice A xs.length c ∧ xs.length ≤ c ∧ c ≤ maxLen ∧ (A = none → c = 0) ∧
    ∀ a, A = some a → (0 < xs.length → a.spot = none) ∧ ∀ j (h : j < xs.length), a.block ∉ L ∧ ∃ cs, R.rd L w xs[j] cs ∧ ∀ i u, cs[i]? = some u → w.cell? ⟨a.block, a.off + (j * R.k + i), none⟩ = some u

theorem Sl.mv {α : Type} {R : Rp α} {L L' : List Nat} {w w' : World} {v : Value} {xs : List α} (h : Sl R L w v xs) (m : Mv L L' w w') : Sl R L' w' v xs := by
  obtain ⟨A, c, hv, hc, hm, hn, ha⟩ := h
  refine ⟨A, c, hv, hc, hm, hn, fun a e => ⟨(ha a e).1, fun j hj => ?_⟩⟩
  obtain ⟨hl, cs, hr, hcell⟩ := (ha a e).2 j hj
  have hp : 0 < cs.length := by rw [R.len hr]; exact R.kp
  have h0 := hcell 0 cs[0] (List.getElem?_eq_getElem hp)
  have hb : a.block < w.heap.size := World.block_lt_of_cell? w ⟨a.block, a.off + (j * R.k + 0), none⟩ h0
  exact ⟨(m _ hb hl).2, cs, R.mv m hr, fun i u hu => (World.cell?_of_block (a := ⟨a.block, _, none⟩) (m _ hb hl).1).trans (hcell i u hu)⟩
theorem Sl.fr {α : Type} {R : Rp α} {L : List Nat} {w w' : World} {v : Value} {xs : List α} (h : Sl R L w v xs) (f : Fr [] w w') : Sl R L w' v xs := h.mv f.mv0
theorem Sl.frM {α : Type} {R : Rp α} {M L : List Nat} {w w' : World} {v : Value} {xs : List α} (h : Sl R L w v xs) (f : Fr M w w') (hM : ∀ b, b ∈ M → b ∈ L) : Sl R L w' v xs := h.mv (f.mv hM)
theorem Sl.less {α : Type} {R : Rp α} {L L' : List Nat} {w : World} {v : Value} {xs : List α} (h : Sl R L w v xs) (hL : ∀ b, b ∈ L' → b ∈ L) : Sl R L' w v xs := h.mv (Mv.less hL)
theorem Sl.any {α : Type} {R : Rp α} {L : List Nat} {w : World} {v : Value} {xs : List α} (h : Sl R L w v xs) : Sl R [] w v xs := h.less (fun _ hb => by cases hb)
theorem Sl.nil {α : Type} (R : Rp α) (L : List Nat) (w : World) : Sl R L w (.slice none 0 0) [] := ⟨none, 0, rfl, Nat.le_refl _, Nat.zero_le _, fun _ => rfl, fun a h => by cases h⟩
theorem Sl.len_le {α : Type} {R : Rp α} {L : List Nat} {w : World} {v : Value} {xs : List α} (h : Sl R L w v xs) : xs.length ≤ 9223372036854775807 := by
  obtain ⟨A, c, hv, hc, hm, _⟩ := h
  simp only [maxLen] at hm
  omega
/-- Opened: its value written out. -/
theorem Sl.form {α : Type} {R : Rp α} {L : List Nat} {w : World} {v : Value} {xs : List α} (h : Sl R L w v xs) : ∃ A c, v = .slice A xs.length c ∧ xs.length ≤ c ∧ c ≤ 9223372036854775807 ∧ Sl R L w (.slice A xs.length c) xs := by
  obtain ⟨A, c, rfl, hc, hm, hr⟩ := h
  exact ⟨A, c, rfl, hc, by simpa [maxLen] using hm, A, c, rfl, hc, hm, hr⟩
theorem Sl.elem {α : Type} {R : Rp α} {L : List Nat} {w : World} {A : Option Addr} {n c : Nat} {xs : List α} (h : Sl R L w (.slice A n c) xs) {j : Nat} (hj : j < xs.length) :
    ∃ b o, A = some ⟨b, o, none⟩ ∧ b < w.heap.size ∧ b ∉ L ∧ ∃ cs, R.rd L w xs[j] cs ∧ ∀ i u, cs[i]? = some u → w.cell? ⟨b, o + (j * R.k + i), none⟩ = some u := by
  obtain ⟨A', c', hv, hc, hm, hn, ha⟩ := h
  injection hv with h1 h2 h3
  subst h1 h2 h3
  rcases A with _ | ⟨b, o, sp⟩
  · have := hn rfl
    omega
  · obtain ⟨hs, hx⟩ := ha _ rfl
    have hs : sp = none := hs (by omega)
    subst hs
    obtain ⟨hl, cs, hr, hcell⟩ := hx j hj
    have hp : 0 < cs.length := by rw [R.len hr]; exact R.kp
    exact ⟨b, o, rfl, World.block_lt_of_cell? w _ (hcell 0 cs[0] (List.getElem?_eq_getElem hp)), hl, cs, hr, hcell⟩

/-- A list as the datum of one cell. -/
def Rp.sl {α : Type} (R : Rp α) : Rp (List α) where
  k := 1
  rd := fun L w xs cs => ∃ v, cs = [v] ∧ Sl R L w v xs
  kp := Nat.one_pos
  len := fun ⟨v, e, _⟩ => by rw [e]; rfl
  one := fun ⟨v, e, _, _, hv, _⟩ u hu => by
    rw [e, hv] at hu
    obtain rfl := List.mem_singleton.1 hu
    rfl
  mv := fun m ⟨v, e, h⟩ => ⟨v, e, h.mv m⟩
def Rp.pair {α β : Type} (R : Rp α) (S : Rp β) : Rp (α × β) where
  k := R.k + S.k
  rd := fun L w p cs => ∃ c d, cs = c ++ d ∧ R.rd L w p.1 c ∧ S.rd L w p.2 d
  kp := by have := R.kp; omega
  len := fun ⟨c, d, e, h1, h2⟩ => by rw [e, List.length_append, R.len h1, S.len h2]
  one := fun ⟨c, d, e, h1, h2⟩ u hu => by
    rw [e] at hu
    rcases List.mem_append.1 hu with hu | hu
    · exact R.one h1 u hu
    · exact S.one h2 u hu
  mv := fun m ⟨c, d, e, h1, h2⟩ => ⟨c, d, e, R.mv m h1, S.mv m h2⟩
def Rp.map {α β : Type} (R : Rp β) (f : α → β) : Rp α where
  k := R.k
  rd := fun L w a cs => R.rd L w (f a) cs
  kp := R.kp
  len := fun h => R.len h
  one := fun h => R.one h
  mv := fun m h => R.mv m h

def byteR : Rp UInt8 := Rp.flat 1 (by decide) (fun b => [.int .u8 b.toNat]) (fun _ => ⟨rfl, by simp [Value.oneCell']⟩)
def intR : Rp Int := Rp.flat 1 (by decide) (fun n => [.int .i64 n]) (fun _ => ⟨rfl, by simp [Value.oneCell']⟩)
def boolR : Rp Bool := Rp.flat 1 (by decide) (fun b => [.bool b]) (fun _ => ⟨rfl, by simp [Value.oneCell']⟩)
def strR : Rp ByteArray := Rp.flat 1 (by decide) (fun s => [.string s]) (fun _ => ⟨rfl, by simp [Value.oneCell']⟩)

theorem Sl.at1 {α : Type} {enc : α → List Value} {h1 : ∀ a, (enc a).length = 1 ∧ ∀ u ∈ enc a, u.oneCell' = true} {L : List Nat} {w : World} {A : Option Addr} {n c : Nat} {xs : List α} (h : Sl (Rp.flat 1 (by decide) enc h1) L w (.slice A n c) xs) {j : Nat} (hj : j < xs.length) :
    ∃ b o, A = some ⟨b, o, none⟩ ∧ b < w.heap.size ∧ b ∉ L ∧ w.cell? ⟨b, o + j, none⟩ = (enc xs[j])[0]? := by
  obtain ⟨b, o, hA, hb, hl, cs, hr, hc⟩ := h.elem hj
  have hr' : cs = enc xs[j] := hr
  subst hr'
  refine ⟨b, o, hA, hb, hl, ?_⟩
  have hp : 0 < (enc xs[j]).length := by rw [(h1 _).1]; exact Nat.one_pos
  have := hc 0 _ (List.getElem?_eq_getElem hp)
  have e : o + (j * (Rp.flat 1 (by decide) enc h1).k + 0) = o + j := by show o + (j * 1 + 0) = o + j; omega
  rw [e] at this
  rw [this, List.getElem?_eq_getElem hp]
theorem Sl.byteAt {L : List Nat} {w : World} {A : Option Addr} {n c : Nat} {xs : List UInt8} (h : Sl byteR L w (.slice A n c) xs) {j : Nat} (hj : j < xs.length) :
    ∃ b o, A = some ⟨b, o, none⟩ ∧ b < w.heap.size ∧ b ∉ L ∧ w.cell? ⟨b, o + j, none⟩ = some (.int .u8 xs[j].toNat) := h.at1 hj
theorem Sl.intAt {L : List Nat} {w : World} {A : Option Addr} {n c : Nat} {xs : List Int} (h : Sl intR L w (.slice A n c) xs) {j : Nat} (hj : j < xs.length) :
    ∃ b o, A = some ⟨b, o, none⟩ ∧ b < w.heap.size ∧ b ∉ L ∧ w.cell? ⟨b, o + j, none⟩ = some (.int .i64 xs[j]) := h.at1 hj
theorem Sl.boolAt {L : List Nat} {w : World} {A : Option Addr} {n c : Nat} {xs : List Bool} (h : Sl boolR L w (.slice A n c) xs) {j : Nat} (hj : j < xs.length) :
    ∃ b o, A = some ⟨b, o, none⟩ ∧ b < w.heap.size ∧ b ∉ L ∧ w.cell? ⟨b, o + j, none⟩ = some (.bool xs[j]) := h.at1 hj
theorem Sl.strAt {L : List Nat} {w : World} {A : Option Addr} {n c : Nat} {xs : List ByteArray} (h : Sl strR L w (.slice A n c) xs) {j : Nat} (hj : j < xs.length) :
    ∃ b o, A = some ⟨b, o, none⟩ ∧ b < w.heap.size ∧ b ∉ L ∧ w.cell? ⟨b, o + j, none⟩ = some (.string xs[j]) := h.at1 hj
theorem Sl.slAt {α : Type} {R : Rp α} {L : List Nat} {w : World} {A : Option Addr} {n c : Nat} {xs : List (List α)} (h : Sl R.sl L w (.slice A n c) xs) {j : Nat} (hj : j < xs.length) :
    ∃ b o v, A = some ⟨b, o, none⟩ ∧ b < w.heap.size ∧ b ∉ L ∧ w.cell? ⟨b, o + j, none⟩ = some v ∧ Sl R L w v xs[j] := by
  obtain ⟨b, o, hA, hb, hl, cs, ⟨v, rfl, hv⟩, hc⟩ := h.elem hj
  have := hc 0 v rfl
  have e : o + (j * (Rp.sl R).k + 0) = o + j := by show o + (j * 1 + 0) = o + j; omega
  rw [e] at this
  exact ⟨b, o, v, hA, hb, hl, this, hv⟩

/-- s[:m] -/
theorem Sl.take {α : Type} {R : Rp α} {L : List Nat} {w : World} {A : Option Addr} {n c : Nat} {xs : List α} (h : Sl R L w (.slice A n c) xs) {m : Nat} (hm : m ≤ xs.length) : Sl R L w (.slice A m c) (xs.take m) := by
  obtain ⟨A', c', hv, hc, hmx, hn, ha⟩ := h
  injection hv with h1 h2 h3
  subst h1 h2 h3
  have hl : (xs.take m).length = m := by rw [List.length_take]; omega
  refine ⟨A, c, by rw [hl], by omega, hmx, hn, fun a e => ⟨fun h0 => (ha a e).1 (by omega), fun j hj => ?_⟩⟩
  have hj' : j < xs.length := by omega
  have := (ha a e).2 j hj'
  rwa [List.getElem_take]

/-! ### 3. Rows that the call owns -/

def Els {α : Type} (R : Rp α) (L : List Nat) (w : World) : List α → List Value → Prop
  | [], cs => cs = []
  | x :: xs, cs => ∃ c r, cs = c ++ r ∧ R.rd L w x c ∧ Els R L w xs r
theorem Els.mv {α : Type} {R : Rp α} {L L' : List Nat} {w w' : World} (m : Mv L L' w w') : ∀ {xs : List α} {cs : List Value}, Els R L w xs cs → Els R L' w' xs cs
  | [], _, h => h
  | _ :: _, _, ⟨c, r, e, h1, h2⟩ => ⟨c, r, e, R.mv m h1, Els.mv m h2⟩
theorem Els.len {α : Type} {R : Rp α} {L : List Nat} {w : World} : ∀ {xs : List α} {cs : List Value}, Els R L w xs cs → cs.length = xs.length * R.k
  | [], _, h => by rw [h]; simp
  | _ :: xs, _, ⟨c, r, e, h1, h2⟩ => by rw [e, List.length_append, R.len h1, Els.len h2, List.length_cons, Nat.add_mul]; omega
theorem Els.append {α : Type} {R : Rp α} {L : List Nat} {w : World} : ∀ {xs ys : List α} {cs ds : List Value}, Els R L w xs cs → Els R L w ys ds → Els R L w (xs ++ ys) (cs ++ ds)
  | [], _, _, _, h, k => by cases h; exact k
  | _ :: _, _, _, _, ⟨c, r, e, h1, h2⟩, k => ⟨c, r ++ _, by rw [e, List.append_assoc], h1, Els.append h2 k⟩
theorem Els.one {α : Type} {R : Rp α} {L : List Nat} {w : World} {x : α} {c : List Value} (h : R.rd L w x c) : Els R L w [x] c := ⟨c, [], by simp, h, rfl⟩
theorem Els.get {α : Type} {R : Rp α} {L : List Nat} {w : World} : ∀ {xs : List α} {cs : List Value}, Els R L w xs cs → ∀ {j : Nat} (hj : j < xs.length), ∃ c, R.rd L w xs[j] c ∧ ∀ i u, c[i]? = some u → cs[j * R.k + i]? = some u
  | x :: xs, _, ⟨c, r, e, h1, h2⟩, 0, _ => ⟨c, h1, fun i u hu => by
      rw [e, Nat.zero_mul, Nat.zero_add, List.getElem?_append_left (List.getElem?_eq_some_iff.1 hu).1]; exact hu⟩
  | x :: xs, _, ⟨c, r, e, h1, h2⟩, j + 1, hj => by
      obtain ⟨d, hd, hg⟩ := Els.get h2 (j := j) (by simpa using hj)
      refine ⟨d, by simpa using hd, fun i u hu => ?_⟩
      rw [e, List.getElem?_append_right (by rw [R.len h1, Nat.add_mul]; omega), R.len h1]
      have : (j + 1) * R.k + i - R.k = j * R.k + i := by rw [Nat.add_mul]; omega
      rw [this]
      exact hg i u hu
theorem Els.of {α : Type} {R : Rp α} {L : List Nat} {w : World} : ∀ {xs : List α}, (∀ j (h : j < xs.length), ∃ c, R.rd L w xs[j] c) → ∃ cs, Els R L w xs cs
  | [], _ => ⟨[], rfl⟩
  | x :: xs, h => by
    obtain ⟨c, hc⟩ := h 0 (by simp)
    obtain ⟨r, hr⟩ := Els.of (xs := xs) (fun j hj => h (j + 1) (by simpa using hj))
    exact ⟨c ++ r, c, r, rfl, hc, hr⟩
/-- Flat: the cells are known. -/
theorem Els.flat {α : Type} {k : Nat} {kp : 0 < k} {enc : α → List Value} {h1 : ∀ a, (enc a).length = k ∧ ∀ u ∈ enc a, u.oneCell' = true} {L : List Nat} {w : World} : ∀ (xs : List α), Els (Rp.flat k kp enc h1) L w xs (xs.flatMap enc)
  | [] => rfl
  | x :: xs => ⟨enc x, xs.flatMap enc, rfl, rfl, Els.flat xs⟩

def ob (v : Value) : List Nat := v.ownBlock.toList
theorem ob_mem {v : Value} {b : Nat} : b ∈ ob v ↔ v.ownBlock = some b := by unfold ob; cases v.ownBlock <;> simp [eq_comm]

/-- v is a row of type e that the call owns (its block from B on, none of L), reads as xs; what it leads to lies outside L and outside itself. -/
def Ow {α : Type} (R : Rp α) (L : List Nat) (B : Nat) (w : World) (e : TypeId) (v : Value) (xs : List α) : Prop :=
  ∃ cs, w.ownsRow B e R.k v xs.length cs ∧ Els R (ob v ++ L) w xs cs ∧ ∀ b, v.ownBlock = some b → b ∉ L

theorem Ow.nil {α : Type} (R : Rp α) (L : List Nat) (B : Nat) (w : World) (e : TypeId) : Ow R L B w e (.slice none 0 0) [] := ⟨[], World.ownsRow_nil _ _ _ _, rfl, fun b h => by cases h⟩
theorem Ow.lt {α : Type} {R : Rp α} {L : List Nat} {B : Nat} {w : World} {e : TypeId} {v : Value} {xs : List α} (h : Ow R L B w e v xs) : ∀ b, v.ownBlock = some b → B ≤ b ∧ b < w.heap.size := by
  obtain ⟨cs, h1, _⟩ := h
  exact h1.lt
theorem Ow.form {α : Type} {R : Rp α} {L : List Nat} {B : Nat} {w : World} {e : TypeId} {v : Value} {xs : List α} (h : Ow R L B w e v xs) : ∃ A c, v = .slice A xs.length c := by
  obtain ⟨cs, h1, _⟩ := h
  rcases h1.2 with ⟨rfl, hn⟩ | ⟨g, cap, cur, rfl, _⟩
  · exact ⟨none, 0, by rw [hn]⟩
  · exact ⟨_, cap, rfl⟩
theorem Ow.len_le {α : Type} {R : Rp α} {L : List Nat} {B : Nat} {w : World} {e : TypeId} {v : Value} {xs : List α} (h : Ow R L B w e v xs) : xs.length ≤ 9223372036854775807 := by
  obtain ⟨cs, h1, _⟩ := h
  rcases h1.2 with ⟨_, hn⟩ | ⟨g, cap, cur, _, _, _, h2, h3, _⟩
  · omega
  · simp only [maxLen] at h3
    omega
/-- It lives on where its block doesn't turn. -/
theorem Ow.mv {α : Type} {R : Rp α} {L L' : List Nat} {B : Nat} {w w' : World} {e : TypeId} {v : Value} {xs : List α} (h : Ow R L B w e v xs) (m : Mv L L' w w') : Ow R L' B w' e v xs := by
  obtain ⟨cs, h1, h2, h3⟩ := h
  have hlt := h1.lt
  refine ⟨cs, ⟨h1.1, ?_⟩, h2.mv (fun b hb hl => ?_), fun b hb => (m b (hlt b hb).2 (h3 b hb)).2⟩
  · rcases h1.2 with hn | ⟨g, cap, cur, rfl, hb, hg, r⟩
    · exact .inl hn
    · exact .inr ⟨g, cap, cur, rfl, hb, (m g (hlt g rfl).2 (h3 g rfl)).1.trans hg, r⟩
  · have h4 := m b hb (fun hx => hl (by simp [hx]))
    exact ⟨h4.1, fun hx => by rcases List.mem_append.1 hx with h5 | h5 <;> first | exact h4.2 h5 | exact hl (List.mem_append.2 (.inl h5))⟩
theorem Ow.fr {α : Type} {R : Rp α} {L : List Nat} {B : Nat} {w w' : World} {e : TypeId} {v : Value} {xs : List α} (h : Ow R L B w e v xs) (f : Fr [] w w') : Ow R L B w' e v xs := h.mv f.mv0
theorem Ow.frM {α : Type} {R : Rp α} {M L : List Nat} {B : Nat} {w w' : World} {e : TypeId} {v : Value} {xs : List α} (h : Ow R L B w e v xs) (f : Fr M w w') (hM : ∀ b, b ∈ M → b ∈ L) : Ow R L B w' e v xs := h.mv (f.mv hM)
theorem Ow.alloc {α : Type} {R : Rp α} {L : List Nat} {B : Nat} {w : World} {e : TypeId} {v : Value} {xs : List α} (h : Ow R L B w e v xs) (o : Obj) : Ow R L B (w.alloc o) e v xs := h.fr ((Fr.refl _ _).alloc o)
/-- It reads. -/
theorem Ow.sl {α : Type} {R : Rp α} {L : List Nat} {B : Nat} {w : World} {e : TypeId} {v : Value} {xs : List α} (h : Ow R L B w e v xs) : Sl R L w v xs := by
  obtain ⟨cs, h1, h2, h3⟩ := h
  rcases h1.2 with ⟨rfl, hn⟩ | ⟨g, cap, cur, rfl, hb, hg, hnc, hcm, hcs, ht⟩
  · obtain rfl := List.eq_nil_of_length_eq_zero hn
    exact Sl.nil R L w
  · refine ⟨some ⟨g, 0, none⟩, cap, rfl, hnc, hcm, (fun h => by cases h), fun a ha => ?_⟩
    injection ha with ha
    subst ha
    refine ⟨fun _ => rfl, fun j hj => ⟨h3 g rfl, ?_⟩⟩
    obtain ⟨c, hc, hget⟩ := h2.get hj
    refine ⟨c, R.mv (Mv.less (fun b hb => by simp [hb])) hc, fun i u hu => ?_⟩
    have := h1.cells (g := g) rfl (j * R.k + i) u (hget i u hu)
    have e1 : (⟨g, 0, none⟩ : Addr).add (j * R.k + i) = ⟨g, 0 + (j * R.k + i), none⟩ := by unfold Addr.add; split <;> simp_all
    rwa [e1] at this
/-- Of what reads, the cells as one list. -/
theorem Sl.els {α : Type} {R : Rp α} {L : List Nat} {w : World} {A : Option Addr} {n c : Nat} {xs : List α} (h : Sl R L w (.slice A n c) xs) :
    ∃ cs, Els R L w xs cs ∧ ∀ a, A = some a → ∀ j u, cs[j]? = some u → w.cell? ⟨a.block, a.off + j, none⟩ = some u := by
  obtain ⟨A', c', hv, hc, hm, hn, ha⟩ := h
  injection hv with h1 h2 h3
  subst h1 h2 h3
  rcases A with _ | ad
  · obtain rfl : xs = [] := List.eq_nil_of_length_eq_zero (by have := hn rfl; omega)
    exact ⟨[], rfl, fun a h => by cases h⟩
  have hx := (ha ad rfl).2
  clear ha hn hm
  suffices H : ∀ (ys : List α) (p : Nat), (∀ j (h : j < ys.length), ∃ cs, R.rd L w ys[j] cs ∧ ∀ i u, cs[i]? = some u → w.cell? ⟨ad.block, ad.off + (p + j) * R.k + i, none⟩ = some u) →
      ∃ cs, Els R L w ys cs ∧ ∀ j u, cs[j]? = some u → w.cell? ⟨ad.block, ad.off + p * R.k + j, none⟩ = some u by
    obtain ⟨cs, h1, h2⟩ := H xs 0 (fun j hj => by
      obtain ⟨_, cs, hr, hcell⟩ := hx j hj
      exact ⟨cs, hr, fun i u hu => by rw [Nat.zero_add, Nat.add_assoc]; exact hcell i u hu⟩)
    exact ⟨cs, h1, fun a e j u hu => by injection e with e; subst e; have := h2 j u hu; rwa [Nat.zero_mul, Nat.add_zero] at this⟩
  intro ys
  induction ys with
  | nil => intro p _; exact ⟨[], rfl, fun j u hu => by simp at hu⟩
  | cons y ys ih =>
    intro p hp
    obtain ⟨c, hr, hcell⟩ := hp 0 (by simp)
    obtain ⟨r, h1, h2⟩ := ih (p + 1) (fun j hj => by
      obtain ⟨d, hd, hg⟩ := hp (j + 1) (by simpa using hj)
      refine ⟨d, by simpa using hd, fun i u hu => ?_⟩
      have := hg i u hu
      rwa [show p + (j + 1) = p + 1 + j by omega] at this)
    refine ⟨c ++ r, ⟨c, r, rfl, hr, h1⟩, fun j u hu => ?_⟩
    rcases Nat.lt_or_ge j c.length with hj | hj
    · rw [List.getElem?_append_left hj] at hu
      exact hcell j u hu
    · rw [List.getElem?_append_right hj] at hu
      have := h2 _ u hu
      rw [R.len hr] at this hj
      rwa [show ad.off + (p + 1) * R.k + (j - R.k) = ad.off + p * R.k + j by rw [Nat.add_mul]; omega] at this

/-- A literal's slice: its cells lie in a new block. -/
theorem Sl.lit {α : Type} {R : Rp α} {L : List Nat} {w : World} {xs : List α} {cs : List Value} (h : Els R L w xs cs) (e : TypeId) (hL : ∀ b, b ∈ L → b < w.heap.size) (hn : xs.length ≤ maxLen) :
    Sl R L (w.alloc (.cells cs.toArray e)) (.slice (some ⟨w.heap.size, 0, none⟩) xs.length xs.length) xs := by
  refine ⟨some ⟨w.heap.size, 0, none⟩, xs.length, rfl, Nat.le_refl _, hn, (fun h => by cases h), fun a ha => ?_⟩
  injection ha with ha
  subst ha
  refine ⟨fun _ => rfl, fun j hj => ⟨fun hx => absurd (hL _ hx) (Nat.lt_irrefl _), ?_⟩⟩
  obtain ⟨c, hc, hg⟩ := h.get hj
  refine ⟨c, R.mv ((Fr.refl [] w).alloc _).mv0 hc, fun i u hu => ?_⟩
  rw [blk_cell (blk_new w _)]
  simpa using hg i u hu
theorem Ow.lit {α : Type} {R : Rp α} {L : List Nat} {w : World} {xs : List α} {cs : List Value} (h : Els R L w xs cs) (B : Nat) (hB : B ≤ w.heap.size) (e : TypeId) (hL : ∀ b, b ∈ L → b < w.heap.size) (hn : xs.length ≤ maxLen) :
    Ow R L B (w.alloc (.cells cs.toArray e)) e (.slice (some ⟨w.heap.size, 0, none⟩) xs.length xs.length) xs := by
  have ho := World.ownsRow_lit (base := B) (e := e) (size := R.k) w cs.toArray xs.length hB hn (by simpa using h.len)
  refine ⟨cs, by simpa using ho, h.mv (fun b hb hl => ⟨Below.heap_alloc _ _ _ hb, fun hx => ?_⟩), fun b hb hx => ?_⟩
  · rcases List.mem_append.1 hx with hx | hx
    · have := ob_mem.1 hx
      simp [Value.ownBlock] at this
      omega
    · exact hl hx
  · simp [Value.ownBlock] at hb
    have := hL b hx
    omega

/-! ### 4. append -/
section
variable {P : Program} {α : Type}
/-- append(v, u...), u whatever reads. -/
theorem run_ap (R : Rp α) {L : List Nat} {B : Nat} {W : World} (t ty e : TypeId) (z : Value) (bytes : Nat) (ht : P.underlying t = some (.slice e)) (hinfo : (P.info? e).map (fun i => (i.zero, i.size, i.bytes)) = some (some z, R.k, bytes)) (hz : z.cells.size = R.k) (hb0 : 0 < bytes)
    {v : Value} {xs : List α} (HO : Ow R L B W e v xs) {u : Value} {ys : List α} (hy : Sl R (ob v ++ L) W u ys) (hB : B ≤ W.heap.size) (hL : ∀ b, b ∈ L → b < W.heap.size) (hl : (xs.length + ys.length) * bytes ≤ 140737488355328) :
    ∃ v1 w1, (Builtin.append_ #[t, t] ty #[v, u]).run P W = .ok v1 w1 ∧ Ow R L B w1 e v1 (xs ++ ys) ∧ Mv (ob v ++ L) (ob v1 ++ L) W w1 ∧ Fr (ob v) W w1 := by
  obtain ⟨i0, hi, hzz⟩ := Option.map_eq_some_iff.1 hinfo
  simp only [Prod.mk.injEq] at hzz
  obtain ⟨hz0, hz1, hz2⟩ := hzz
  have hlen : xs.length + ys.length ≤ 140737488355328 := Nat.le_trans (Nat.le_mul_of_pos_right _ hb0) hl
  obtain ⟨cs, hown, hels, hnl⟩ := HO
  obtain ⟨A, c, rfl, hc, hm, hn, ha⟩ := id hy
  obtain ⟨ds, hds, hcell⟩ := hy.els
  rcases A with _ | ad
  · have hc0 := hn rfl
    subst hc0
    obtain rfl : ys = [] := List.eq_nil_of_length_eq_zero (by omega)
    refine ⟨v, W, run_append_owned_none W B t ty e i0 R.k ht hi v _ cs hown, ?_, Mv.less (fun b hb => hb), Fr.refl _ _⟩
    rw [List.append_nil]
    exact ⟨cs, hown, hels, hnl⟩
  · have hsp := (ha ad rfl).1
    have hnews : ∀ j u, ds[j]? = some u → W.cell? (ad.add j) = some u := fun j u hu => by
      have h1 := hcell ad rfl j u hu
      have hsp := hsp (by
        have hl0 := hds.len
        have hj := (List.getElem?_eq_some_iff.1 hu).1
        rcases Nat.eq_zero_or_pos ys.length with h0 | h0
        · rw [h0, Nat.zero_mul] at hl0; omega
        · exact h0)
      have e1 : ad.add j = ⟨ad.block, ad.off + j, none⟩ := by
        unfold Addr.add
        split
        · rename_i h0
          subst h0
          cases ad
          simp_all
        · rfl
      rw [e1]
      exact h1
    have hone : ∀ u ∈ ds, u.oneCell' = true := by
      clear hcell hnews hy
      suffices H : ∀ (ys : List α) (ds : List Value), Els R (ob v ++ L) W ys ds → ∀ u ∈ ds, u.oneCell' = true from H ys ds hds
      intro ys
      induction ys with
      | nil => intro ds h u hu; rw [show ds = [] from h] at hu; cases hu
      | cons y ys ih =>
        intro ds h u hu
        obtain ⟨c, r, e, h1, h2⟩ := h
        rw [e] at hu
        rcases List.mem_append.1 hu with hu | hu
        · exact R.one h1 u hu
        · exact ih r h2 u hu
    obtain ⟨v1, w1, hr, hown1, hg, _, hat⟩ := run_append_own_at (P := P) W B t ty e i0 z R.k bytes ht hi hz0 hz1 hz2 hz R.kp v xs.length cs hown ad ys.length c ds hds.len hnews hone (by simp only [maxLen]; omega) hl hB
    have hfr : Fr (ob v) W w1 := (Fr.refl _ W).grown hg (fun k hk => .inl (ob_mem.2 hk))
    have hlt := hown.lt
    have hmv : Mv (ob v ++ L) (ob v1 ++ L) W w1 := fun b hb hl => ⟨hfr.block b hb (fun hx => hl (by simp [hx])), fun hx => by
      rcases List.mem_append.1 hx with hx | hx
      · have hx := ob_mem.1 hx
        rcases hat with hat | hat
        · exact hl (List.mem_append.2 (.inl (ob_mem.2 (by rw [← hat]; exact hx))))
        · rw [hat] at hx
          injection hx with hx
          omega
      · exact hl (List.mem_append.2 (.inr hx))⟩
    refine ⟨v1, w1, hr, ⟨cs ++ ds, by rw [List.length_append]; exact hown1, Els.append (hels.mv hmv) (hds.mv hmv), fun b hb hx => ?_⟩, hmv, hfr⟩
    rcases hat with hat | hat
    · exact hnl b (by rw [← hat]; exact hb) hx
    · rw [hat] at hb
      injection hb with hb
      have := hL b hx
      omega
/-- At the operation, for the walk. -/
theorem wp_ap (R : Rp α) {L : List Nat} {B : Nat} {W : World} {ops : Array Oper} {rest : List Oper} {o : Oper} {a : Act} {Q : Exit → Act → World → Prop} (hgd : o.guard = none) (s x : Operand) (t e : TypeId) (z : Value) (bytes : Nat)
    (ho : o.op = .call { callee := .builtin .append, args := #[s, x], argTypes := #[t, t] })
    (ht : P.underlying t = some (.slice e)) (hinfo : (P.info? e).map (fun i => (i.zero, i.size, i.bytes)) = some (some z, R.k, bytes)) (hz : z.cells.size = R.k) (hb0 : 0 < bytes)
    {v : Value} {xs : List α} {u : Value} {ys : List α} (HO : Ow R L B W e v xs) (hy : Sl R (ob v ++ L) W u ys)
    (h : ∀ v1 w1, Ow R L B w1 e v1 (xs ++ ys) → Mv (ob v ++ L) (ob v1 ++ L) W w1 → Fr (ob v) W w1 → wpList P ops Q rest (a.put o.dst v1) w1)
    (hs : a.eval s = v) (hx : a.eval x = u) (hB : B ≤ W.heap.size) (hL : ∀ b, b ∈ L → b < W.heap.size) (hl : (xs.length + ys.length) * bytes ≤ 140737488355328) : wpList P ops Q (o :: rest) a W := by
  refine wpList_plain hgd fun K hK => ?_
  obtain ⟨v1, w1, hr, h1, h2, h3⟩ := run_ap (P := P) R t o.type e z bytes ht hinfo hz hb0 HO hy hB hL hl
  unfold Oper.wp execOp
  simp only [ho, resolve, invoke, builtin, Sem.run_bind, Sem.run_pure, Result.andThen_ok, List.map_toArray, List.map_cons, List.map_nil, hs, hx, hr]
  exact hK _ _ (h v1 w1 h1 h2 h3)
/-- An append whose run is known. -/
theorem wp_apRun {W w1 : World} {ops : Array Oper} {rest : List Oper} {o : Oper} {a : Act} {Q : Exit → Act → World → Prop} (hgd : o.guard = none) (s x : Operand) (t tx : TypeId)
    (ho : o.op = .call { callee := .builtin .append, args := #[s, x], argTypes := #[t, tx] }) {v u v1 : Value} (hs : a.eval s = v) (hx : a.eval x = u)
    (hr : (Builtin.append_ #[t, tx] o.type #[v, u]).run P W = .ok v1 w1) (h : wpList P ops Q rest (a.put o.dst v1) w1) : wpList P ops Q (o :: rest) a W := by
  refine wpList_plain hgd fun K hK => ?_
  unfold Oper.wp execOp
  simp only [ho, resolve, invoke, builtin, Sem.run_bind, Sem.run_pure, Result.andThen_ok, List.map_toArray, List.map_cons, List.map_nil, hs, hx, hr]
  exact hK _ _ h
end
theorem Fr.app {M : List Nat} {w0 W w1 : World} {α : Type} {R : Rp α} {L : List Nat} {B : Nat} {e : TypeId} {v : Value} {xs : List α} (h : Fr M w0 W) (HO : Ow R L B W e v xs) (k : Fr (ob v) W w1) (hB : w0.heap.size ≤ B) : Fr M w0 w1 :=
  h.trans' k (fun b hb => .inr (Nat.le_trans hB (HO.lt b (ob_mem.1 hb)).1))
/-- What stood before the call lies outside a row of the call's own. -/
theorem Fr.mvO {w W : World} {α : Type} {R : Rp α} {L L' : List Nat} {B : Nat} {e : TypeId} {v : Value} {xs : List α} (f : Fr [] w W) (HO : Ow R L' B W e v xs) (hB : w.heap.size ≤ B) : Mv L (ob v ++ L) w W := fun b hb hl =>
  ⟨f.block b hb (by simp), fun hx => by
    rcases List.mem_append.1 hx with h1 | h1
    · have := (HO.lt b (ob_mem.1 h1)).1
      omega
    · exact hl h1⟩
/-- A block that came later is avoided by what stood before. -/
theorem Fr.mvNew {w W : World} {L : List Nat} {g : Nat} (f : Fr [] w W) (hg : w.heap.size ≤ g) : Mv L (g :: L) w W := fun b hb hl =>
  ⟨f.block b hb (by simp), fun hx => by
    rcases List.mem_cons.1 hx with h1 | h1
    · omega
    · exact hl h1⟩
/-- A call that turned one's own block. -/
theorem Fr.own {w W W2 : World} {g : Nat} (f : Fr [] w W) (k : Fr [g] W W2) (hg : w.heap.size ≤ g) : Fr [] w W2 := f.trans' k (fun b hb => by
  have := List.mem_singleton.1 hb
  exact .inr (by omega))
theorem lt_mono {L : List Nat} {w w' : World} (h : ∀ b, b ∈ L → b < w.heap.size) (hs : w.heap.size ≤ w'.heap.size) : ∀ b, b ∈ L → b < w'.heap.size := fun b hb => Nat.lt_of_lt_of_le (h b hb) hs
theorem lt_cons {L : List Nat} {g n : Nat} (hg : g < n) (h : ∀ b, b ∈ L → b < n) : ∀ b, b ∈ g :: L → b < n := fun b hb => by
  rcases List.mem_cons.1 hb with rfl | hb
  · exact hg
  · exact h b hb
theorem Mv.sl {α : Type} {R : Rp α} {L L' : List Nat} {w w' : World} (m : Mv L L' w w') {v : Value} {xs : List α} (h : Sl R L w v xs) : Sl R L' w' v xs := h.mv m

/-! ### 5. Small words -/
theorem toList_inj {a b : ByteArray} (h : a.toList = b.toList) : a = b := by
  rw [ByteArray.toList_eq, ByteArray.toList_eq] at h
  cases a; cases b; simp_all [Array.toList_inj]
theorem sbeq_t {a b : ByteArray} (h : a = b) : (a.toList == b.toList) = true := by simp [h]
theorem sbeq_f {a b : ByteArray} (h : ¬ a = b) : (a.toList == b.toList) = false := by
  rw [beq_eq_false_iff_ne]; exact fun e => h (toList_inj e)
theorem take_succ_flatten {α : Type} (l : List (List α)) (k : Nat) (h : k < l.length) : (l.take (k + 1)).flatten = (l.take k).flatten ++ l[k] := by
  rw [List.take_succ_eq_append_getElem h, List.flatten_append]
  simp
theorem take_succ_iff {α : Type} {xs ys : List α} {k : Nat} (h : xs.take k = ys.take k) (h1 : k < xs.length) (h2 : k < ys.length) : xs.take (k + 1) = ys.take (k + 1) ↔ xs[k] = ys[k] := by
  rw [List.take_succ_eq_append_getElem h1, List.take_succ_eq_append_getElem h2, h]
  exact ⟨fun e => by have := List.append_cancel_left e; simpa using this, fun e => by rw [e]⟩
theorem take_flatten_le {α : Type} (l : List (List α)) (k : Nat) : (l.take k).flatten.length ≤ l.flatten.length := by
  have h := congrArg (fun x => x.flatten.length) (List.take_append_drop k l)
  simp only [List.flatten_append, List.length_append] at h
  omega
theorem sl_eq {A : Option Addr} {n m c : Nat} (h : n = m) : Value.slice A n c = .slice A m c := by rw [h]
theorem int_eq {k : IntKind} {a b : Int} (h : a = b) : Value.int k a = .int k b := by rw [h]
theorem ret_int {k : IntKind} {a b : Int} (h : a = b) : Ending.returned (.int k a) = .returned (.int k b) := by rw [h]
theorem ret_bool {a b : Bool} (h : a = b) : Ending.returned (.bool a) = .returned (.bool b) := by rw [h]
theorem ret_str {a b : ByteArray} (h : a = b) : Ending.returned (.string a) = .returned (.string b) := by rw [h]
end Go.Proofs.Ytglccdcdnbannaa
