/- Steps that are found by their form. No statement of the seat. -/
import Derived.Test.YtglccdcdnbannaaSt
import Derived.Lib.SliceRun
set_option linter.unusedVariables false
set_option linter.unusedSimpArgs false
namespace Go.Proofs.Ytglccdcdnbannaa
open Go.RowKit

/-- What an operation yields that changes nothing. -/
class PS (P : Program) (F : List Ent) (o : Oper) (args : List AV) (d : outParam AV) : Prop where
  h : OpF P F o args d
class BoxIn (b : Nat) (F : List Ent) (t : outParam TypeId) (cs : outParam (List AV)) : Prop where
  h : Ent.box b t cs ∈ F
instance BoxIn.here {b : Nat} {t : TypeId} {cs : List AV} {F : List Ent} : BoxIn b (.box b t cs :: F) t cs := ⟨.head _⟩
instance (priority := low) BoxIn.there {b : Nat} {t : TypeId} {cs : List AV} {x : Ent} {F : List Ent} [h : BoxIn b F t cs] : BoxIn b (x :: F) t cs := ⟨.tail _ h.h⟩
class OwnIn (v : Value) (F : List Ent) (t : outParam TypeId) (k : outParam Nat) (xs : outParam (List (List AV))) : Prop where
  h : Ent.own v t k xs ∈ F
instance OwnIn.here {v : Value} {t : TypeId} {k : Nat} {xs : List (List AV)} {F : List Ent} : OwnIn v (.own v t k xs :: F) t k xs := ⟨.head _⟩
instance (priority := low) OwnIn.there {v : Value} {t : TypeId} {k : Nat} {xs : List (List AV)} {x : Ent} {F : List Ent} [h : OwnIn v F t k xs] : OwnIn v (x :: F) t k xs := ⟨.tail _ h.h⟩
class Cell (cs : List AV) (n : Nat) (d : outParam AV) : Prop where
  h : cs[n]? = some d
instance Cell.z {d : AV} {l : List AV} : Cell (d :: l) 0 d := ⟨rfl⟩
instance Cell.s {d x : AV} {l : List AV} {n : Nat} [h : Cell l n d] : Cell (x :: l) (n + 1) d := ⟨by simpa using h.h⟩
/-- n cells from m on. -/
class Cut (cs : List AV) (m n : Nat) (ds : outParam (List AV)) : Prop where
  h : m + n ≤ cs.length ∧ (cs.drop m).take n = ds
instance Cut.z {l : List AV} : Cut l 0 0 [] := ⟨by simp⟩
instance Cut.s {d : AV} {l ds : List AV} {n : Nat} [h : Cut l 0 n ds] : Cut (d :: l) 0 (n + 1) (d :: ds) := ⟨by have := h.h; simp at this ⊢; exact this⟩
instance Cut.d {d : AV} {l ds : List AV} {m n : Nat} [h : Cut l m n ds] : Cut (d :: l) (m + 1) n ds := ⟨by have := h.h; simp only [List.length_cons, List.drop_succ_cons]; exact ⟨by omega, this.2⟩⟩
/-- Cells written from m on. -/
class Put (cs : List AV) (m : Nat) (ds : List AV) (cs' : outParam (List AV)) : Prop where
  h : m + ds.length ≤ cs.length ∧ setA cs m ds = cs'
instance Put.n {l : List AV} : Put l 0 [] l := ⟨by simp [setA]⟩
instance Put.c {d x : AV} {l ds l' : List AV} [h : Put l 0 ds l'] : Put (x :: l) 0 (d :: ds) (d :: l') := ⟨by
  have := h.h
  simp [setA] at this ⊢
  exact this⟩
instance Put.d {x : AV} {l ds l' : List AV} {m : Nat} [h : Put l m ds l'] : Put (x :: l) (m + 1) ds (x :: l') := ⟨by
  have := h.h
  simp only [setA] at this ⊢
  refine ⟨by simp; omega, ?_⟩
  rw [← this.2, show m + 1 + ds.length = (m + ds.length) + 1 by omega]
  simp⟩
class Nz (n : Nat) : Prop where
  h : n ≠ 0
instance {n : Nat} : Nz (n + 1) := ⟨by omega⟩
/-- Cells of a value. -/
class Cells (d : AV) (cs : outParam (List AV)) : Prop where
  h : cellsA d = some cs
instance {cs : List AV} : Cells (.agg cs) cs := ⟨rfl⟩
instance {k : Nat} {xs : List (List AV)} : Cells (.sl k xs) [.sl k xs] := ⟨rfl⟩
instance {cs : List AV} {n : Nat} : Cells (.elt cs n) [.elt cs n] := ⟨rfl⟩
instance {f : Fn} {cs : List AV} : Cells (.fn f cs) [.fn f cs] := ⟨rfl⟩
instance {k : IntKind} {n : Int} : Cells (.raw (.int k n)) [.raw (.int k n)] := ⟨rfl⟩
instance {b : Bool} : Cells (.raw (.bool b)) [.raw (.bool b)] := ⟨rfl⟩
instance {s : ByteArray} : Cells (.raw (.string s)) [.raw (.string s)] := ⟨rfl⟩
instance {p : Option Addr} : Cells (.raw (.pointer p)) [.raw (.pointer p)] := ⟨rfl⟩
instance {A : Option Addr} {n c : Nat} : Cells (.raw (.slice A n c)) [.raw (.slice A n c)] := ⟨rfl⟩
instance {r : Option Nat} : Cells (.raw (.map r)) [.raw (.map r)] := ⟨rfl⟩
instance {r : Option Nat} : Cells (.raw (.chan r)) [.raw (.chan r)] := ⟨rfl⟩
instance {f : Fn} {a b : Array Value} : Cells (.raw (.func f a b)) [.raw (.func f a b)] := ⟨rfl⟩
instance : Cells (.raw .nilFunc) [.raw .nilFunc] := ⟨rfl⟩
instance : Cells (.raw .nilIface) [.raw .nilIface] := ⟨rfl⟩

class Raws (zs : List Value) (rs : outParam (List AV)) : Prop where
  h : zs.map .raw = rs
instance : Raws [] [] := ⟨rfl⟩
instance {z : Value} {zs : List Value} {rs : List AV} [h : Raws zs rs] : Raws (z :: zs) (.raw z :: rs) := ⟨by rw [← h.h]; rfl⟩
class NthP (pl : List (Nat × Nat)) (i : Nat) (off size : outParam Nat) : Prop where
  h : pl[i]? = some (off, size)
instance {off size : Nat} {l : List (Nat × Nat)} : NthP ((off, size) :: l) 0 off size := ⟨rfl⟩
instance {off size i : Nat} {x : Nat × Nat} {l : List (Nat × Nat)} [h : NthP l i off size] : NthP (x :: l) (i + 1) off size := ⟨by simpa using h.h⟩
class LenIs (ds : List AV) (n : Nat) : Prop where
  h : ds.length = n
instance : LenIs [] 0 := ⟨rfl⟩
instance {d : AV} {ds : List AV} {n : Nat} [h : LenIs ds n] : LenIs (d :: ds) (n + 1) := ⟨by simp [h.h]⟩
class FillC (pl : List (Nat × Nat)) (cs : List AV) (ps : List (Nat × Operand)) (ds : List AV) (out : outParam (List AV)) : Prop where
  h : fillA pl cs ps ds = some out
instance {pl : List (Nat × Nat)} {cs : List AV} : FillC pl cs [] [] cs := ⟨rfl⟩
instance {pl : List (Nat × Nat)} {cs cs1 es ds out : List AV} {i off size : Nat} {x : Operand} {ps : List (Nat × Operand)} {d : AV} [h1 : NthP pl i off size] [h2 : Cells d es] [h3 : LenIs es size] [h4 : Put cs off es cs1] [h5 : FillC pl cs1 ps ds out] : FillC pl cs ((i, x) :: ps) (d :: ds) out := ⟨by
  have h4' := h4.h
  have h3' := h3.h
  unfold fillA
  simp only [h1.h, h2.h]
  rw [if_pos ⟨h3', by omega⟩]
  have : cs.take off ++ es ++ cs.drop (off + size) = cs1 := by rw [← h4'.2, ← h3']; rfl
  rw [this]
  exact h5.h⟩
section ps
variable {P : Program} {F : List Ent} {dst : Option Tmp} {ty : TypeId} {pos : String} {af : Array Edge} {g : Option (Nat × Bool)} {x y z : Operand} {d e : AV} {t t' : TypeId}
instance : PS P F ⟨dst, .move x, ty, pos, af, g⟩ [d] d := ⟨opf_move rfl⟩
instance : PS P F ⟨dst, .assign x, ty, pos, af, g⟩ [d] d := ⟨opf_assign rfl⟩
instance : PS P F ⟨dst, .pick z x y, ty, pos, af, g⟩ [.raw (.bool true), d, e] d := ⟨opf_pick_t rfl⟩
instance : PS P F ⟨dst, .pick z x y, ty, pos, af, g⟩ [.raw (.bool false), d, e] e := ⟨opf_pick_f rfl⟩
section bin
variable {k : IntKind} {a b : Int}
instance : PS P F ⟨dst, .binOp .lss t x y t', ty, pos, af, g⟩ [.raw (.int k a), .raw (.int k b)] (.raw (.bool (decide (a < b)))) := ⟨opf_lss rfl⟩
instance : PS P F ⟨dst, .binOp .leq t x y t', ty, pos, af, g⟩ [.raw (.int k a), .raw (.int k b)] (.raw (.bool (decide (a ≤ b)))) := ⟨opf_leq rfl⟩
instance : PS P F ⟨dst, .binOp .gtr t x y t', ty, pos, af, g⟩ [.raw (.int k a), .raw (.int k b)] (.raw (.bool (decide (b < a)))) := ⟨opf_gtr rfl⟩
instance : PS P F ⟨dst, .binOp .geq t x y t', ty, pos, af, g⟩ [.raw (.int k a), .raw (.int k b)] (.raw (.bool (decide (b ≤ a)))) := ⟨opf_geq rfl⟩
instance : PS P F ⟨dst, .binOp .eql t x y t', ty, pos, af, g⟩ [.raw (.int k a), .raw (.int k b)] (.raw (.bool (decide (a = b)))) := ⟨opf_eql rfl⟩
instance : PS P F ⟨dst, .binOp .neq t x y t', ty, pos, af, g⟩ [.raw (.int k a), .raw (.int k b)] (.raw (.bool (decide (a ≠ b)))) := ⟨opf_neq rfl⟩
instance {s s' : ByteArray} : PS P F ⟨dst, .binOp .eql t x y t', ty, pos, af, g⟩ [.raw (.string s), .raw (.string s')] (.raw (.bool (decide (s = s')))) := ⟨opf_eql_s rfl⟩
instance {s s' : ByteArray} : PS P F ⟨dst, .binOp .neq t x y t', ty, pos, af, g⟩ [.raw (.string s), .raw (.string s')] (.raw (.bool (decide (s ≠ s')))) := ⟨opf_neq_s rfl⟩
instance {c c' : Bool} [h : TBool P t] : PS P F ⟨dst, .binOp .eql t x y t', ty, pos, af, g⟩ [.raw (.bool c), .raw (.bool c')] (.raw (.bool (c == c'))) := ⟨opf_eql_b rfl h.h⟩
instance {c c' : Bool} [h : TBool P t] : PS P F ⟨dst, .binOp .neq t x y t', ty, pos, af, g⟩ [.raw (.bool c), .raw (.bool c')] (.raw (.bool (!(c == c')))) := ⟨opf_neq_b rfl h.h⟩
instance {e : TypeId} [h : TPtr P t e] : PS P F ⟨dst, .binOp .eql t x y t', ty, pos, af, g⟩ [.raw (.pointer none), .raw (.pointer none)] (.raw (.bool true)) := ⟨opf_eql_p rfl h.self⟩
instance {q : Addr} {e : TypeId} [h : TPtr P t e] : PS P F ⟨dst, .binOp .eql t x y t', ty, pos, af, g⟩ [.raw (.pointer (some q)), .raw (.pointer none)] (.raw (.bool false)) := ⟨opf_eql_p rfl h.self⟩
instance {e : TypeId} [h : TPtr P t e] : PS P F ⟨dst, .binOp .neq t x y t', ty, pos, af, g⟩ [.raw (.pointer none), .raw (.pointer none)] (.raw (.bool false)) := ⟨opf_neq_p rfl h.self⟩
instance {q : Addr} {e : TypeId} [h : TPtr P t e] : PS P F ⟨dst, .binOp .neq t x y t', ty, pos, af, g⟩ [.raw (.pointer (some q)), .raw (.pointer none)] (.raw (.bool true)) := ⟨opf_neq_p rfl h.self⟩
end bin
instance {c : Bool} : PS P F ⟨dst, .unOp .not t x, ty, pos, af, g⟩ [.raw (.bool c)] (.raw (.bool (!c))) := ⟨opf_not rfl⟩
instance {s : TypeId} {k k' k2 : IntKind} {n : Int} [h : TInt P t k] [h2 : TInt P s k2] : PS P F ⟨dst, .convert s t x, ty, pos, af, g⟩ [.raw (.int k' n)] (.raw (.int k (k.wrap n))) := ⟨by
  have := opf_conv_int (P := P) (F := F) (o := ⟨dst, .convert s t x, ty, pos, af, g⟩) (k := k') (n := n) rfl (by rw [h2.h]; rfl) (by rw [h.h, h.self])
  rwa [h.self] at this⟩
instance {k : Nat} {e : TypeId} {xs : List (List AV)} [h : TSl P t e] : PS P F ⟨dst, .call { callee := .builtin .len, args := #[x], argTypes := #[t] }, ty, pos, af, g⟩ [.sl k xs] (.raw (.int .i64 xs.length)) := ⟨opf_len_sl rfl h.self⟩
instance (priority := high) {β : Type} {k : Nat} {e : TypeId} {ys : List β} {f : β → List AV} [h : TSl P t e] : PS P F ⟨dst, .call { callee := .builtin .len, args := #[x], argTypes := #[t] }, ty, pos, af, g⟩ [.sl k (ys.map f)] (.raw (.int .i64 ys.length)) := ⟨by
  have := opf_len_sl (P := P) (F := F) (o := ⟨dst, .call { callee := .builtin .len, args := #[x], argTypes := #[t] }, ty, pos, af, g⟩) (k := k) (xs := ys.map f) rfl h.self
  rwa [List.length_map] at this⟩
instance {s : ByteArray} [h : TStr P t] : PS P F ⟨dst, .call { callee := .builtin .len, args := #[x], argTypes := #[t] }, ty, pos, af, g⟩ [.raw (.string s)] (.raw (.int .i64 s.size)) := ⟨opf_len_s rfl h.h⟩
instance {e : TypeId} {A : Option Addr} {n c : Nat} [h : TSl P t e] : PS P F ⟨dst, .call { callee := .builtin .len, args := #[x], argTypes := #[t] }, ty, pos, af, g⟩ [.raw (.slice A n c)] (.raw (.int .i64 n)) := ⟨opf_len_r rfl h.self⟩
instance {e : TypeId} {A : Option Addr} {n c : Nat} [h : TSl P t e] : PS P F ⟨dst, .call { callee := .builtin .cap, args := #[x], argTypes := #[t] }, ty, pos, af, g⟩ [.raw (.slice A n c)] (.raw (.int .i64 c)) := ⟨opf_cap_r rfl h.self⟩
instance {ts : Array TypeId} {k : IntKind} {a b : Int} : PS P F ⟨dst, .call { callee := .builtin .min, args := #[x, y], argTypes := ts }, ty, pos, af, g⟩ [.raw (.int k a), .raw (.int k b)] (.raw (.int k (min a b))) := ⟨opf_min rfl⟩
instance {ts : Array TypeId} {k : IntKind} {a b : Int} : PS P F ⟨dst, .call { callee := .builtin .max, args := #[x, y], argTypes := ts }, ty, pos, af, g⟩ [.raw (.int k a), .raw (.int k b)] (.raw (.int k (max a b))) := ⟨opf_max rfl⟩
instance {i : Nat} {ds : List AV} [h : Cell ds i d] : PS P F ⟨dst, .extract x i, ty, pos, af, g⟩ [.tup ds] d := ⟨opf_extract rfl h.h⟩
instance {a : Addr} : PS P F ⟨dst, .nilCheck x, ty, pos, af, g⟩ [.raw (.pointer (some a))] (.raw (.pointer (some a))) := ⟨opf_nilCheck_p rfl⟩
instance {cs : List AV} {n : Nat} : PS P F ⟨dst, .nilCheck x, ty, pos, af, g⟩ [.elt cs n] (.elt cs n) := ⟨opf_nilCheck_e rfl⟩
instance {v : Value} {k i m : Nat} : PS P F ⟨dst, .nilCheck x, ty, pos, af, g⟩ [.eptr v k i m] (.eptr v k i m) := ⟨opf_nilCheck_o rfl⟩
section adr
variable {s f off ft n : Nat}
instance {b : Nat} [TFld P s f off ft] [TSize P ft n] [hn : Nz n] : PS P F ⟨dst, .fieldAddr s x f, ty, pos, af, g⟩ [.raw (.pointer (some ⟨b, 0, none⟩))] (.raw (.pointer (some ⟨b, off, none⟩))) := ⟨by
  have := opf_fieldAddr_p (P := P) (F := F) (o := ⟨dst, .fieldAddr s x f, ty, pos, af, g⟩) (b := b) (p := 0) (s := s) (f := f) (off := off) (ft := ft) rfl hn.h
  rwa [Nat.zero_add] at this⟩
instance {cs : List AV} [TFld P s f off ft] [TSize P ft n] [hn : Nz n] : PS P F ⟨dst, .fieldAddr s x f, ty, pos, af, g⟩ [.elt cs 0] (.elt cs off) := ⟨by
  have := opf_fieldAddr_e (P := P) (F := F) (o := ⟨dst, .fieldAddr s x f, ty, pos, af, g⟩) (cs := cs) (m := 0) (s := s) (f := f) (off := off) (ft := ft) rfl hn.h
  rwa [Nat.zero_add] at this⟩
instance {v : Value} {k i : Nat} [TFld P s f off ft] [TSize P ft n] [hn : Nz n] : PS P F ⟨dst, .fieldAddr s x f, ty, pos, af, g⟩ [.eptr v k i 0] (.eptr v k i off) := ⟨by
  have := opf_fieldAddr_o (P := P) (F := F) (o := ⟨dst, .fieldAddr s x f, ty, pos, af, g⟩) (v := v) (k := k) (i := i) (m := 0) (s := s) (f := f) (off := off) (ft := ft) rfl hn.h
  rwa [Nat.zero_add] at this⟩
instance {cs ds : List AV} [TFld P s f off ft] [TSize P ft n] [TAgg P ft true] [h : Cut cs off n ds] : PS P F ⟨dst, .field s x f, ty, pos, af, g⟩ [.agg cs] (.agg ds) := ⟨by rw [← h.h.2]; exact opf_field_a rfl⟩
instance {cs : List AV} [TFld P s f off ft] [TSize P ft n] [TAgg P ft false] [h : Cell cs off d] : PS P F ⟨dst, .field s x f, ty, pos, af, g⟩ [.agg cs] d := ⟨opf_field rfl h.h⟩
end adr
section loads
variable {n m : Nat} {cs ds : List AV}
instance [TAgg P t false] [h : Cell cs m d] : PS P F ⟨dst, .load t x, ty, pos, af, g⟩ [.elt cs m] d := ⟨opf_load_e (n := 0) rfl h.h⟩
instance [TAgg P t true] [TSize P t n] [h : Cut cs m n ds] : PS P F ⟨dst, .load t x, ty, pos, af, g⟩ [.elt cs m] (.agg ds) := ⟨by rw [← h.h.2]; exact opf_load_ea rfl h.h.1⟩
instance {b p : Nat} {tb : TypeId} [TAgg P t false] [hb : BoxIn b F tb cs] [h : Cell cs p d] : PS P F ⟨dst, .load t x, ty, pos, af, g⟩ [.raw (.pointer (some ⟨b, p, none⟩))] d := ⟨opf_load_b rfl hb.h h.h⟩
instance {b p : Nat} {tb : TypeId} [TAgg P t true] [TSize P t n] [hb : BoxIn b F tb cs] [h : Cut cs p n ds] : PS P F ⟨dst, .load t x, ty, pos, af, g⟩ [.raw (.pointer (some ⟨b, p, none⟩))] (.agg ds) := ⟨by rw [← h.h.2]; exact opf_load_ba rfl hb.h h.h.1⟩
end loads
instance {psl : List (Nat × Operand)} {zs : List Value} {pl : List (Nat × Nat)} {ds cs rs : List AV} [TBuild P t zs pl] [hz : Raws zs rs] [h : FillC pl rs psl ds cs] : PS P F ⟨dst, .build t (List.toArray psl), ty, pos, af, g⟩ ds (.agg cs) := ⟨opf_build (zs := zs) (pl := pl) rfl (by rw [hz.h]; exact h.h)⟩
instance {fn : Fn} : PS P F ⟨dst, .makeFunc fn #[] #[], ty, pos, af, g⟩ [] (.raw (.func fn #[] #[])) := ⟨opf_makeFunc0 rfl⟩
instance {fn : Fn} : PS P F ⟨dst, .makeFunc fn #[] #[x], ty, pos, af, g⟩ [d] (.fn fn [d]) := ⟨opf_makeFunc1 rfl⟩
end ps
instance {n : Nat} {v : Value} : Raws (List.replicate n v) (List.replicate n (.raw v)) := ⟨by simp⟩
/-- Reads as the other too. -/
def Le (d d' : AV) : Prop := ∀ (L : List Nat) (w : World) (v : Value), Rd L w d v → Rd L w d' v
def LeL (ds ds' : List AV) : Prop := ∀ (L : List Nat) (w : World) (vs : List Value), RdL L w ds vs → RdL L w ds' vs
theorem Le.refl (d : AV) : Le d d := fun _ _ _ h => h
theorem Le.nilSl {k : Nat} (hk : 0 < k) : Le (.raw (.slice none 0 0)) (.sl k []) := fun L w v h => by
  rw [h.rawEq]
  exact Rd.of_sl (kp := hk) (Sl.nil _ L w)
theorem LeL.nil : LeL [] [] := fun _ _ _ h => h
theorem LeL.cons {d d' : AV} {ds ds' : List AV} (h : Le d d') (t : LeL ds ds') : LeL (d :: ds) (d' :: ds') := fun L w vs hr => by
  obtain ⟨v, us, rfl, h1, h2⟩ := hr.c1
  exact .cons (h L w v h1) (t L w us h2)
theorem ACalls.le {P : Program} {f : FuncId} {args args' : List AV} {hi : List Ent} {K : AV → List Ent → Prop} (h : ACalls P f args' hi K) (hl : LeL args args') : ACalls P f args hi K := fun L w vs h1 h2 h3 => h L w vs h1 h2 (hl _ _ _ h3)
section mapped
variable {β : Type} {P : Program} {F : List Ent} {o : Oper}
theorem opf_slice_lhm {t e n : Nat} {x lo hi : Operand} {ys : List β} {f : β → List AV} {a b : Int} {k1 k2 : IntKind} (ho : o.op = .slice t x (some lo) (some hi) none) (ht : P.underlying t = some (.slice (P.elem t))) [TSl P t e] [TSize P e n]
    (h1 : 0 ≤ a) (h2 : a ≤ b) (h3 : b ≤ ys.length) : OpF P F o [.sl n (ys.map f), .raw (.int k1 a), .raw (.int k2 b)] (.sl n (((ys.take b.toNat).drop a.toNat).map f)) := by
  rw [List.map_drop, List.map_take]
  exact opf_slice_lh ho ht h1 h2 (by simpa using h3)
theorem opf_slice_hm {t e n : Nat} {x hi : Operand} {ys : List β} {f : β → List AV} {b : Int} {k2 : IntKind} (ho : o.op = .slice t x none (some hi) none) (ht : P.underlying t = some (.slice (P.elem t))) [TSl P t e] [TSize P e n]
    (h2 : 0 ≤ b) (h3 : b ≤ ys.length) : OpF P F o [.sl n (ys.map f), .raw (.int k2 b)] (.sl n ((ys.take b.toNat).map f)) := by
  rw [List.map_take]
  exact opf_slice_h ho ht h2 (by simpa using h3)
theorem opf_slice_lm {t e n : Nat} {x lo : Operand} {ys : List β} {f : β → List AV} {a : Int} {k1 : IntKind} (ho : o.op = .slice t x (some lo) none none) (ht : P.underlying t = some (.slice (P.elem t))) [TSl P t e] [TSize P e n]
    (h1 : 0 ≤ a) (h2 : a ≤ ys.length) : OpF P F o [.sl n (ys.map f), .raw (.int k1 a)] (.sl n ((ys.drop a.toNat).map f)) := by
  rw [List.map_drop]
  exact opf_slice_l ho ht h1 (by simpa using h2)
end mapped
section eff
/-- A list and nil. -/
def NilB (xs : List (List AV)) (n : Bool) (r : AV) (ho : List Ent) : Prop := ∃ b, r = .raw (.bool b) ∧ ho = [] ∧ (b = n → xs = [])
variable {C : Ctx} {P : Program} {ops : Array Oper} {os : List Oper} {o : Oper} {q : QT} {l : List (Nat × AV)} {hp rest : List Ent} {args : List AV} {d : AV} {t : Tmp} {F G : List Ent} {i : Nat} {rr : List (Nat × Bool)} {rs : List (List (Nat × Bool))}
theorem ops_box' {x : Operand} {e : TypeId} {cs : List AV} (ho : o.op = .box e x) [hc : Cells d cs] : OpS P o [d] [] (IsBox e cs) := ops_box ho hc.h
theorem ops_alloc' {e : TypeId} {zs : List Value} {rs : List AV} (ho : o.op = .alloc e) [TZero P e zs] [h : Raws zs rs] : OpS P o [] [] (IsBox e rs) := by rw [← h.h]; exact ops_alloc ho
theorem ops_nil_eql {x y : Operand} {tt ty e : TypeId} {k : Nat} {xs : List (List AV)} (ho : o.op = .binOp .eql tt x y ty) [h : TSl P tt e] : OpS P o [.sl k xs, .raw (.slice none 0 0)] [] (NilB xs true) :=
  opS2 (x := x) (y := y) (by rw [ho]; rfl) fun L w ρ hL hok r1 r2 => by
    generalize hv : ρ x = v at r1
    cases r1 with
    | @sl _ _ A c us kp hk hc hm hn hs hb hl hcell hone hr =>
      refine does_value (w' := w) (by simp [execOp, ho, hv, r2.rawEq, eqGuard_at_slice, Lib.run_eql_slice_nil w tt e A xs.length c 0 0 h.h]) ⟨_, _, ⟨A.isNone, rfl, rfl, fun hA => ?_⟩, .raw _, HpOk.nil _ _, Fr.refl _ _, fun b hb => by simp [hpB] at hb⟩
      have := hn (by simpa using hA)
      exact List.eq_nil_of_length_eq_zero (by omega)
/-- A store into a variable. -/
theorem SeqG.st {tt : TypeId} {x y : Operand} {b p n : Nat} {ty : TypeId} {cs ds cs' : List AV} (hP : C.P = P) (ho : o.op = .store tt x y) (hd : o.dst = none) (hw : wantE ops (Env.of l) o = some true) (ha : evs (Env.of l) o.op.operands.toList = some [.raw (.pointer (some ⟨b, p, none⟩)), d])
    (hk : Pick (.box b ty cs) hp rest) (hc : Cells d ds) (hs : TSize P tt n) (hl : LenIs ds n) (hp' : Put cs p ds cs') (h : SeqG C ops os l (.box b ty cs' :: rest) q) : SeqG C ops (o :: os) l hp q :=
  SeqG.n hP hd hw ha (ops_store_b (n := n) ho hc.h hl.h (by have := hp'.h.1; have := hl.h; omega)) (.cons hk .nil) fun d ho ⟨h1, h2⟩ => by subst h2; rw [hp'.h.2]; exact h
theorem RunG.st {tt : TypeId} {x y : Operand} {b p n : Nat} {ty : TypeId} {cs ds cs' : List AV} (hP : C.P = P) (hi : nthO ops.toList i = some o) (ho : o.op = .store tt x y) (hd : o.dst = none) (hw : wantE ops (Env.of l) o = some true) (ha : evs (Env.of l) o.op.operands.toList = some [.raw (.pointer (some ⟨b, p, none⟩)), d])
    (hk : Pick (.box b ty cs) G rest) (hc : Cells d ds) (hs : TSize P tt n) (hl : LenIs ds n) (hp' : Put cs p ds cs') (h : RunG C F ops rr rs l (.box b ty cs' :: rest) q) : RunG C F ops ((i, false) :: rr) rs l G q :=
  RunG.n hP hi hd hw ha (ops_store_b (n := n) ho hc.h hl.h (by have := hp'.h.1; have := hl.h; omega)) (.cons hk .nil) fun d ho ⟨h1, h2⟩ => by subst h2; rw [hp'.h.2]; exact h
theorem SeqG.bx {e : TypeId} {x : Operand} {cs : List AV} (hP : C.P = P) (ho : o.op = .box e x) (hd : o.dst = some t) (hw : wantE ops (Env.of l) o = some true) (ha : evs (Env.of l) o.op.operands.toList = some [d]) (hc : Cells d cs) (h : ∀ b, SeqG C ops os ((t, .raw (.pointer (some ⟨b, 0, none⟩))) :: l) (.box b e cs :: hp) q) : SeqG C ops (o :: os) l hp q :=
  SeqG.e (P := P) hP hd hw ha (ops_box ho hc.h) .nil fun d ho ⟨b, h1, h2⟩ => by subst h1; subst h2; exact h b
theorem RunG.bx {e : TypeId} {x : Operand} {cs : List AV} (hP : C.P = P) (hi : nthO ops.toList i = some o) (ho : o.op = .box e x) (hd : o.dst = some t) (hw : wantE ops (Env.of l) o = some true) (ha : evs (Env.of l) o.op.operands.toList = some [d]) (hc : Cells d cs) (h : ∀ b, RunG C F ops rr rs ((t, .raw (.pointer (some ⟨b, 0, none⟩))) :: l) (.box b e cs :: G) q) : RunG C F ops ((i, false) :: rr) rs l G q :=
  RunG.e (P := P) hP hi hd hw ha (ops_box ho hc.h) .nil fun d ho ⟨b, h1, h2⟩ => by subst h1; subst h2; exact h b
theorem SeqG.al {e : TypeId} {zs : List Value} {cs : List AV} (hP : C.P = P) (ho : o.op = .alloc e) (hd : o.dst = some t) (hw : wantE ops (Env.of l) o = some true) (ha : evs (Env.of l) o.op.operands.toList = some []) (hz : TZero P e zs) (hc : Raws zs cs) (h : ∀ b, SeqG C ops os ((t, .raw (.pointer (some ⟨b, 0, none⟩))) :: l) (.box b e cs :: hp) q) : SeqG C ops (o :: os) l hp q :=
  SeqG.e (P := P) hP hd hw ha (ops_alloc' ho) .nil fun d ho ⟨b, h1, h2⟩ => by subst h1; subst h2; exact h b
theorem RunG.al {e : TypeId} {zs : List Value} {cs : List AV} (hP : C.P = P) (hi : nthO ops.toList i = some o) (ho : o.op = .alloc e) (hd : o.dst = some t) (hw : wantE ops (Env.of l) o = some true) (ha : evs (Env.of l) o.op.operands.toList = some []) (hz : TZero P e zs) (hc : Raws zs cs) (h : ∀ b, RunG C F ops rr rs ((t, .raw (.pointer (some ⟨b, 0, none⟩))) :: l) (.box b e cs :: G) q) : RunG C F ops ((i, false) :: rr) rs l G q :=
  RunG.e (P := P) hP hi hd hw ha (ops_alloc' ho) .nil fun d ho ⟨b, h1, h2⟩ => by subst h1; subst h2; exact h b
theorem SeqG.ls {tt e : TypeId} {len k : Nat} {ps : Array (Nat × Operand)} {xs : List (List AV)} {z : Value} {bytes : Nat} (hP : C.P = P) (ho : o.op = .buildSlice tt len ps) (hd : o.dst = some t) (hw : wantE ops (Env.of l) o = some true) (ha : evs (Env.of l) o.op.operands.toList = some args) (ht : TSl P tt e) (he : TEl P e z k bytes) (hl : litA k 0 ps.toList args = some xs) (hn : ps.toList.length = len) (hm : (decide (len * k ≤ 16777216)) = true) (h : SeqG C ops os ((t, .sl k xs) :: l) hp q) : SeqG C ops (o :: os) l hp q :=
  SeqG.e (P := P) hP hd hw ha (OpS.frz (ops_lit ho hl hn (by simpa using hm))) .nil fun d ho ⟨h1, h2⟩ => by subst h1; subst h2; exact h
theorem RunG.ls {tt e : TypeId} {len k : Nat} {ps : Array (Nat × Operand)} {xs : List (List AV)} {z : Value} {bytes : Nat} (hP : C.P = P) (hi : nthO ops.toList i = some o) (ho : o.op = .buildSlice tt len ps) (hd : o.dst = some t) (hw : wantE ops (Env.of l) o = some true) (ha : evs (Env.of l) o.op.operands.toList = some args) (ht : TSl P tt e) (he : TEl P e z k bytes) (hl : litA k 0 ps.toList args = some xs) (hn : ps.toList.length = len) (hm : (decide (len * k ≤ 16777216)) = true) (h : RunG C F ops rr rs ((t, .sl k xs) :: l) G q) : RunG C F ops ((i, false) :: rr) rs l G q :=
  RunG.e (P := P) hP hi hd hw ha (OpS.frz (ops_lit ho hl hn (by simpa using hm))) .nil fun d ho ⟨h1, h2⟩ => by subst h1; subst h2; exact h
theorem SeqG.ow {tt e : TypeId} {len k : Nat} {ps : Array (Nat × Operand)} {xs : List (List AV)} {z : Value} {bytes : Nat} (hP : C.P = P) (ho : o.op = .buildSlice tt len ps) (hd : o.dst = some t) (hw : wantE ops (Env.of l) o = some true) (ha : evs (Env.of l) o.op.operands.toList = some args) (ht : TSl P tt e) (he : TEl P e z k bytes) (hl : litA k 0 ps.toList args = some xs) (hn : ps.toList.length = len) (hm : (decide (len * k ≤ 16777216)) = true) (h : ∀ A c, SeqG C ops os ((t, .raw (.slice A len c)) :: l) (.own (.slice A len c) e k xs :: hp) q) : SeqG C ops (o :: os) l hp q :=
  SeqG.e (P := P) hP hd hw ha (ops_lit ho hl hn (by simpa using hm)) .nil fun d ho ⟨A, c, h1, h2⟩ => by subst h1; subst h2; exact h A c
theorem RunG.ow {tt e : TypeId} {len k : Nat} {ps : Array (Nat × Operand)} {xs : List (List AV)} {z : Value} {bytes : Nat} (hP : C.P = P) (hi : nthO ops.toList i = some o) (ho : o.op = .buildSlice tt len ps) (hd : o.dst = some t) (hw : wantE ops (Env.of l) o = some true) (ha : evs (Env.of l) o.op.operands.toList = some args) (ht : TSl P tt e) (he : TEl P e z k bytes) (hl : litA k 0 ps.toList args = some xs) (hn : ps.toList.length = len) (hm : (decide (len * k ≤ 16777216)) = true) (h : ∀ A c, RunG C F ops rr rs ((t, .raw (.slice A len c)) :: l) (.own (.slice A len c) e k xs :: G) q) : RunG C F ops ((i, false) :: rr) rs l G q :=
  RunG.e (P := P) hP hi hd hw ha (ops_lit ho hl hn (by simpa using hm)) .nil fun d ho ⟨A, c, h1, h2⟩ => by subst h1; subst h2; exact h A c
theorem SeqG.mko {tt e : TypeId} {x y : Operand} {k n : Nat} {z : Value} {bytes : Nat} {k1 k2 : IntKind} (hP : C.P = P) (ho : o.op = .makeSlice tt x y) (hd : o.dst = some t) (hw : wantE ops (Env.of l) o = some true) (ha : evs (Env.of l) o.op.operands.toList = some [.raw (.int k1 (n : Int)), .raw (.int k2 (n : Int))]) (ht : TSl P tt e) (he : TEl P e z k bytes) (hb : bytes * n ≤ 281474976710656) (h : ∀ A c, SeqG C ops os ((t, .raw (.slice A n c)) :: l) (.own (.slice A n c) e k (List.replicate n (z.cells.toList.map .raw)) :: hp) q) : SeqG C ops (o :: os) l hp q :=
  SeqG.e (P := P) hP hd hw ha (ops_make ho hb) .nil fun d ho ⟨A, c, h1, h2⟩ => by subst h1; subst h2; exact h A c
theorem RunG.mko {tt e : TypeId} {x y : Operand} {k n : Nat} {z : Value} {bytes : Nat} {k1 k2 : IntKind} (hP : C.P = P) (hi : nthO ops.toList i = some o) (ho : o.op = .makeSlice tt x y) (hd : o.dst = some t) (hw : wantE ops (Env.of l) o = some true) (ha : evs (Env.of l) o.op.operands.toList = some [.raw (.int k1 (n : Int)), .raw (.int k2 (n : Int))]) (ht : TSl P tt e) (he : TEl P e z k bytes) (hb : bytes * n ≤ 281474976710656) (h : ∀ A c, RunG C F ops rr rs ((t, .raw (.slice A n c)) :: l) (.own (.slice A n c) e k (List.replicate n (z.cells.toList.map .raw)) :: G) q) : RunG C F ops ((i, false) :: rr) rs l G q :=
  RunG.e (P := P) hP hi hd hw ha (ops_make ho hb) .nil fun d ho ⟨A, c, h1, h2⟩ => by subst h1; subst h2; exact h A c
theorem SeqG.mks {tt e : TypeId} {x y : Operand} {k n : Nat} {z : Value} {bytes : Nat} {k1 k2 : IntKind} (hP : C.P = P) (ho : o.op = .makeSlice tt x y) (hd : o.dst = some t) (hw : wantE ops (Env.of l) o = some true) (ha : evs (Env.of l) o.op.operands.toList = some [.raw (.int k1 (n : Int)), .raw (.int k2 (n : Int))]) (ht : TSl P tt e) (he : TEl P e z k bytes) (hb : bytes * n ≤ 281474976710656) (h : SeqG C ops os ((t, .sl k (List.replicate n (z.cells.toList.map .raw))) :: l) hp q) : SeqG C ops (o :: os) l hp q :=
  SeqG.e (P := P) hP hd hw ha (OpS.frz (ops_make ho hb)) .nil fun d ho ⟨h1, h2⟩ => by subst h1; subst h2; exact h
theorem RunG.mks {tt e : TypeId} {x y : Operand} {k n : Nat} {z : Value} {bytes : Nat} {k1 k2 : IntKind} (hP : C.P = P) (hi : nthO ops.toList i = some o) (ho : o.op = .makeSlice tt x y) (hd : o.dst = some t) (hw : wantE ops (Env.of l) o = some true) (ha : evs (Env.of l) o.op.operands.toList = some [.raw (.int k1 (n : Int)), .raw (.int k2 (n : Int))]) (ht : TSl P tt e) (he : TEl P e z k bytes) (hb : bytes * n ≤ 281474976710656) (h : RunG C F ops rr rs ((t, .sl k (List.replicate n (z.cells.toList.map .raw))) :: l) G q) : RunG C F ops ((i, false) :: rr) rs l G q :=
  RunG.e (P := P) hP hi hd hw ha (OpS.frz (ops_make ho hb)) .nil fun d ho ⟨h1, h2⟩ => by subst h1; subst h2; exact h
theorem SeqG.nq {x y : Operand} {tt ty e : TypeId} {k : Nat} {xs : List (List AV)} (hP : C.P = P) (ho : o.op = .binOp .eql tt x y ty) (hd : o.dst = some t) (hw : wantE ops (Env.of l) o = some true) (ha : evs (Env.of l) o.op.operands.toList = some [.sl k xs, .raw (.slice none 0 0)]) (ht : TSl P tt e) (h : ∀ b, (b = true → xs = []) → SeqG C ops os ((t, .raw (.bool b)) :: l) hp q) : SeqG C ops (o :: os) l hp q :=
  SeqG.e (P := P) hP hd hw ha (ops_nil_eql ho) .nil fun d ho ⟨b, h1, h2, h3⟩ => by subst h1; subst h2; exact h b h3
theorem RunG.nq {x y : Operand} {tt ty e : TypeId} {k : Nat} {xs : List (List AV)} (hP : C.P = P) (hi : nthO ops.toList i = some o) (ho : o.op = .binOp .eql tt x y ty) (hd : o.dst = some t) (hw : wantE ops (Env.of l) o = some true) (ha : evs (Env.of l) o.op.operands.toList = some [.sl k xs, .raw (.slice none 0 0)]) (ht : TSl P tt e) (h : ∀ b, (b = true → xs = []) → RunG C F ops rr rs ((t, .raw (.bool b)) :: l) G q) : RunG C F ops ((i, false) :: rr) rs l G q :=
  RunG.e (P := P) hP hi hd hw ha (ops_nil_eql ho) .nil fun d ho ⟨b, h1, h2, h3⟩ => by subst h1; subst h2; exact h b h3
theorem RunG.pls {tt e : TypeId} {len k : Nat} {ps : Array (Nat × Operand)} {xs : List (List AV)} {z : Value} {bytes : Nat} (hP : C.P = P) (hi : nthO ops.toList i = some o) (ho : o.op = .buildSlice tt len ps) (hd : o.dst = some t) (hw : wantE ops (Env.of l) o = some true) (ha : evs (Env.of l) o.op.operands.toList = some args) (ht : TSl P tt e) (he : TEl P e z k bytes) (hl : litA k 0 ps.toList args = some xs) (hn : ps.toList.length = len) (hm : (decide (len * k ≤ 16777216)) = true) (h : RunG C F ops rr rs ((t, .sl k xs) :: l) G q) : RunG C F ops ((i, true) :: rr) rs l G q :=
  RunG.dt (P := P) hP hi hd hw ha (OpS.frz (ops_lit ho hl hn (by simpa using hm))) h
theorem RunG.pmks {tt e : TypeId} {x y : Operand} {k n : Nat} {z : Value} {bytes : Nat} {k1 k2 : IntKind} (hP : C.P = P) (hi : nthO ops.toList i = some o) (ho : o.op = .makeSlice tt x y) (hd : o.dst = some t) (hw : wantE ops (Env.of l) o = some true) (ha : evs (Env.of l) o.op.operands.toList = some [.raw (.int k1 (n : Int)), .raw (.int k2 (n : Int))]) (ht : TSl P tt e) (he : TEl P e z k bytes) (hb : bytes * n ≤ 281474976710656) (h : RunG C F ops rr rs ((t, .sl k (List.replicate n (z.cells.toList.map .raw))) :: l) G q) : RunG C F ops ((i, true) :: rr) rs l G q :=
  RunG.dt (P := P) hP hi hd hw ha (OpS.frz (ops_make ho hb)) h
theorem SeqG.appm {β : Type} {tt e : TypeId} {x y : Operand} {k n c : Nat} {A : Option Addr} {z : Value} {bytes : Nat} {us vs : List β} {f : β → List AV} (hP : C.P = P) (ho : o.op = .call { callee := .builtin .append, args := #[x, y], argTypes := #[tt, tt] }) (hd : o.dst = some t) (hw : wantE ops (Env.of l) o = some true)
    (ha : evs (Env.of l) o.op.operands.toList = some [.raw (.slice A n c), .sl k (vs.map f)]) (hk : Pick (.own (.slice A n c) e k (us.map f)) hp rest) (ht : TSl P tt e) (he : TEl P e z k bytes) (hl : (us.length + vs.length) * bytes ≤ 140737488355328)
    (h : ∀ A' c', SeqG C ops os ((t, .raw (.slice A' (us.length + vs.length) c')) :: l) (.own (.slice A' (us.length + vs.length) c') e k ((us ++ vs).map f) :: rest) q) : SeqG C ops (o :: os) l hp q :=
  SeqG.e hP hd hw ha (ops_append ho (by simpa using hl)) (.cons hk .nil) fun d ho ⟨A', c', h1, h2⟩ => by subst h1; subst h2; have := h A' c'; simpa using this
theorem RunG.appm {β : Type} {tt e : TypeId} {x y : Operand} {k n c : Nat} {A : Option Addr} {z : Value} {bytes : Nat} {us vs : List β} {f : β → List AV} (hP : C.P = P) (hi : nthO ops.toList i = some o) (ho : o.op = .call { callee := .builtin .append, args := #[x, y], argTypes := #[tt, tt] }) (hd : o.dst = some t) (hw : wantE ops (Env.of l) o = some true)
    (ha : evs (Env.of l) o.op.operands.toList = some [.raw (.slice A n c), .sl k (vs.map f)]) (hk : Pick (.own (.slice A n c) e k (us.map f)) G rest) (ht : TSl P tt e) (he : TEl P e z k bytes) (hl : (us.length + vs.length) * bytes ≤ 140737488355328)
    (h : ∀ A' c', RunG C F ops rr rs ((t, .raw (.slice A' (us.length + vs.length) c')) :: l) (.own (.slice A' (us.length + vs.length) c') e k ((us ++ vs).map f) :: rest) q) : RunG C F ops ((i, false) :: rr) rs l G q :=
  RunG.e hP hi hd hw ha (ops_append ho (by simpa using hl)) (.cons hk .nil) fun d ho ⟨A', c', h1, h2⟩ => by subst h1; subst h2; have := h A' c'; simpa using this
/-- append to an own row. -/
theorem SeqG.app {tt e : TypeId} {x y : Operand} {k n c : Nat} {A : Option Addr} {z : Value} {bytes : Nat} {xs ys : List (List AV)} (hP : C.P = P) (ho : o.op = .call { callee := .builtin .append, args := #[x, y], argTypes := #[tt, tt] }) (hd : o.dst = some t) (hw : wantE ops (Env.of l) o = some true)
    (ha : evs (Env.of l) o.op.operands.toList = some [.raw (.slice A n c), .sl k ys]) (hk : Pick (.own (.slice A n c) e k xs) hp rest) (ht : TSl P tt e) (he : TEl P e z k bytes) (hl : (xs.length + ys.length) * bytes ≤ 140737488355328)
    (h : ∀ A' c', SeqG C ops os ((t, .raw (.slice A' (xs.length + ys.length) c')) :: l) (.own (.slice A' (xs.length + ys.length) c') e k (xs ++ ys) :: rest) q) : SeqG C ops (o :: os) l hp q :=
  SeqG.e hP hd hw ha (ops_append ho hl) (.cons hk .nil) fun d ho ⟨A', c', h1, h2⟩ => by subst h1; subst h2; exact h A' c'
theorem RunG.app {tt e : TypeId} {x y : Operand} {k n c : Nat} {A : Option Addr} {z : Value} {bytes : Nat} {xs ys : List (List AV)} (hP : C.P = P) (hi : nthO ops.toList i = some o) (ho : o.op = .call { callee := .builtin .append, args := #[x, y], argTypes := #[tt, tt] }) (hd : o.dst = some t) (hw : wantE ops (Env.of l) o = some true)
    (ha : evs (Env.of l) o.op.operands.toList = some [.raw (.slice A n c), .sl k ys]) (hk : Pick (.own (.slice A n c) e k xs) G rest) (ht : TSl P tt e) (he : TEl P e z k bytes) (hl : (xs.length + ys.length) * bytes ≤ 140737488355328)
    (h : ∀ A' c', RunG C F ops rr rs ((t, .raw (.slice A' (xs.length + ys.length) c')) :: l) (.own (.slice A' (xs.length + ys.length) c') e k (xs ++ ys) :: rest) q) : RunG C F ops ((i, false) :: rr) rs l G q :=
  RunG.e hP hi hd hw ha (ops_append ho hl) (.cons hk .nil) fun d ho ⟨A', c', h1, h2⟩ => by subst h1; subst h2; exact h A' c'
/-- append to nil. -/
theorem SeqG.app0 {tt e : TypeId} {x y : Operand} {k : Nat} {z : Value} {bytes : Nat} {ys : List (List AV)} (hP : C.P = P) (ho : o.op = .call { callee := .builtin .append, args := #[x, y], argTypes := #[tt, tt] }) (hd : o.dst = some t) (hw : wantE ops (Env.of l) o = some true)
    (ha : evs (Env.of l) o.op.operands.toList = some [.raw (.slice none 0 0), .sl k ys]) (ht : TSl P tt e) (he : TEl P e z k bytes) (hl : ys.length * bytes ≤ 140737488355328)
    (h : ∀ A' c', SeqG C ops os ((t, .raw (.slice A' ys.length c')) :: l) (.own (.slice A' ys.length c') e k ys :: hp) q) : SeqG C ops (o :: os) l hp q :=
  SeqG.e hP hd hw ha (ops_append_nil ho hl) .nil fun d ho ⟨A', c', h1, h2⟩ => by subst h1; subst h2; exact h A' c'
theorem RunG.app0 {tt e : TypeId} {x y : Operand} {k : Nat} {z : Value} {bytes : Nat} {ys : List (List AV)} (hP : C.P = P) (hi : nthO ops.toList i = some o) (ho : o.op = .call { callee := .builtin .append, args := #[x, y], argTypes := #[tt, tt] }) (hd : o.dst = some t) (hw : wantE ops (Env.of l) o = some true)
    (ha : evs (Env.of l) o.op.operands.toList = some [.raw (.slice none 0 0), .sl k ys]) (ht : TSl P tt e) (he : TEl P e z k bytes) (hl : ys.length * bytes ≤ 140737488355328)
    (h : ∀ A' c', RunG C F ops rr rs ((t, .raw (.slice A' ys.length c')) :: l) (.own (.slice A' ys.length c') e k ys :: G) q) : RunG C F ops ((i, false) :: rr) rs l G q :=
  RunG.e hP hi hd hw ha (ops_append_nil ho hl) .nil fun d ho ⟨A', c', h1, h2⟩ => by subst h1; subst h2; exact h A' c'
/-- Where it is moved an own row is given up: it reads on. -/
theorem ops_frz {x : Operand} {e : TypeId} {k n c : Nat} {A : Option Addr} {xs : List (List AV)} (ho : o.op = .move x ∨ o.op = .assign x) : OpS P o [.raw (.slice A n c)] [.own (.slice A n c) e k xs] (IsSl k xs) :=
  opS1 (x := x) (by rcases ho with ho | ho <;> rw [ho] <;> rfl) fun L w ρ hL hok hr => by
    obtain ⟨kp, hO⟩ := hok.unown
    refine does_value (w' := w) (v := ρ x) (by rcases ho with ho | ho <;> simp [execOp, ho]) ⟨_, _, ⟨rfl, rfl⟩, ?_, HpOk.nil _ _, Fr.refl _ _, fun b hb => by simp [hpB] at hb⟩
    rw [hr.rawEq]
    simpa [hpB] using Rd.of_sl (kp := kp) hO.sl
theorem SeqG.frz {x : Operand} {e : TypeId} {k n c : Nat} {A : Option Addr} {xs : List (List AV)} (hP : C.P = P) (ho : o.op = .move x ∨ o.op = .assign x) (hd : o.dst = some t) (hw : wantE ops (Env.of l) o = some true)
    (ha : evs (Env.of l) o.op.operands.toList = some [.raw (.slice A n c)]) (hk : Pick (.own (.slice A n c) e k xs) hp rest) (h : SeqG C ops os ((t, .sl k xs) :: l) rest q) : SeqG C ops (o :: os) l hp q :=
  SeqG.e (P := P) hP hd hw ha (ops_frz ho) (.cons hk .nil) fun d ho ⟨h1, h2⟩ => by subst h1; subst h2; exact h
theorem RunG.frz {x : Operand} {e : TypeId} {k n c : Nat} {A : Option Addr} {xs : List (List AV)} (hP : C.P = P) (hi : nthO ops.toList i = some o) (ho : o.op = .move x ∨ o.op = .assign x) (hd : o.dst = some t) (hw : wantE ops (Env.of l) o = some true)
    (ha : evs (Env.of l) o.op.operands.toList = some [.raw (.slice A n c)]) (hk : Pick (.own (.slice A n c) e k xs) G rest) (h : RunG C F ops rr rs ((t, .sl k xs) :: l) rest q) : RunG C F ops ((i, false) :: rr) rs l G q :=
  RunG.e (P := P) hP hi hd hw ha (ops_frz ho) (.cons hk .nil) fun d ho ⟨h1, h2⟩ => by subst h1; subst h2; exact h
end eff
end Go.Proofs.Ytglccdcdnbannaa
