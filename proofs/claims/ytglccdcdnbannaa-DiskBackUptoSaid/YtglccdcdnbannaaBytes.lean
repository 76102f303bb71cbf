/- slices.Clone, Grow (of nil) and Concat at []byte; klaxonbook.Same at byte: what each call returns. -/
import Derived.Test.YtglccdcdnbannaaBase
import Derived.Test.YtglccdcdnbannaaRows
import Derived.Lib.AppendZerosOnto
import Derived.Lib.SliceRun
set_option linter.unusedVariables false
set_option linter.unusedSimpArgs false
namespace Go.Proofs.Ytglccdcdnbannaa
open Go.RowKit

theorem und_bytes : Try.prog.underlying 22 = some (.slice 5) := by kernel_rfl
theorem info_byte : (Try.prog.info? 5).map (fun i => (i.zero, i.size, i.bytes)) = some (some (.int .u8 0), byteR.k, 1) := by kernel_rfl

/-- What a call returns that hands back a new list; what was there stands. -/
def RetS {α : Type} (R : Rp α) (L : List Nat) (w : World) (xs : List α) (e : Ending) (w' : World) : Prop := ∃ v, e = .returned v ∧ Fr [] w w' ∧ Sl R L w' v xs
/-- .. as a row of its own. -/
def RetO {α : Type} (R : Rp α) (L : List Nat) (t : TypeId) (w : World) (xs : List α) (e : Ending) (w' : World) : Prop := ∃ v, e = .returned v ∧ Fr [] w w' ∧ Ow R L w.heap.size w' t v xs

theorem cloneB_any (L : List Nat) (w : World) (v : Value) (xs : List UInt8) (h : Sl byteR L w v xs) (hL : ∀ b, b ∈ L → b < w.heap.size) (hn : xs.length ≤ 1099511627776) :
    Calls Try.prog 17 #[v] w (RetO byteR L 5 w xs) := by
  obtain ⟨A, c, rfl, hc, hm, hr⟩ := h.form
  have H := Lib.hid hr; clear hr
  have he := fun (w : World) => Lib.run_eql_slice_nil (P := Try.prog) w 22 5 A xs.length c 0 0 und_bytes
  rcases A with _ | a
  · go_enter Try.func17, Try.ntmps17
    go_wp2
    go_ret
    have h0 : xs.length = 0 := by
      obtain ⟨A', c', hv, h1, _, hn', _⟩ := H.out
      injection hv with h2 h3 h4
      have := hn' h2.symm
      omega
    obtain rfl := List.eq_nil_of_length_eq_zero h0
    exact ⟨_, rfl, Fr.refl _ _, Ow.nil _ _ _ _ _⟩
  · go_enter Try.func17, Try.ntmps17
    have HO : Ow byteR L w.heap.size (w.alloc (.cells #[] 5)) 5 (.slice (some ⟨w.heap.size, 0, none⟩) 0 0) [] := Ow.lit (R := byteR) (L := L) (w := w) (xs := []) (cs := []) rfl w.heap.size (Nat.le_refl _) _ hL (by simp)
    have HS : Sl byteR (ob (.slice (some ⟨w.heap.size, 0, none⟩) 0 0) ++ L) (w.alloc (.cells #[] 5)) (.slice (some a) xs.length c) xs :=
      (H.out.mv (Mv.more (fun b hb => by rcases List.mem_append.1 hb with hb | hb <;> first | exact .inl hb | (refine .inr ?_; have := ob_mem.1 hb; simp [Value.ownBlock] at this; omega)))).fr ((Fr.refl _ _).alloc _)
    have HO' := Lib.hid HO; have HS' := Lib.hid HS; clear HO HS
    go_wp2_with (at_builtin; refine wp_ap byteR rfl _ _ 22 5 _ 1 rfl und_bytes info_byte rfl (by decide) HO'.out HS'.out ?_ rfl rfl ?hB ?hL ?hl; intro v1 w1 g1 g2 g3)
    case hB => simp
    case hL => intro b hb; have := hL b hb; simp; omega
    case hl => simp; omega
    go_ret
    exact ⟨_, rfl, ((Fr.refl _ _).alloc _).app HO'.out g3 (Nat.le_refl _), g1⟩

theorem grow_nil (n : Nat) (L : List Nat) (w : World) (hL : ∀ b, b ∈ L → b < w.heap.size) (hn : n ≤ 1099511627776) :
    Calls Try.prog 22 #[.slice none 0 0, .int .i64 n] w (RetO byteR L 5 w []) := by
  obtain ⟨i0, hi, hzz⟩ := Option.map_eq_some_iff.1 info_byte
  simp only [Prod.mk.injEq] at hzz
  obtain ⟨hz0, hz1, hz2⟩ := hzz
  rcases Nat.eq_zero_or_pos n with h0 | h0
  · subst h0
    go_enter Try.func22, Try.ntmps22
    go_wp2
    go_ret
    exact ⟨_, rfl, Fr.refl _ _, Ow.nil _ _ _ _ _⟩
  · have hz1' : i0.size = 1 := hz1
    have hrz : ∀ ty, (Builtin.append_ #[22, 3] ty #[.slice none 0 0, .int .i64 n]).run Try.prog w =
        .ok (.slice (some ⟨w.heap.size, 0, none⟩) n (grownCap w n 0 5)) (w.drew.alloc (.cells (Builtin.zeroCells #[.int .u8 0] n ++ Builtin.zeroCells #[.int .u8 0] (grownCap w n 0 5 - n)) 5)) := fun ty => by
      have h := Lib.run_append_grow_zeros (P := Try.prog) w 22 3 ty 5 i0 (.int .u8 0) .i64 .i64 und_bytes (by kernel_rfl) hi hz0 none 0 0 [] (run_firstCells_none w.drew i0.size 0 0 0) n h0 (by omega) (by omega) (by omega)
        (by rw [hz2]; omega) (by rw [hz2]; exact growslice_fits (by omega) (by omega))
      simpa [Value.cells] using h
    have hge : n ≤ grownCap w n 0 5 := grownCap_ge w _ _ _
    have hG63 : grownCap w n 0 5 ≤ maxLen := grownCap_le_maxLen w n 0 5 (by unfold maxLen; omega)
    obtain ⟨G, hG⟩ : ∃ G, G = grownCap w n 0 5 := ⟨_, rfl⟩
    rw [← hG] at hrz hge hG63
    have HO : Ow byteR L w.heap.size (w.drew.alloc (.cells (Builtin.zeroCells #[.int .u8 0] n ++ Builtin.zeroCells #[.int .u8 0] (G - n)) 5)) 5 (.slice (some ⟨w.heap.size, 0, none⟩) 0 G) [] := by
      refine ⟨[], World.ownsRow_made (w := w.drew) _ G (Nat.le_refl _) hG63 ?_, rfl, fun b hb hx => ?_⟩
      · simp only [Array.size_append, size_zeroCells]
        show n * 1 + (G - n) * 1 = G * 1
        omega
      · simp [Value.ownBlock] at hb
        have := hL b hx
        omega
    have HO' := Lib.hid HO; have HG := Lib.hid hG63
    unfold maxLen at hG63
    clear HO hG
    have hG6 : G ≤ 9223372036854775807 := by omega
    clear hG63
    go_enter Try.func22, Try.ntmps22
    go_wp2_with (at_builtin; refine wp_apRun rfl _ _ _ _ rfl rfl rfl (hrz _) ?_)
    go_ret
    exact ⟨_, rfl, (Fr.refl _ _).drew.alloc _, HO'.out⟩

set_option maxHeartbeats 400000 in
theorem concat_any (L : List Nat) (w : World) (v : Value) (ps : List (List UInt8)) (h : Sl byteR.sl L w v ps) (hL : ∀ b, b ∈ L → b < w.heap.size) (hn : ps.flatten.length ≤ 1099511627776) :
    Calls Try.prog 16 #[v] w (RetO byteR L 5 w ps.flatten) := by
  have hlen := h.len_le
  obtain ⟨A, c, rfl, hc, hm, hr⟩ := h.form
  have H := Lib.hid hr; clear hr h
  go_enter Try.func16, Try.ntmps16
  go_wp2
  go_loop [3, 11] (fun z i => ∃ k : Nat, k ≤ ps.length ∧ i = .int .i64 k ∧ z = .int .i64 ((ps.take k).flatten.length : Nat)) (fun _ i => ps.length - (intOf i).toNat)
  case atStart => exact ⟨0, Nat.zero_le _, rfl, rfl⟩
  case round =>
    obtain ⟨k, hk, rfl, rfl⟩ := hrel
    have hle := take_flatten_le ps k
    by_cases hlt : k < ps.length
    · obtain ⟨b, o, u, rfl, hb, _, hcell, hu⟩ := H.out.slAt hlt
      obtain ⟨A', c', rfl, hc', hm', _⟩ := hu.form
      have hs := take_succ_flatten ps k hlt
      have hle2 := take_flatten_le ps (k + 1)
      have hs2 : ((ps.take (k + 1)).flatten.length : Int) = ((ps.take k).flatten.length : Int) + (ps[k].length : Int) := by rw [hs, List.length_append]; omega
      have HS := Lib.hid hs2; clear hs2 hs
      generalize hq : (ps.take (k + 1)).flatten.length = q at *
      generalize hp : (ps.take k).flatten.length = p at *
      have hq2 : (p : Int) + (ps[k].length : Int) ≤ 1099511627776 := by have := HS.out; omega
      have HP := Lib.hid hp; have HQ := Lib.hid hq; clear hp hq hu
      go_wp2
      go_round
      case rel => exact ⟨k + 1, by omega, by go_num, by rw [HQ.out, HS.out]⟩
      case measure => simp [intOf]; omega
    · have hk' : k = ps.length := by omega
      have hfin : (ps.take k).flatten = ps.flatten := by rw [hk', List.take_length]
      have HF := Lib.hid hfin; clear hk' hfin
      generalize hp : (ps.take k).flatten.length = p at *
      have HP := Lib.hid hp; clear hp
      go_wp2_with (go_at_call 22; refine (grow_nil p L _ hL (by omega)).mono ?_; rintro e w1 ⟨u, rfl, hf, ho⟩)
      have HO := Lib.hid ho; have HF1 := Lib.hid hf; clear ho hf
      go_loopw [6, 8, 27, 28, 29, 30, 31, 32, 33, 34] (fun r _ i _ _ _ _ _ _ _ wr => ∃ j : Nat, j ≤ ps.length ∧ i = .int .i64 j ∧ Hid (Fr [] w wr) ∧ Hid (Ow byteR L w.heap.size wr 5 r (ps.take j).flatten)) (fun _ _ i _ _ _ _ _ _ _ _ => ps.length - (intOf i).toNat)
      case atStart => exact ⟨0, Nat.zero_le _, rfl, HF1, HO⟩
      case round =>
        obtain ⟨j, hj, rfl, hf, ho⟩ := hrel
        by_cases hlt2 : j < ps.length
        · obtain ⟨b, o, u2, rfl, hb, _, hcell, hu⟩ := H.out.slAt hlt2
          obtain ⟨A', c', rfl, hc', hm', _⟩ := hu.form
          have hcell := hf.out.cell hcell (by simp)
          have HU := Lib.hid (hu.mv (hf.out.mvO ho.out (Nat.le_refl _)))
          have hsz := hf.out.size
          have hle2 := take_flatten_le ps (j + 1)
          have hs := take_succ_flatten ps j hlt2
          rw [hs, List.length_append] at hle2
          have HS := Lib.hid hs; clear hs hu
          obtain ⟨A2, c2, rfl⟩ := ho.out.form
          go_wp2_with (at_builtin; refine wp_ap byteR rfl _ _ 22 5 _ 1 rfl und_bytes info_byte rfl (by decide) ho.out HU.out ?_ rfl rfl ?hB ?hL ?hl; intro v1 w2 g1 g2 g3)
          have G1 := Lib.hid g1; have G3 := Lib.hid (hf.out.app ho.out g3 (Nat.le_refl _)); clear g1 g2 g3
          obtain ⟨A3, c3, rfl⟩ := G1.out.form
          go_wp2
          go_roundw
          case rel => exact ⟨j + 1, by omega, by go_num, G3, by rw [HS.out]; exact G1⟩
          case measure => simp [intOf]; omega
          case hB => exact hsz
          case hL => exact lt_mono hL hsz
          case hl => omega
        · obtain rfl : j = ps.length := by omega
          obtain ⟨rv, hrv, ho2⟩ : ∃ rv, rv = u6 ∧ Ow byteR L w.heap.size wr 5 rv ps.flatten := ⟨u6, rfl, by simpa only [List.take_length] using ho.out⟩
          subst hrv
          obtain ⟨A2, c2, rfl⟩ := ho2.form
          have HO2 := Lib.hid ho2; clear ho2 ho
          go_wp2
          go_ret
          exact ⟨_, rfl, hf.out, HO2.out⟩

/-! ### klaxonbook.Same at byte -/
theorem sameB_ne (L L2 : List Nat) (w : World) (v u : Value) (xs ys : List UInt8) (h : Sl byteR L w v xs) (h2 : Sl byteR L2 w u ys) (hne : xs.length ≠ ys.length) :
    Calls Try.prog 11 #[v, u] w fun e w' => e = .returned (.bool false) ∧ w = w' := by
  obtain ⟨A, c, rfl, hc, hm, hr⟩ := h.form
  obtain ⟨A2, c2, rfl, hc2, hm2, hr2⟩ := h2.form
  clear h h2 hr hr2
  have ht : (!((xs.length : Int) == (ys.length : Int))) = true := by simp; omega
  go_enter Try.func11, Try.ntmps11
  go_wp2
  go_ret
  exact ⟨rfl, rfl⟩
set_option maxHeartbeats 400000 in
theorem sameB_any (L L2 : List Nat) (w : World) (v u : Value) (xs ys : List UInt8) (h : Sl byteR L w v xs) (h2 : Sl byteR L2 w u ys) :
    Calls Try.prog 11 #[v, u] w fun e w' => e = .returned (.bool (decide (xs = ys))) ∧ ∃ n, w' = w.drewN n := by
  by_cases hn : xs.length = ys.length
  case neg => exact (sameB_ne L L2 w v u xs ys h h2 hn).mono fun e w' ⟨he, hw⟩ => ⟨by rw [he, decide_eq_false (fun e => hn (by rw [e]))], 0, hw.symm⟩
  have hlen := h.len_le
  obtain ⟨A, c, rfl, hc, hm, hr⟩ := h.form
  obtain ⟨A2, c2, rfl, hc2, hm2, hr2⟩ := h2.form
  have H := Lib.hid hr; have H2 := Lib.hid hr2; clear hr hr2 h h2
  have ht : (!((xs.length : Int) == (ys.length : Int))) = false := by simp; omega
  have HN := Lib.hid hn
  rw [← hn] at ht ⊢
  rw [← hn] at H2
  clear hn
  go_enter Try.func11, Try.ntmps11
  go_wp2
  go_loopw [5, 11, 12, 13, 14, 15, 16, 17, 18, 19, 20, 21, 22, 23, 24, 25] (fun i _ _ _ _ _ _ _ _ _ _ _ _ _ _ _ wr => ∃ k n : Nat, k ≤ xs.length ∧ i = .int .i64 k ∧ wr = w.drewN n ∧ Hid (xs.take k = ys.take k)) (fun i _ _ _ _ _ _ _ _ _ _ _ _ _ _ _ _ => xs.length - (intOf i).toNat)
  case atStart => exact ⟨0, 0, Nat.zero_le _, rfl, rfl, rfl⟩
  case round =>
    obtain ⟨k, n, hk, rfl, rfl, he⟩ := hrel
    by_cases hlt : k < xs.length
    · have hlt2 : k < ys.length := by have := HN.out; omega
      obtain ⟨b, o, rfl, hb, _, hc1⟩ := H.out.byteAt hlt
      obtain ⟨b2, o2, rfl, hb2, _, hc2'⟩ := H2.out.byteAt hlt2
      have hE := take_succ_iff he.out hlt hlt2
      by_cases hq : xs[k] = ys[k]
      · have hq' : ((xs[k].toNat : Int) != (ys[k].toNat : Int)) = false := by simp [hq]
        have HE := Lib.hid (hE.2 hq); clear hq hE
        go_wp2
        go_quiet (fail)
        go_wp2
        go_roundw
        case rel => exact ⟨k + 1, _, by omega, by go_num, rfl, HE⟩
        case measure => simp [intOf]; omega
      · have hq' : ((xs[k].toNat : Int) != (ys[k].toNat : Int)) = true := by
          simp
          intro h
          exact hq (UInt8.toNat_inj.1 (by omega))
        have HE := Lib.hid (fun h : xs = ys => hq (hE.1 (by rw [h]))); clear hq hE
        go_wp2
        go_quiet (fail)
        go_wp2
        go_ret
        exact ⟨ret_bool (decide_eq_false HE.out).symm, _, World.drewN_drewN ..⟩
    · obtain rfl : k = xs.length := by omega
      have hE : xs = ys := by
        have := he.out
        rw [List.take_length] at this
        rw [this, HN.out, List.take_length]
      have HE := Lib.hid hE; clear hE
      go_wp2
      go_ret
      exact ⟨ret_bool (decide_eq_true HE.out).symm, _, rfl⟩
end Go.Proofs.Ytglccdcdnbannaa
