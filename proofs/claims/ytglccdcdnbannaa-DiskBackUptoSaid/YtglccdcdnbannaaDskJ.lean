/- Law DiskBack holds: whatever it is given, within the bound of bulk, it returns true and changes nothing of what it was given. -/
import Derived.Test.YtglccdcdnbannaaJn
import Derived.Test.YtglccdcdnbannaaDskB
set_option linter.unusedVariables false
namespace Go.Proofs.Ytglccdcdnbannaa.diskBack
open Go.ChangeShapes Go.WideShapes Go.ChangeAt Go.RowKit

theorem own : ownKnob Try.prog.godebug = none := by kernel_rfl
theorem bytes_sz : ∀ bs : List UInt8, szs (fun _ => 0) bs = bs.length
  | [] => rfl
  | b :: bs => by simp [szs, bytes_sz bs]; omega
theorem opens_u8 : Opens Try.prog 5 eB (fun _ => 0) (fun _ => True) := (opens_int Try.underlying5).turn fun n hn => by
  have hb := bounds_u8 hn
  refine ⟨UInt8.ofNat n.toNat, trivial, ?_, Nat.le_refl _⟩
  have : ((UInt8.ofNat n.toNat).toNat : Int) = n := by simp [UInt8.toNat_ofNat']; omega
  show [AV.raw (.int .u8 ((UInt8.ofNat n.toNat).toNat : Int))] = _
  rw [this]
theorem opens_bytes : Opens Try.prog 22 (fun xs : List UInt8 => [.sl 1 (xs.map eB)]) (szs fun _ => 0) (fun xs => ∀ x ∈ xs, True) := opens_slice Try.underlying22 opens_u8 (k := 1) (by kernel_rfl) (by omega)
theorem steady_bytes : Steady Try.prog 22 := steady_slice Try.underlying22 (steady_one (.inr (.inl ⟨_, Try.underlying5⟩))) (k := 1) (by kernel_rfl) (by omega)
theorem steady_int : Steady Try.prog 3 := steady_one (.inr (.inl ⟨_, Try.underlying3⟩))

theorem contract (H : Type) (enc : TypeId × Value → H) (W : World) (base : Nat) (args : Array Value) (ds gs : List (DataW H)) (before : List MemPlace)
    (hval : ∀ (j : Nat) t v, Try.f3.params[j]? = some t → args[j]? = some v → Value.okWide Try.prog W .any base t v)
    (hW : DataW.Whole enc Try.prog Try.f3.params.toList Rows.diskBackSpec.vars false W args.toList ds gs before) :
    Calls Try.prog 3 args W fun e W' => ∃ v, e = .returned v ∧ Rows.diskBackSpec.post enc Try.prog Try.f3 false true false false W args v W' := by
  have hst : ∀ t ∈ Try.f3.params.toList, Steady Try.prog t := by
    rw [Try.params3]
    intro t ht
    simp only [List.mem_cons, List.not_mem_nil, or_false] at ht
    rcases ht with rfl | rfl | rfl | rfl | rfl
    · exact steady_bytes
    · exact steady_bytes
    · exact steady_int
    · exact steady_int
    · exact steady_int
  refine law_post hW rfl (fun hl => ?_) hst (tb := 4) rfl Try.underlying4 ?_
  · match ds, hl with
    | [d1, d2, d3, d4, d5], _ => rfl
  · obtain ⟨p, q, hA, _⟩ := hW
    rw [Try.params3] at hA hval
    obtain ⟨v0, vs0, d0, ds0, p0, q0, ha0, rfl, rfl, h0, r0⟩ := trodAll_cons hA
    obtain ⟨v1, vs1, d1, ds1, p1, q1, rfl, rfl, rfl, h1, r1⟩ := trodAll_cons r0
    obtain ⟨v2, vs2, d2, ds2, p2, q2, rfl, rfl, rfl, h2, r2⟩ := trodAll_cons r1
    obtain ⟨v3, vs3, d3, ds3, p3, q3, rfl, rfl, rfl, h3, r3⟩ := trodAll_cons r2
    obtain ⟨v4, vs4, d4, ds4, p4, q4, rfl, rfl, rfl, h4, r4⟩ := trodAll_cons r3
    obtain ⟨rfl, rfl, rfl⟩ := trodAll_nil r4
    obtain rfl : args = #[v0, v1, v2, v3, v4] := by cases args; simp_all
    obtain ⟨a, _, ra, _⟩ := arg_slice Try.underlying22 opens_bytes (hval 0 _ v0 rfl rfl) h0
    obtain ⟨b, _, rb, _⟩ := arg_slice Try.underlying22 opens_bytes (hval 1 _ v1 rfl rfl) h1
    obtain ⟨cut, w2, r2⟩ := arg_int Try.underlying3 (hval 2 _ v2 rfl rfl) h2
    obtain ⟨keep, w3, r3⟩ := arg_int Try.underlying3 (hval 3 _ v3 rfl rfl) h3
    obtain ⟨room, w4, r4⟩ := arg_int Try.underlying3 (hval 4 _ v4 rfl rfl) h4
    exact ⟨_, .cons ra (.cons rb (.cons r2 (.cons r3 (.cons r4 .nil)))), diskBack_a a b cut keep room (bounds_i64 w2).1 (bounds_i64 w2).2 (bounds_i64 w3).1 (bounds_i64 w3).2⟩

set_option maxRecDepth 100000 in
theorem lifted (os : Os) (started : os.Started) (H : Type) (enc : TypeId × Value → H) (F : Stop.Interp) :
    ReturnsInHanded {} Try.checked os 3 .any ((Rows.OpenSpec.upto Rows.diskBackSpec).pre6 enc Try.prog Try.f3 Rows.diskBackUptoRow.domain false) (((Rows.OpenSpec.upto Rows.diskBackSpec).at F).post enc Try.prog Try.f3 false true false false) := by
  refine returnsInHanded_of_cond (C := Try.checked) (s := Rows.OpenSpec.upto Rows.diskBackSpec) (k := Rows.uptoSmall) rfl own started (by kernel_rfl) Try.func3
    (OpenSpec.witness (enc := enc) (C := Try.checked) (s := Rows.OpenSpec.upto Rows.diskBackSpec) (k := Rows.uptoSmall) rfl false ⟨#[], #[.slice none 0 0, .slice none 0 0, .int .i64 0, .int .i64 0, .int .i64 0], []⟩ 8 (by kernel_rfl) (by kernel_rfl) (by kernel_rfl)
      (x := ([.nil, .nil, .lit (.int .i64 0), .lit (.int .i64 0), .lit (.int .i64 0)], [], [])) (by kernel_rfl) rfl (by kernel_rfl)) ?_
  intro W base args ds gs before hval hW _ hk _
  exact contract H enc W base args ds gs before hval hW

theorem over : Rows.diskBackUptoRow.holds Try.pinned (Rows.OpenSpec.upto Rows.diskBackSpec) :=
  OpenClaim.holds_of_cond 3 Try.f3 rfl rfl rfl rfl rfl rfl rfl ⟨rfl, rfl, rfl, rfl, rfl⟩ rfl rfl rfl rfl rfl (by kernel_rfl) Try.func3 (by kernel_rfl)
    (of_decide_eq_true (by kernel_rfl)) (by unfold Func.isWrapper; first | (rw [if_pos (by decide +kernel)]; kernel_rfl) | (rw [if_neg (by decide +kernel)]; exact ⟨rfl, rfl⟩))
    (fun os started H enc _ F => lifted os started H enc F)

theorem proved : Rows.DiskBackUptoSaid := over
end Go.Proofs.Ytglccdcdnbannaa.diskBack
