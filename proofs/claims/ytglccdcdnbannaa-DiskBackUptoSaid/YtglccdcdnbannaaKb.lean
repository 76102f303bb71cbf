/- klaxonbook: Clamp, Within. -/
import Derived.Test.YtglccdcdnbannaaTy
set_option linter.unusedVariables false
set_option linter.unusedSimpArgs false
namespace Go.Proofs.Ytglccdcdnbannaa
open Go.RowKit

def clampZ (n lo hi : Int) : Int := if n < lo then lo else if hi < n then hi else n
/-- n brought into lo .. hi. -/
def withinZ (n lo hi : Int) : Int := lo + n % (hi - lo + 1)
theorem withinZ_range (n lo hi : Int) (h : lo ≤ hi) : lo ≤ withinZ n lo hi ∧ withinZ n lo hi ≤ hi := by
  unfold withinZ
  have h1 := Int.emod_nonneg n (show hi - lo + 1 ≠ 0 by omega)
  have h2 := Int.emod_lt_of_pos n (show 0 < hi - lo + 1 by omega)
  omega
theorem tmod_facts (n m : Int) (hm : 0 < m) : (0 ≤ n.tmod m → n % m = n.tmod m) ∧ (n.tmod m < 0 → n % m = n.tmod m + m) ∧ n.tmod m < m ∧ -m < n.tmod m := by
  have h := Int.tmod_eq_emod (a := n) (b := m)
  have h1 := Int.emod_nonneg n (show m ≠ 0 by omega)
  have h2 := Int.emod_lt_of_pos n hm
  have h3 : (m.natAbs : Int) = m := by omega
  have h4 : n % m = 0 → m ∣ n := Int.dvd_of_emod_eq_zero
  generalize n % m = x at *
  generalize n.tmod m = y at *
  by_cases hc : 0 ≤ n ∨ m ∣ n
  · rw [if_pos hc] at h
    omega
  · rw [if_neg hc] at h
    have h5 : x ≠ 0 := fun e => hc (.inr (h4 e))
    omega
theorem rawI {k : IntKind} {a b : Int} (h : a = b) : AV.raw (.int k a) = .raw (.int k b) := by rw [h]
theorem rawB {a b : Bool} (h : a = b) : AV.raw (.bool a) = .raw (.bool b) := by rw [h]
/-- A value handed back, nothing taken up. -/
def Is (d : AV) (r : AV) (ho : List Ent) : Prop := r = d ∧ ho = []

theorem within_a (n lo hi : Int) (h : lo ≤ hi) (h1 : -1152921504606846976 ≤ lo) (h2 : hi ≤ 1152921504606846976) :
    ACalls Try.prog 8 [.raw (.int .i64 n), .raw (.int .i64 lo), .raw (.int .i64 hi)] [] (Is (.raw (.int .i64 (withinZ n lo hi)))) := by
  obtain ⟨ht1, ht2, ht3, ht4⟩ := tmod_facts n (hi - lo + 1) (by omega)
  have hw : withinZ n lo hi = lo + n % (hi - lo + 1) := rfl
  generalize withinZ n lo hi = wz at *
  generalize n % (hi - lo + 1) = em at *
  generalize hA : n.tmod (hi - lo + 1) = tm at *
  refine ACalls.enter Try.func8 rfl (by kernel_rfl) ?_; intro C hP hn; rw [Try.ntmps8] at hn
  (repeat (first | refine Z.xa ?_ | refine Z.xb ?_ | refine Z.xc ?_ | refine Z.xd ?_ | refine Z.xe ?_ | refine Z.r ?_ | refine Z.u ?_ | refine Z.un ?_ | refine Z.st ?_ | (refine Z.bx ?_; intro b) | (refine Z.al ?_; intro b) | (refine Z.nq ?_; intro bn hnil) | (refine Z.am ?_; intro A c) | (refine Z.ap ?_; intro A c) | (refine Z.a0 ?_; intro A c) | refine Z.p ?_ | refine Z.pu ?_ | refine Z.r' ?_ | refine Z.u' ?_ | refine Z.un' ?_ | refine Z.st' ?_ | (refine Z.bx' ?_; intro b) | (refine Z.al' ?_; intro b) | (refine Z.nq' ?_; intro bn hnil) | (refine Z.am' ?_; intro A c) | (refine Z.ap' ?_; intro A c) | (refine Z.a0' ?_; intro A c) | refine Z.xg ?_ | refine Z.xh ?_ | refine Z.xi ?_ | refine Z.xj ?_ | refine Z.xk ?_ | refine Z.xl ?_ | refine Z.xm ?_ | refine Z.bm ?_ | refine Z.xn ?_ | refine Z.xo ?_ | refine Z.xp ?_ | refine Z.xf ?_ | refine Z.rg ?_ | refine Z.xq ?_ | refine Z.xr ?_ | refine Z.xs ?_ | refine Z.xt ?_ | refine Z.xu ?_ | refine Z.it ?_ | refine Z.ff ?_))
  rw [hA]
  (refine Z.one ?_ ?_) <;> intro hc <;> (try simp only [decide_eq_true_eq, decide_eq_false_iff_not, Bool.not_eq_true', Bool.not_eq_false', bne_iff_ne, ne_eq, Bool.not_eq_true, Decidable.not_not] at hc)
  · (repeat (first | refine Z.xa ?_ | refine Z.xb ?_ | refine Z.xc ?_ | refine Z.xd ?_ | refine Z.xe ?_ | refine Z.r ?_ | refine Z.u ?_ | refine Z.un ?_ | refine Z.st ?_ | (refine Z.bx ?_; intro b) | (refine Z.al ?_; intro b) | (refine Z.nq ?_; intro bn hnil) | (refine Z.am ?_; intro A c) | (refine Z.ap ?_; intro A c) | (refine Z.a0 ?_; intro A c) | refine Z.p ?_ | refine Z.pu ?_ | refine Z.r' ?_ | refine Z.u' ?_ | refine Z.un' ?_ | refine Z.st' ?_ | (refine Z.bx' ?_; intro b) | (refine Z.al' ?_; intro b) | (refine Z.nq' ?_; intro bn hnil) | (refine Z.am' ?_; intro A c) | (refine Z.ap' ?_; intro A c) | (refine Z.a0' ?_; intro A c) | refine Z.xg ?_ | refine Z.xh ?_ | refine Z.xi ?_ | refine Z.xj ?_ | refine Z.xk ?_ | refine Z.xl ?_ | refine Z.xm ?_ | refine Z.bm ?_ | refine Z.xn ?_ | refine Z.xo ?_ | refine Z.xp ?_ | refine Z.xf ?_ | refine Z.rg ?_ | refine Z.xq ?_ | refine Z.xr ?_ | refine Z.xs ?_ | refine Z.xt ?_ | refine Z.xu ?_ | refine Z.it ?_ | refine Z.ff ?_))
    exact PostG.fin (.inr rfl) rfl ⟨rawI (by omega), rfl⟩
  · (repeat (first | refine Z.xa ?_ | refine Z.xb ?_ | refine Z.xc ?_ | refine Z.xd ?_ | refine Z.xe ?_ | refine Z.r ?_ | refine Z.u ?_ | refine Z.un ?_ | refine Z.st ?_ | (refine Z.bx ?_; intro b) | (refine Z.al ?_; intro b) | (refine Z.nq ?_; intro bn hnil) | (refine Z.am ?_; intro A c) | (refine Z.ap ?_; intro A c) | (refine Z.a0 ?_; intro A c) | refine Z.p ?_ | refine Z.pu ?_ | refine Z.r' ?_ | refine Z.u' ?_ | refine Z.un' ?_ | refine Z.st' ?_ | (refine Z.bx' ?_; intro b) | (refine Z.al' ?_; intro b) | (refine Z.nq' ?_; intro bn hnil) | (refine Z.am' ?_; intro A c) | (refine Z.ap' ?_; intro A c) | (refine Z.a0' ?_; intro A c) | refine Z.xg ?_ | refine Z.xh ?_ | refine Z.xi ?_ | refine Z.xj ?_ | refine Z.xk ?_ | refine Z.xl ?_ | refine Z.xm ?_ | refine Z.bm ?_ | refine Z.xn ?_ | refine Z.xo ?_ | refine Z.xp ?_ | refine Z.xf ?_ | refine Z.rg ?_ | refine Z.xq ?_ | refine Z.xr ?_ | refine Z.xs ?_ | refine Z.xt ?_ | refine Z.xu ?_ | refine Z.it ?_ | refine Z.ff ?_))
    exact PostG.fin (.inr rfl) rfl ⟨rawI (by omega), rfl⟩
theorem clamp_a (n lo hi : Int) : ACalls Try.prog 14 [.raw (.int .i64 n), .raw (.int .i64 lo), .raw (.int .i64 hi)] [] (Is (.raw (.int .i64 (clampZ n lo hi)))) := by
  unfold clampZ
  refine ACalls.enter Try.func14 rfl (by kernel_rfl) ?_; intro C hP hn; rw [Try.ntmps14] at hn
  (repeat (first | refine Z.xa ?_ | refine Z.xb ?_ | refine Z.xc ?_ | refine Z.xd ?_ | refine Z.xe ?_ | refine Z.r ?_ | refine Z.u ?_ | refine Z.un ?_ | refine Z.st ?_ | (refine Z.bx ?_; intro b) | (refine Z.al ?_; intro b) | (refine Z.nq ?_; intro bn hnil) | (refine Z.am ?_; intro A c) | (refine Z.ap ?_; intro A c) | (refine Z.a0 ?_; intro A c) | refine Z.p ?_ | refine Z.pu ?_ | refine Z.r' ?_ | refine Z.u' ?_ | refine Z.un' ?_ | refine Z.st' ?_ | (refine Z.bx' ?_; intro b) | (refine Z.al' ?_; intro b) | (refine Z.nq' ?_; intro bn hnil) | (refine Z.am' ?_; intro A c) | (refine Z.ap' ?_; intro A c) | (refine Z.a0' ?_; intro A c) | refine Z.xg ?_ | refine Z.xh ?_ | refine Z.xi ?_ | refine Z.xj ?_ | refine Z.xk ?_ | refine Z.xl ?_ | refine Z.xm ?_ | refine Z.bm ?_ | refine Z.xn ?_ | refine Z.xo ?_ | refine Z.xp ?_ | refine Z.xf ?_ | refine Z.rg ?_ | refine Z.xq ?_ | refine Z.xr ?_ | refine Z.xs ?_ | refine Z.xt ?_ | refine Z.xu ?_ | refine Z.it ?_ | refine Z.ff ?_))
  (refine Z.one ?_ ?_) <;> intro hc <;> (try simp only [decide_eq_true_eq, decide_eq_false_iff_not, Bool.not_eq_true', Bool.not_eq_false', bne_iff_ne, ne_eq, Bool.not_eq_true, Decidable.not_not] at hc)
  · (repeat (first | refine Z.xa ?_ | refine Z.xb ?_ | refine Z.xc ?_ | refine Z.xd ?_ | refine Z.xe ?_ | refine Z.r ?_ | refine Z.u ?_ | refine Z.un ?_ | refine Z.st ?_ | (refine Z.bx ?_; intro b) | (refine Z.al ?_; intro b) | (refine Z.nq ?_; intro bn hnil) | (refine Z.am ?_; intro A c) | (refine Z.ap ?_; intro A c) | (refine Z.a0 ?_; intro A c) | refine Z.p ?_ | refine Z.pu ?_ | refine Z.r' ?_ | refine Z.u' ?_ | refine Z.un' ?_ | refine Z.st' ?_ | (refine Z.bx' ?_; intro b) | (refine Z.al' ?_; intro b) | (refine Z.nq' ?_; intro bn hnil) | (refine Z.am' ?_; intro A c) | (refine Z.ap' ?_; intro A c) | (refine Z.a0' ?_; intro A c) | refine Z.xg ?_ | refine Z.xh ?_ | refine Z.xi ?_ | refine Z.xj ?_ | refine Z.xk ?_ | refine Z.xl ?_ | refine Z.xm ?_ | refine Z.bm ?_ | refine Z.xn ?_ | refine Z.xo ?_ | refine Z.xp ?_ | refine Z.xf ?_ | refine Z.rg ?_ | refine Z.xq ?_ | refine Z.xr ?_ | refine Z.xs ?_ | refine Z.xt ?_ | refine Z.xu ?_ | refine Z.it ?_ | refine Z.ff ?_))
    exact PostG.fin (.inr rfl) rfl ⟨rawI (by simp [hc]), rfl⟩
  · (repeat (first | refine Z.xa ?_ | refine Z.xb ?_ | refine Z.xc ?_ | refine Z.xd ?_ | refine Z.xe ?_ | refine Z.r ?_ | refine Z.u ?_ | refine Z.un ?_ | refine Z.st ?_ | (refine Z.bx ?_; intro b) | (refine Z.al ?_; intro b) | (refine Z.nq ?_; intro bn hnil) | (refine Z.am ?_; intro A c) | (refine Z.ap ?_; intro A c) | (refine Z.a0 ?_; intro A c) | refine Z.p ?_ | refine Z.pu ?_ | refine Z.r' ?_ | refine Z.u' ?_ | refine Z.un' ?_ | refine Z.st' ?_ | (refine Z.bx' ?_; intro b) | (refine Z.al' ?_; intro b) | (refine Z.nq' ?_; intro bn hnil) | (refine Z.am' ?_; intro A c) | (refine Z.ap' ?_; intro A c) | (refine Z.a0' ?_; intro A c) | refine Z.xg ?_ | refine Z.xh ?_ | refine Z.xi ?_ | refine Z.xj ?_ | refine Z.xk ?_ | refine Z.xl ?_ | refine Z.xm ?_ | refine Z.bm ?_ | refine Z.xn ?_ | refine Z.xo ?_ | refine Z.xp ?_ | refine Z.xf ?_ | refine Z.rg ?_ | refine Z.xq ?_ | refine Z.xr ?_ | refine Z.xs ?_ | refine Z.xt ?_ | refine Z.xu ?_ | refine Z.it ?_ | refine Z.ff ?_))
    have h1 := hc
    (refine Z.one ?_ ?_) <;> intro hc <;> (try simp only [decide_eq_true_eq, decide_eq_false_iff_not, Bool.not_eq_true', Bool.not_eq_false', bne_iff_ne, ne_eq, Bool.not_eq_true, Decidable.not_not] at hc)
    · (repeat (first | refine Z.xa ?_ | refine Z.xb ?_ | refine Z.xc ?_ | refine Z.xd ?_ | refine Z.xe ?_ | refine Z.r ?_ | refine Z.u ?_ | refine Z.un ?_ | refine Z.st ?_ | (refine Z.bx ?_; intro b) | (refine Z.al ?_; intro b) | (refine Z.nq ?_; intro bn hnil) | (refine Z.am ?_; intro A c) | (refine Z.ap ?_; intro A c) | (refine Z.a0 ?_; intro A c) | refine Z.p ?_ | refine Z.pu ?_ | refine Z.r' ?_ | refine Z.u' ?_ | refine Z.un' ?_ | refine Z.st' ?_ | (refine Z.bx' ?_; intro b) | (refine Z.al' ?_; intro b) | (refine Z.nq' ?_; intro bn hnil) | (refine Z.am' ?_; intro A c) | (refine Z.ap' ?_; intro A c) | (refine Z.a0' ?_; intro A c) | refine Z.xg ?_ | refine Z.xh ?_ | refine Z.xi ?_ | refine Z.xj ?_ | refine Z.xk ?_ | refine Z.xl ?_ | refine Z.xm ?_ | refine Z.bm ?_ | refine Z.xn ?_ | refine Z.xo ?_ | refine Z.xp ?_ | refine Z.xf ?_ | refine Z.rg ?_ | refine Z.xq ?_ | refine Z.xr ?_ | refine Z.xs ?_ | refine Z.xt ?_ | refine Z.xu ?_ | refine Z.it ?_ | refine Z.ff ?_))
      exact PostG.fin (.inr rfl) rfl ⟨rawI (by simp [hc, h1]), rfl⟩
    · (repeat (first | refine Z.xa ?_ | refine Z.xb ?_ | refine Z.xc ?_ | refine Z.xd ?_ | refine Z.xe ?_ | refine Z.r ?_ | refine Z.u ?_ | refine Z.un ?_ | refine Z.st ?_ | (refine Z.bx ?_; intro b) | (refine Z.al ?_; intro b) | (refine Z.nq ?_; intro bn hnil) | (refine Z.am ?_; intro A c) | (refine Z.ap ?_; intro A c) | (refine Z.a0 ?_; intro A c) | refine Z.p ?_ | refine Z.pu ?_ | refine Z.r' ?_ | refine Z.u' ?_ | refine Z.un' ?_ | refine Z.st' ?_ | (refine Z.bx' ?_; intro b) | (refine Z.al' ?_; intro b) | (refine Z.nq' ?_; intro bn hnil) | (refine Z.am' ?_; intro A c) | (refine Z.ap' ?_; intro A c) | (refine Z.a0' ?_; intro A c) | refine Z.xg ?_ | refine Z.xh ?_ | refine Z.xi ?_ | refine Z.xj ?_ | refine Z.xk ?_ | refine Z.xl ?_ | refine Z.xm ?_ | refine Z.bm ?_ | refine Z.xn ?_ | refine Z.xo ?_ | refine Z.xp ?_ | refine Z.xf ?_ | refine Z.rg ?_ | refine Z.xq ?_ | refine Z.xr ?_ | refine Z.xs ?_ | refine Z.xt ?_ | refine Z.xu ?_ | refine Z.it ?_ | refine Z.ff ?_))
      exact PostG.fin (.inr rfl) rfl ⟨rawI (by simp [hc, h1]), rfl⟩
end Go.Proofs.Ytglccdcdnbannaa
