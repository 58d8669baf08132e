/- The laws of the retry chapter answer true: RetryBy, RetrySpread. -/
import Derived.Test.YtcfbnhdcpmnpaaaLaws
set_option linter.unusedSimpArgs false
set_option linter.unusedVariables false
namespace Go.Proofs.Ytcfbnhdcpmnpaaa.Fn
open Go Go.Abs

theorem tot_mono {w m : Int} (hw : 1 ≤ w) (hm : w ≤ m) : ∀ (n i : Nat), tot w m i ≤ tot w m (i + n)
  | 0, i => by simp
  | n + 1, i => by
    have := tot_mono hw hm n i
    have := del_pos hw hm (i + n)
    rw [← Nat.add_assoc]
    simp only [tot]
    omega

theorem by_range (w m t T : Int) : 0 ≤ byA w m t T ∧ (sane w m t = true → byA w m t T ≤ t) ∧ (sane w m t = false → byA w m t T = 0) := by
  unfold byA
  by_cases hs : sane w m t = true
  · obtain ⟨_, _, _, ht0, ht⟩ := sane_bounds hs
    obtain ⟨_, h2, _, _⟩ := byF_spec w m T t.toNat 0
    rw [if_pos hs]
    refine ⟨by omega, fun _ => by omega, fun h => by rw [hs] at h; cases h⟩
  · rw [if_neg hs]
    exact ⟨by omega, fun h => absurd h hs, fun _ => rfl⟩

theorem by_mono (w m t : Int) {x y : Int} (h : x ≤ y) : byA w m t x ≤ byA w m t y := by
  unfold byA
  by_cases hs : sane w m t = true
  · rw [if_pos hs, if_pos hs]
    obtain ⟨_, a2, a3, a4⟩ := byF_spec w m x t.toNat 0
    obtain ⟨_, b2, b3, b4⟩ := byF_spec w m y t.toNat 0
    by_cases hlt : byF w m y t.toNat 0 < byF w m x t.toNat 0
    · have h1 := b4 (by omega)
      have h2 := a3 _ (Nat.zero_le _) hlt
      omega
    · omega
  · rw [if_neg hs, if_neg hs]; exact Int.le_refl _

theorem by_total (w m t : Int) (hs : sane w m t = true) : byA w m t (totalA w m t) = t := by
  obtain ⟨hw, hm, hM, ht0, ht⟩ := sane_bounds hs
  unfold byA totalA
  rw [if_pos hs, if_pos hs]
  obtain ⟨_, a2, a3, a4⟩ := byF_spec w m (tot w m t.toNat) t.toNat 0
  by_cases hlt : byF w m (tot w m t.toNat) t.toNat 0 < 0 + t.toNat
  · have h1 := a4 hlt
    have h2 := tot_mono hw hm (t.toNat - (byF w m (tot w m t.toNat) t.toNat 0 + 1)) (byF w m (tot w m t.toNat) t.toNat 0 + 1)
    rw [show byF w m (tot w m t.toNat) t.toNat 0 + 1 + (t.toNat - (byF w m (tot w m t.toNat) t.toNat 0 + 1)) = t.toNat by omega] at h2
    omega
  · omega

theorem by_first (w m t : Int) (hs : sane w m t = true) (ht : t ≠ 0) : byA w m t (w - 1) = 0 ∧ 1 ≤ byA w m t w := by
  obtain ⟨hw, hm, hM, ht0, ht'⟩ := sane_bounds hs
  have t1 : tot w m 1 = w := by simp [tot, del]
  unfold byA
  rw [if_pos hs, if_pos hs]
  obtain ⟨_, a2, a3, a4⟩ := byF_spec w m (w - 1) t.toNat 0
  obtain ⟨_, b2, b3, b4⟩ := byF_spec w m w t.toNat 0
  constructor
  · by_cases h : 0 < byF w m (w - 1) t.toNat 0
    · have := a3 0 (Nat.le_refl _) h
      rw [t1] at this; omega
    · omega
  · by_cases h : byF w m w t.toNat 0 = 0
    · have := b4 (by omega)
      rw [h, t1] at this; omega
    · omega

theorem by_ok (w m t a b : Int) (σ : Store) : callv E (.fn godwitlaw20_RetryBy [] []) [.agg [aint w, aint m, aint t], aint a, aint b] σ = some (abool true, σ) := by
  have hmm : byA w m t (if b < a then b else a) ≤ byA w m t (if b > a then b else a) := by
    refine by_mono w m t ?_
    split <;> split <;> omega
  obtain ⟨p0, p1, p2⟩ := by_range w m t (if b < a then b else a)
  obtain ⟨q0, q1, q2⟩ := by_range w m t (if b > a then b else a)
  rw [call_fn (E_X _) (E_fn godwitlaw20_RetryBy_c), godwitlaw20_RetryBy_A]
  by_cases hs : sane w m t = true
  · obtain ⟨hw, hm, hM, ht0, ht⟩ := sane_bounds hs
    have hall := by_total w m t hs
    have hww : IntKind.i64.wrap (w - 1) = w - 1 := wrap_id (by omega)
    have q1' := q1 hs
    by_cases h0 : t = 0
    · subst h0
      simp only [go_sem, Nat.reduceEqDiff, Nat.reduceAdd, Nat.reduceSub, Nat.reduceMul, Nat.reduceLeDiff, Nat.reduceLT, Int.reduceLE, Int.reduceLT, Int.reduceEq, reduceCtorEq, decide_true, decide_false, awake_ok, ours_ok, By_ok, Total_ok, Sane_ok, E_raw, raws, cop.recv, scV_true, scV_false, hs, hall, hmm, q1', p0, ge_iff_le, beq_self_eq_true]
    · obtain ⟨f1, f2⟩ := by_first w m t hs h0
      have h0' : (t == 0) = false := by simpa using h0
      simp only [go_sem, Nat.reduceEqDiff, Nat.reduceAdd, Nat.reduceSub, Nat.reduceMul, Nat.reduceLeDiff, Nat.reduceLT, Int.reduceLE, Int.reduceLT, Int.reduceEq, reduceCtorEq, decide_true, decide_false, awake_ok, ours_ok, By_ok, Total_ok, Sane_ok, E_raw, raws, cop.recv, scV_true, scV_false, hs, hall, hmm, q1', p0, ge_iff_le, beq_self_eq_true, h0', hww, f1, f2]
  · have hs : sane w m t = false := by simpa using hs
    have e1 := p2 hs
    have e2 := q2 hs
    have e3 : byA w m t (totalA w m t) = 0 := (by_range w m t _).2.2 hs
    simp only [go_sem, Nat.reduceEqDiff, Nat.reduceAdd, Nat.reduceSub, Nat.reduceMul, Nat.reduceLeDiff, Nat.reduceLT, Int.reduceLE, Int.reduceLT, Int.reduceEq, reduceCtorEq, decide_true, decide_false, awake_ok, ours_ok, By_ok, Total_ok, Sane_ok, E_raw, raws, cop.recv, scV_true, scV_false, hs, e1, e2, e3, ge_iff_le, beq_self_eq_true]

theorem wrap_u {x : Int} (h : 0 ≤ x ∧ x < 18446744073709551616) : IntKind.u64.wrap x = x := by
  simp only [IntKind.wrap, IntKind.bits, IntKind.signed]
  simp
  omega
theorem wrap_u_range (x : Int) : 0 ≤ IntKind.u64.wrap x ∧ IntKind.u64.wrap x < 18446744073709551616 := by
  simp only [IntKind.wrap, IntKind.bits, IntKind.signed]
  simp
  omega
theorem delay_range {w m t n : Int} (hok : delayOk w m t n = true) : 1 ≤ delayA w m t n ∧ delayA w m t n ≤ m ∧ m ≤ 1073741824 := by
  have h : (sane w m t && decide (0 ≤ n) && decide (n < t)) = true := hok
  have hs : sane w m t = true := by simp only [Bool.and_eq_true] at h; exact h.1.1
  obtain ⟨hw, hm, hM, _, _⟩ := sane_bounds hs
  have := del_pos hw hm n.toNat
  simp only [delayA, h, if_true]
  omega

/-- The mixed seed. -/
def mixA (n seed : Int) : Int :=
  IntKind.u64.wrap (BitVec.ofInt IntKind.u64.bits (IntKind.u64.wrap (IntKind.u64.wrap (seed + IntKind.u64.wrap n) * 11400714819323198485)) ^^^
    BitVec.ofInt IntKind.u64.bits ((IntKind.u64.wrap (IntKind.u64.wrap (seed + IntKind.u64.wrap n) * 11400714819323198485)).fdiv (2 ^ (Int.toNat 32).min IntKind.u64.bits))).toNat
def spreadA (w m t n seed : Int) : Int := if delayOk w m t n then delayA w m t n + (mixA n seed).tmod (delayA w m t n / 2 + 1) else 0

theorem mix_rem {n seed d : Int} (hd : 0 ≤ d) : 0 ≤ (mixA n seed).tmod (d / 2 + 1) ∧ (mixA n seed).tmod (d / 2 + 1) ≤ d / 2 := by
  have h1 := (wrap_u_range ((BitVec.ofInt IntKind.u64.bits (IntKind.u64.wrap (IntKind.u64.wrap (seed + IntKind.u64.wrap n) * 11400714819323198485)) ^^^
    BitVec.ofInt IntKind.u64.bits ((IntKind.u64.wrap (IntKind.u64.wrap (seed + IntKind.u64.wrap n) * 11400714819323198485)).fdiv (2 ^ (Int.toNat 32).min IntKind.u64.bits))).toNat)).1
  have h1' : 0 ≤ mixA n seed := h1
  rw [Int.tmod_eq_emod_of_nonneg h1']
  have h2 := Int.emod_nonneg (mixA n seed) (show d / 2 + 1 ≠ 0 by omega)
  have h3 := Int.emod_lt_of_pos (mixA n seed) (show 0 < d / 2 + 1 by omega)
  omega

theorem Spread_ok (w m t n seed : Int) (σ : Store) : callv E (.fn retry_Spread [] []) [.agg [aint w, aint m, aint t], aint n, .atom (.int .u64 seed)] σ = some (.tup [aint (spreadA w m t n seed), abool (delayOk w m t n)], σ) := by
  rw [call_fn (E_X _) (E_fn retry_Spread_c), retry_Spread_A]
  cases hok : delayOk w m t n with
  | true =>
    obtain ⟨d1, d2, d3⟩ := delay_range hok
    have hq : IntKind.u64.wrap (IntKind.i64.wrap ((delayA w m t n).fdiv (2 ^ (Int.toNat 1).min IntKind.i64.bits) + 1)) = delayA w m t n / 2 + 1 := by
      have e : (2 : Int) ^ (Int.toNat 1).min IntKind.i64.bits = 2 := by decide
      rw [e, Int.fdiv_eq_ediv_of_nonneg _ (by omega), wrap_id (by omega), wrap_u (by omega)]
    have hne : delayA w m t n / 2 + 1 ≠ 0 := by omega
    have hr := mix_rem (n := n) (seed := seed) (show 0 ≤ delayA w m t n by omega)
    have hw : IntKind.i64.wrap (delayA w m t n + IntKind.i64.wrap ((mixA n seed).tmod (delayA w m t n / 2 + 1))) = spreadA w m t n seed := by
      rw [wrap_id (n := (mixA n seed).tmod _) (by omega), wrap_id (by omega)]
      simp [spreadA, hok]
    simp only [go_sem, Nat.reduceEqDiff, Nat.reduceAdd, Nat.reduceSub, Nat.reduceMul, Nat.reduceLeDiff, Nat.reduceLT, Int.reduceLE, Int.reduceLT, Int.reduceEq, reduceCtorEq, decide_true, decide_false, Delay_ok, E_raw, raws, cop.recv, hok, hq, hne, ne_eq, not_false_eq_true]
    simp only [mixA] at hw
    rw [hw]
  | false =>
    simp only [go_sem, Nat.reduceEqDiff, Nat.reduceAdd, Nat.reduceSub, Nat.reduceMul, Nat.reduceLeDiff, Nat.reduceLT, Int.reduceLE, Int.reduceLT, Int.reduceEq, reduceCtorEq, decide_true, decide_false, Delay_ok, E_raw, raws, cop.recv, hok, spreadA]

theorem spread_ok (w m t n seed : Int) (σ : Store) : callv E (.fn godwitlaw20_RetrySpread [] []) [.agg [aint w, aint m, aint t], aint n, .atom (.int .u64 seed)] σ = some (abool true, σ) := by
  rw [call_fn (E_X _) (E_fn godwitlaw20_RetrySpread_c), godwitlaw20_RetrySpread_A]
  cases hok : delayOk w m t n with
  | true =>
    obtain ⟨d1, d2, d3⟩ := delay_range hok
    have hr := mix_rem (n := n) (seed := seed) (show 0 ≤ delayA w m t n by omega)
    have hs : spreadA w m t n seed = delayA w m t n + (mixA n seed).tmod (delayA w m t n / 2 + 1) := by simp [spreadA, hok]
    have e1 : IntKind.i64.wrap (delayA w m t n + IntKind.i64.wrap ((delayA w m t n).tdiv 2)) = delayA w m t n + delayA w m t n / 2 := by
      rw [Int.tdiv_eq_ediv_of_nonneg (by omega), wrap_id (n := delayA w m t n / 2) (by omega), wrap_id (by omega)]
    have e2 : IntKind.i64.wrap (m + IntKind.i64.wrap (m.tdiv 2)) = m + m / 2 := by
      rw [Int.tdiv_eq_ediv_of_nonneg (by omega), wrap_id (n := m / 2) (by omega), wrap_id (by omega)]
    have c1 : spreadA w m t n seed ≥ delayA w m t n := by omega
    have c2 : spreadA w m t n seed ≤ delayA w m t n + delayA w m t n / 2 := by omega
    have c3 : spreadA w m t n seed ≤ m + m / 2 := by omega
    simp only [go_sem, Nat.reduceEqDiff, Nat.reduceAdd, Nat.reduceSub, Nat.reduceMul, Nat.reduceLeDiff, Nat.reduceLT, Int.reduceLE, Int.reduceLT, Int.reduceEq, reduceCtorEq, decide_true, decide_false, awake_ok, ours_ok, Delay_ok, Spread_ok, E_raw, raws, cop.recv, scV_true, scV_false, hok, e1, e2, c1, c2, c3, beq_self_eq_true, ne_eq, not_false_eq_true, show ((2 : Int) = 0) = False from by simp]
  | false =>
    have e1 : spreadA w m t n seed = 0 := by simp [spreadA, hok]
    simp only [go_sem, Nat.reduceEqDiff, Nat.reduceAdd, Nat.reduceSub, Nat.reduceMul, Nat.reduceLeDiff, Nat.reduceLT, Int.reduceLE, Int.reduceLT, Int.reduceEq, reduceCtorEq, decide_true, decide_false, awake_ok, ours_ok, Delay_ok, Spread_ok, E_raw, raws, cop.recv, scV_true, scV_false, hok, e1, beq_self_eq_true]
end Go.Proofs.Ytcfbnhdcpmnpaaa.Fn
