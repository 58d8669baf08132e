/- The laws of the retry chapter answer true: RetryIs, RetryDoubles, RetryFew. -/
import Derived.Test.YtcfbnhdcpmnpaaaLawsC
set_option linter.unusedSimpArgs false
set_option linter.unusedVariables false
namespace Go.Proofs.Ytcfbnhdcpmnpaaa.Fn
open Go Go.Abs

theorem RSpread_ok (w m t n seed : Int) (σ : Store) : callv E (.fn godwitref20_Spread [] []) [.agg [aint w, aint m, aint t], aint n, .atom (.int .u64 seed)] σ = some (.tup [aint (spreadA w m t n seed), abool (delayOk w m t n)], σ) := by
  rw [call_fn (E_X _) (E_fn godwitref20_Spread_c), godwitref20_Spread_A]
  cases hok : delayOk w m t n with
  | true =>
    obtain ⟨d1, d2, d3⟩ := delay_range hok
    have hq : IntKind.u64.wrap (IntKind.i64.wrap (IntKind.i64.wrap ((delayA w m t n).tdiv 2) + 1)) = delayA w m t n / 2 + 1 := by
      rw [Int.tdiv_eq_ediv_of_nonneg (by omega), wrap_id (n := delayA w m t n / 2) (by omega), wrap_id (by omega), wrap_u (by omega)]
    have hne : delayA w m t n / 2 + 1 ≠ 0 := by omega
    have hr := mix_rem (n := n) (seed := seed) (show 0 ≤ delayA w m t n by omega)
    have hw : IntKind.i64.wrap (delayA w m t n + IntKind.i64.wrap ((mixA n seed).tmod (delayA w m t n / 2 + 1))) = spreadA w m t n seed := by
      rw [wrap_id (n := (mixA n seed).tmod _) (by omega), wrap_id (by omega)]
      simp [spreadA, hok]
    simp only [go_sem, Nat.reduceEqDiff, Nat.reduceAdd, Nat.reduceSub, Nat.reduceMul, Nat.reduceLeDiff, Nat.reduceLT, Int.reduceLE, Int.reduceLT, Int.reduceEq, reduceCtorEq, decide_true, decide_false, RDelay_ok, E_raw, raws, cop.recv, hok, hq, hne, ne_eq, not_false_eq_true, show ((2 : Int) = 0) = False from by simp]
    simp only [mixA] at hw
    rw [hw]
  | false =>
    simp only [go_sem, Nat.reduceEqDiff, Nat.reduceAdd, Nat.reduceSub, Nat.reduceMul, Nat.reduceLeDiff, Nat.reduceLT, Int.reduceLE, Int.reduceLT, Int.reduceEq, reduceCtorEq, decide_true, decide_false, RDelay_ok, E_raw, raws, cop.recv, hok, spreadA]

theorem is_ok (w m t n T seed : Int) (σ : Store) : callv E (.fn godwitlaw20_RetryIs [] []) [.agg [aint w, aint m, aint t], aint n, aint T, .atom (.int .u64 seed)] σ = some (abool true, σ) := by
  rw [call_fn (E_X _) (E_fn godwitlaw20_RetryIs_c), godwitlaw20_RetryIs_A]
  simp only [go_sem, Nat.reduceEqDiff, Nat.reduceAdd, Nat.reduceSub, Nat.reduceMul, Nat.reduceLeDiff, Nat.reduceLT, Int.reduceLE, Int.reduceLT, Int.reduceEq, reduceCtorEq, decide_true, decide_false, awake_ok, ours_ok, Delay_ok, RDelay_ok, Spread_ok, RSpread_ok, Sane_ok, RSane_ok, Total_ok, RTotal_ok, By_ok, RBy_ok, E_raw, raws, cop.recv, scV_true, scV_false, beq_self_eq_true]

theorem del_two (w m : Int) : ∀ n, del (2 * w) (2 * m) n = 2 * del w m n
  | 0 => rfl
  | n + 1 => by
    simp only [del, del_two w m n]
    split <;> split <;> omega
theorem tot_two (w m : Int) : ∀ n, tot (2 * w) (2 * m) n = 2 * tot w m n
  | 0 => rfl
  | n + 1 => by simp only [tot, tot_two w m n, del_two]; omega

theorem doubles_ok (w m t n : Int) (σ : Store) : callv E (.fn godwitlaw20_RetryDoubles [] []) [.agg [aint w, aint m, aint t], aint n] σ = some (abool true, σ) := by
  rw [call_fn (E_X _) (E_fn godwitlaw20_RetryDoubles_c), godwitlaw20_RetryDoubles_A]
  cases hs : sane w m t with
  | false => simp only [go_sem, Nat.reduceEqDiff, Nat.reduceAdd, Nat.reduceSub, Nat.reduceMul, Nat.reduceLeDiff, Nat.reduceLT, Int.reduceLE, Int.reduceLT, Int.reduceEq, reduceCtorEq, decide_true, decide_false, awake_ok, RSane_ok, E_raw, raws, cop.recv, scV_true, scV_false, hs]
  | true =>
    by_cases h1 : w > 524288
    · simp only [go_sem, Nat.reduceEqDiff, Nat.reduceAdd, Nat.reduceSub, Nat.reduceMul, Nat.reduceLeDiff, Nat.reduceLT, Int.reduceLE, Int.reduceLT, Int.reduceEq, reduceCtorEq, decide_true, decide_false, awake_ok, RSane_ok, E_raw, raws, cop.recv, scV_true, scV_false, hs, h1]
    · by_cases h2 : m > 536870912
      · simp only [go_sem, Nat.reduceEqDiff, Nat.reduceAdd, Nat.reduceSub, Nat.reduceMul, Nat.reduceLeDiff, Nat.reduceLT, Int.reduceLE, Int.reduceLT, Int.reduceEq, reduceCtorEq, decide_true, decide_false, awake_ok, RSane_ok, E_raw, raws, cop.recv, scV_true, scV_false, hs, h1, h2]
      · obtain ⟨hw, hm, hM, ht0, ht⟩ := sane_bounds hs
        have w1 : IntKind.i64.wrap (2 * w) = 2 * w := wrap_id (by omega)
        have w2 : IntKind.i64.wrap (2 * m) = 2 * m := wrap_id (by omega)
        have hs2 : sane (2 * w) (2 * m) t = true := by simp only [sane, Bool.and_eq_true, decide_eq_true_eq]; omega
        have hok : delayOk (2 * w) (2 * m) t n = delayOk w m t n := by simp [delayOk, hs, hs2]
        have hd : delayA (2 * w) (2 * m) t n = 2 * delayA w m t n := by
          simp only [delayA, hs, hs2, del_two]; split <;> rfl
        have ht' : totalA (2 * w) (2 * m) t = 2 * totalA w m t := by simp [totalA, hs, hs2, tot_two]
        have hdb : -4611686018427387904 ≤ delayA w m t n ∧ delayA w m t n ≤ 4611686018427387903 := by
          cases hk : delayOk w m t n with
          | true => have := delay_range hk; omega
          | false =>
            have : delayA w m t n = 0 := by
              simp only [delayA]; rw [if_neg]; simp only [delayOk] at hk; simp [hk]
            omega
        have htb := tot_pos hw hm hM t.toNat
        have htt : totalA w m t = tot w m t.toNat := by simp [totalA, hs]
        have w3 : IntKind.i64.wrap (2 * delayA w m t n) = 2 * delayA w m t n := wrap_id (by omega)
        have w4 : IntKind.i64.wrap (2 * totalA w m t) = 2 * totalA w m t := wrap_id (by omega)
        simp only [go_sem, Nat.reduceEqDiff, Nat.reduceAdd, Nat.reduceSub, Nat.reduceMul, Nat.reduceLeDiff, Nat.reduceLT, Int.reduceLE, Int.reduceLT, Int.reduceEq, reduceCtorEq, decide_true, decide_false, awake_ok, ours_ok, RSane_ok, Delay_ok, Total_ok, E_raw, raws, cop.recv, scV_true, scV_false, hs, h1, h2, w1, w2, hok, hd, ht', w3, w4, beq_self_eq_true]

theorem tot_le {w m : Int} (hw : 1 ≤ w) (hm : w ≤ m) {i j : Nat} (h : i ≤ j) : tot w m i ≤ tot w m j := by
  have := tot_mono hw hm (j - i) i
  rwa [show i + (j - i) = j by omega] at this

theorem few_ok (w m t k n : Int) (σ : Store) : callv E (.fn godwitlaw20_RetryFew [] []) [.agg [aint w, aint m, aint t], aint k, aint n] σ = some (abool true, σ) := by
  rw [call_fn (E_X _) (E_fn godwitlaw20_RetryFew_c), godwitlaw20_RetryFew_A]
  cases hs : sane w m t with
  | false => simp only [go_sem, Nat.reduceEqDiff, Nat.reduceAdd, Nat.reduceSub, Nat.reduceMul, Nat.reduceLeDiff, Nat.reduceLT, Int.reduceLE, Int.reduceLT, Int.reduceEq, reduceCtorEq, decide_true, decide_false, awake_ok, RSane_ok, E_raw, raws, cop.recv, scV_true, scV_false, hs]
  | true =>
    obtain ⟨hw, hm, hM, ht0, ht⟩ := sane_bounds hs
    have w1 : IntKind.i64.wrap (t + 1) = t + 1 := wrap_id (by omega)
    have hne : t + 1 ≠ 0 := by omega
    have hand : (((BitVec.ofInt IntKind.i64.bits k &&& BitVec.ofInt IntKind.i64.bits 255).toNat : Nat) : Int) ≤ 255 := by
      rw [BitVec.toNat_and]
      have := Nat.and_le_right (n := (BitVec.ofInt IntKind.i64.bits k).toNat) (m := (BitVec.ofInt IntKind.i64.bits 255).toNat)
      have h255 : (BitVec.ofInt IntKind.i64.bits 255).toNat = 255 := by decide
      rw [h255] at this ⊢
      omega
    have w2 : IntKind.i64.wrap (((BitVec.ofInt IntKind.i64.bits k &&& BitVec.ofInt IntKind.i64.bits 255).toNat : Nat) : Int) = (((BitVec.ofInt IntKind.i64.bits k &&& BitVec.ofInt IntKind.i64.bits 255).toNat : Nat) : Int) := wrap_id (by omega)
    generalize hx : (((BitVec.ofInt IntKind.i64.bits k &&& BitVec.ofInt IntKind.i64.bits 255).toNat : Nat) : Int) = x at hand w2
    have hx0 : 0 ≤ x := by omega
    generalize hq : x.tmod (t + 1) = q
    have hq0 : 0 ≤ q ∧ q ≤ t := by
      rw [Int.tmod_eq_emod_of_nonneg hx0] at hq
      have h2 := Int.emod_nonneg x hne
      have h3 := Int.emod_lt_of_pos x (show 0 < t + 1 by omega)
      omega
    have hw2 : w ≤ 1048576 := by simp only [sane, Bool.and_eq_true, decide_eq_true_eq] at hs; omega
    have hs2 : sane w m q = true := by simp only [sane, Bool.and_eq_true, decide_eq_true_eq]; omega
    have hok : delayOk w m q n = (delayOk w m t n && decide (n < q)) := by
      simp only [delayOk, hs, hs2, Bool.true_and]
      by_cases h1 : n < q
      · have : decide (n < t) = true := by simp; omega
        simp [h1, this]
      · simp [h1]
    have htt : totalA w m t = tot w m t.toNat := by simp [totalA, hs]
    have hqq : totalA w m q = tot w m q.toNat := by simp [totalA, hs2]
    have hle : totalA w m q ≤ totalA w m t := by rw [htt, hqq]; exact tot_le hw hm (by omega)
    have hby : byA w m q 1099511627776 = q := by
      obtain ⟨b1, b2, b3, b4⟩ := byF_spec w m 1099511627776 q.toNat 0
      have hb : byA w m q 1099511627776 = (byF w m 1099511627776 q.toNat 0 : Nat) := by simp [byA, hs2]
      rw [hb]
      by_cases hlt : byF w m 1099511627776 q.toNat 0 < 0 + q.toNat
      · have h1 := b4 hlt
        have h2 := tot_pos hw hm hM (byF w m 1099511627776 q.toNat 0 + 1)
        omega
      · omega
    cases hkq : delayOk w m q n with
    | false =>
      have e : (delayOk w m t n && decide (n < q)) = false := by rw [← hok, hkq]
      have e' : (if delayOk w m t n = true then decide (n < q) else false) = false := by rw [← e]; cases delayOk w m t n <;> rfl
      simp only [go_sem, Nat.reduceEqDiff, Nat.reduceAdd, Nat.reduceSub, Nat.reduceMul, Nat.reduceLeDiff, Nat.reduceLT, Int.reduceLE, Int.reduceLT, Int.reduceEq, reduceCtorEq, decide_true, decide_false, awake_ok, ours_ok, RSane_ok, Delay_ok, Total_ok, By_ok, E_raw, raws, cop.recv, scV_true, scV_false, hs, w1, w2, hx, hq, hne, ne_eq, not_false_eq_true, hkq, e, e', hle, hby, beq_self_eq_true]
    | true =>
      have e : (delayOk w m t n && decide (n < q)) = true := by rw [← hok, hkq]
      have e1 : delayOk w m t n = true := by simp at e; exact e.1
      have e2 : n < q := by simp at e; exact e.2
      have hd : delayA w m t n = delayA w m q n := by
        have a1 : (sane w m t && decide (0 ≤ n) && decide (n < t)) = true := e1
        have a2 : (sane w m q && decide (0 ≤ n) && decide (n < q)) = true := hkq
        simp only [delayA, a1, a2, if_true]
      simp only [go_sem, Nat.reduceEqDiff, Nat.reduceAdd, Nat.reduceSub, Nat.reduceMul, Nat.reduceLeDiff, Nat.reduceLT, Int.reduceLE, Int.reduceLT, Int.reduceEq, reduceCtorEq, decide_true, decide_false, awake_ok, ours_ok, RSane_ok, Delay_ok, Total_ok, By_ok, E_raw, raws, cop.recv, scV_true, scV_false, hs, w1, w2, hx, hq, hne, ne_eq, not_false_eq_true, hkq, e1, e2, hd, hle, hby, beq_self_eq_true]
end Go.Proofs.Ytcfbnhdcpmnpaaa.Fn
