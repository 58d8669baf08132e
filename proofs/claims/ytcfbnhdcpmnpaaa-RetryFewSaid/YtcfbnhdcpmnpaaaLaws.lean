/- The laws of the retry chapter answer true. -/
import Derived.Test.YtcfbnhdcpmnpaaaFn
set_option linter.unusedSimpArgs false
set_option linter.unusedVariables false
namespace Go.Proofs.Ytcfbnhdcpmnpaaa.Fn
open Go Go.Abs

theorem ours_ok (w m t : Int) (σ : Store) : callv E (.fn godwitlaw20_ours [] []) [.agg [aint w, aint m, aint t]] σ = some (.agg [aint w, aint m, aint t], σ) := by
  rw [call_fn (E_X _) (E_fn godwitlaw20_ours_c), godwitlaw20_ours_A]
  simp only [go_sem, Nat.reduceEqDiff, Nat.reduceAdd, Nat.reduceSub, Nat.reduceMul, Nat.reduceLeDiff, Nat.reduceLT, Int.reduceLE, Int.reduceLT, Int.reduceEq, reduceCtorEq, decide_true, decide_false]

theorem awake_ok (σ : Store) : callv E (.fn godwitlaw20_awake [] []) [] σ = some (abool true, σ) := by
  rw [call_fn (E_X _) (E_fn godwitlaw20_awake_c), godwitlaw20_awake_A]
  have d1 : delayA 3 20 5 2 = 12 := by decide
  have d2 : delayA 3 20 5 4 = 20 := by decide
  have o1 : delayOk 3 20 5 2 = true := by decide
  have o2 : delayOk 3 20 5 4 = true := by decide
  have o3 : delayOk 3 20 5 5 = false := by decide
  have s1 : sane 3 20 5 = true := by decide
  have t1 : totalA 3 20 5 = 61 := by decide
  have b1 : byA 3 20 5 9 = 2 := by decide
  simp only [go_sem, Nat.reduceEqDiff, Nat.reduceAdd, Nat.reduceSub, Nat.reduceMul, Nat.reduceLeDiff, Nat.reduceLT, Int.reduceLE, Int.reduceLT, Int.reduceEq, reduceCtorEq, decide_true, decide_false, Delay_ok, Total_ok, By_ok, Sane_ok, E_raw, raws, cop.recv, d1, d2, o1, o2, o3, s1, t1, b1, beq_self_eq_true]

/-- What was last, and all so far. -/
def lastA (w m t : Int) (i : Nat) : Int := if sane w m t then (if Nat.min i t.toNat = 0 then 0 else del w m (Nat.min i t.toNat - 1)) else 0
def sumA (w m t : Int) (i : Nat) : Int := if sane w m t then tot w m (Nat.min i t.toNat) else 0

theorem rises_loop {w m t : Int} {σ : Store} : ∀ (k i : Nat) (tm : Nat → AVal), i + k = 101 → tm 1 = .ptr σ.length 1 0 → tm 3 = abool true → tm 4 = .ptr (σ.length + 3) 1 0 → tm 5 = aint (lastA w m t i) → tm 6 = aint (sumA w m t i) → tm 7 = aint i →
    ∃ tm', exec E (.loop godwitlaw20_RetryRises_L0) ⟨tm, σ ++ [.var 1 [aint w, aint m, aint t], .dead 0, .dead 0, .var 1 [aint w, aint m, aint t], .dead 0, .dead 0, .dead 0], σ.length⟩ =
      some (.exit 0, ⟨tm', σ ++ [.var 1 [aint w, aint m, aint t], .dead 0, .dead 0, .var 1 [aint w, aint m, aint t], .dead 0, .dead 0, .dead 0], σ.length⟩) ∧ tm' 6 = aint (sumA w m t 101) ∧ tm' 3 = abool true ∧ tm' 4 = .ptr (σ.length + 3) 1 0
  | 0, i, tm, hi, h1, h3, h4, h5, h6, h7 => by
    obtain rfl : i = 101 := by omega
    rw [exec_loop]
    generalize hT : thenX E (.loop godwitlaw20_RetryRises_L0) = T
    rw [godwitlaw20_RetryRises_L0]
    have h7' : tm 7 = aint (101 : Int) := h7
    simp only [go_sem, Nat.reduceEqDiff, Nat.reduceAdd, Nat.reduceSub, Nat.reduceMul, Nat.reduceLeDiff, Nat.reduceLT, Int.reduceLE, Int.reduceLT, Int.reduceEq, reduceCtorEq, decide_true, decide_false, h1, h4, h5, h6, h7', show (decide ((101 : Int) < 101)) = false from by decide]
    rw [← hT, thenX_exit]
    refine ⟨_, rfl, ?_, ?_, ?_⟩
    · simp [upd, h6]
    · simp [upd, h3]
    · simp [upd, h4]
  | k + 1, i, tm, hi, h1, h3, h4, h5, h6, h7 => by
    have hlt : decide ((i : Int) < 101) = true := by simp; omega
    rw [exec_loop]
    generalize hT : thenX E (.loop godwitlaw20_RetryRises_L0) = T
    rw [godwitlaw20_RetryRises_L0]
    have hwi2 : IntKind.i64.wrap ((i : Int) + 1) = (i : Int) + 1 := wrap_id (by omega)
    have hwi : IntKind.i64.wrap ((i : Int) + 1) = ((i + 1 : Nat) : Int) := by rw [wrap_id (by omega)]; rfl
    simp only [go_sem, Nat.reduceEqDiff, Nat.reduceAdd, Nat.reduceSub, Nat.reduceMul, Nat.reduceLeDiff, Nat.reduceLT, Int.reduceLE, Int.reduceLT, Int.reduceEq, reduceCtorEq, decide_true, decide_false, h1, h4, h5, h6, h7, hlt, Delay_ok, Sane_ok, E_raw, raws, cop.recv, scV_true, hwi]
    by_cases hok : delayOk w m t i = true
    · have hb : sane w m t = true ∧ (i : Int) < t := by
        simp only [delayOk, Bool.and_eq_true, decide_eq_true_eq] at hok; exact ⟨hok.1.1, hok.2⟩
      obtain ⟨hs, hit⟩ := hb
      obtain ⟨hw, hm, hM, ht0, ht⟩ := sane_bounds hs
      have hm1 : Nat.min i t.toNat = i := by show min i t.toNat = i; omega
      have hm2 : Nat.min (i + 1) t.toNat = i + 1 := by show min (i + 1) t.toNat = i + 1; omega
      have hd : delayA w m t i = del w m i := by
        have : (sane w m t && decide (0 ≤ (i : Int)) && decide ((i : Int) < t)) = true := hok
        simp only [delayA, this, if_true, Int.toNat_natCast]
      have hl1 : lastA w m t (i + 1) = del w m i := by simp [lastA, hs, hm2]
      have hs1 : sumA w m t (i + 1) = sumA w m t i + del w m i := by simp [sumA, hs, hm1, hm2, tot]
      have hsb : 0 ≤ sumA w m t i ∧ sumA w m t i ≤ 1073741824 * i := by
        have := tot_pos hw hm hM i
        simpa [sumA, hs, hm1] using this
      have hlb : 0 ≤ lastA w m t i ∧ lastA w m t i ≤ m := by
        simp only [lastA, hs, hm1, if_true]
        split
        · omega
        · have := del_pos hw hm (i - 1); omega
      have hwl : IntKind.i64.wrap (2 * lastA w m t i) = 2 * lastA w m t i := wrap_id (by omega)
      have hdb := del_pos hw hm i
      have hws : IntKind.i64.wrap (sumA w m t i + del w m i) = sumA w m t (i + 1) := by rw [hs1, wrap_id (by omega)]
      have hexp : (((i : Int) == 0 && del w m i != w || decide ((i : Int) > 0) && del w m i != if m < 2 * lastA w m t i then m else 2 * lastA w m t i) || decide (del w m i < lastA w m t i)) = false := by
        cases i with
        | zero => simp [del, lastA, Nat.min]; omega
        | succ j =>
          have hl : lastA w m t (j + 1) = del w m j := by simp [lastA, hs, hm1]
          have hdj := del_pos hw hm j
          rw [hl]
          simp only [del]
          have e1 : (((j + 1 : Nat) : Int) == 0) = false := by simp; omega
          rw [e1]
          by_cases hc : m < 2 * del w m j
          · simp only [hc, if_true]
            have : decide (m < del w m j) = false := by simp; omega
            simp [this]
          · simp only [hc, if_false]
            have : decide (2 * del w m j < del w m j) = false := by simp; omega
            simp [this]
      simp only [go_sem, Nat.reduceEqDiff, Nat.reduceAdd, Nat.reduceSub, Nat.reduceMul, Nat.reduceLeDiff, Nat.reduceLT, Int.reduceLE, Int.reduceLT, Int.reduceEq, reduceCtorEq, decide_true, decide_false, h1, h4, h5, h6, h7, hok, hs, hit, decide_true, beq_self_eq_true, hd, hwl, hexp, hws, bne_self_eq_false]
      rw [← hT, thenX_normal]
      refine rises_loop k (i + 1) _ (by omega) ?_ ?_ ?_ ?_ ?_ ?_
      · simp [upd, clr, h1]
      · simp [upd, clr, h3]
      · simp [upd, clr, h4]
      · simp [upd, clr, hl1]
      · simp [upd, clr]
      · simp [upd, clr, hwi2]
    · have hok' : delayOk w m t i = false := by simpa using hok
      have hb : (sane w m t && decide ((i : Int) < t)) = false := by
        simp only [delayOk] at hok'
        have : decide (0 ≤ (i : Int)) = true := by simp
        rw [this] at hok'
        simpa using hok'
      have hmn : sane w m t = true → Nat.min (i + 1) t.toNat = Nat.min i t.toNat := by
        intro hs
        have : ¬ (i : Int) < t := by simpa [hs] using hb
        show min (i + 1) t.toNat = min i t.toNat
        omega
      have hl1 : lastA w m t (i + 1) = lastA w m t i := by
        unfold lastA
        by_cases hs : sane w m t = true
        · rw [if_pos hs, if_pos hs, hmn hs]
        · rw [if_neg hs, if_neg hs]
      have hs1 : sumA w m t (i + 1) = sumA w m t i := by
        unfold sumA
        by_cases hs : sane w m t = true
        · rw [if_pos hs, if_pos hs, hmn hs]
        · rw [if_neg hs, if_neg hs]
      have hb' : (if sane w m t = true then decide ((i : Int) < t) else false) = false := by rw [← hb]; cases sane w m t <;> rfl
      simp only [go_sem, Nat.reduceEqDiff, Nat.reduceAdd, Nat.reduceSub, Nat.reduceMul, Nat.reduceLeDiff, Nat.reduceLT, Int.reduceLE, Int.reduceLT, Int.reduceEq, reduceCtorEq, decide_true, decide_false, h1, h4, h5, h6, h7, hok', hb, hb', beq_self_eq_true, bne_self_eq_false]
      rw [← hT, thenX_normal]
      refine rises_loop k (i + 1) _ (by omega) ?_ ?_ ?_ ?_ ?_ ?_
      · simp [upd, clr, h1]
      · simp [upd, clr, h3]
      · simp [upd, clr, h4]
      · simp [upd, clr, hl1, h5]
      · simp [upd, clr, hs1, h6]
      · simp [upd, clr, hwi2]

theorem rises_skol (w m t : Int) (σ : Store) : ∃ F : (Nat → AVal) → Nat → AVal, ∀ tm : Nat → AVal, tm 1 = .ptr σ.length 1 0 ∧ tm 3 = abool true ∧ tm 4 = .ptr (σ.length + 3) 1 0 ∧ tm 5 = aint 0 ∧ tm 6 = aint 0 ∧ tm 7 = aint 0 →
    exec E (.loop godwitlaw20_RetryRises_L0) ⟨tm, σ ++ [.var 1 [aint w, aint m, aint t], .dead 0, .dead 0, .var 1 [aint w, aint m, aint t], .dead 0, .dead 0, .dead 0], σ.length⟩ =
      some (.exit 0, ⟨F tm, σ ++ [.var 1 [aint w, aint m, aint t], .dead 0, .dead 0, .var 1 [aint w, aint m, aint t], .dead 0, .dead 0, .dead 0], σ.length⟩) ∧ F tm 6 = aint (sumA w m t 101) ∧ F tm 3 = abool true ∧ F tm 4 = .ptr (σ.length + 3) 1 0 :=
  skol (Q := fun tm tm' => exec E (.loop godwitlaw20_RetryRises_L0) ⟨tm, σ ++ [.var 1 [aint w, aint m, aint t], .dead 0, .dead 0, .var 1 [aint w, aint m, aint t], .dead 0, .dead 0, .dead 0], σ.length⟩ =
      some (.exit 0, ⟨tm', σ ++ [.var 1 [aint w, aint m, aint t], .dead 0, .dead 0, .var 1 [aint w, aint m, aint t], .dead 0, .dead 0, .dead 0], σ.length⟩) ∧ tm' 6 = aint (sumA w m t 101) ∧ tm' 3 = abool true ∧ tm' 4 = .ptr (σ.length + 3) 1 0) fun tm ⟨h1, h3, h4, h5, h6, h7⟩ => rises_loop (w := w) (m := m) (t := t) (σ := σ) 101 0 tm rfl h1 h3 h4 (by rw [h5]; simp [lastA, Nat.min]) (by rw [h6]; simp [sumA, Nat.min, tot]) h7

theorem rises_ok (w m t : Int) (σ : Store) : callv E (.fn godwitlaw20_RetryRises [] []) [.agg [aint w, aint m, aint t]] σ = some (abool true, σ) := by
  rw [call_fn (E_X _) (E_fn godwitlaw20_RetryRises_c), godwitlaw20_RetryRises_A]
  simp only [go_sem, Nat.reduceEqDiff, Nat.reduceAdd, Nat.reduceSub, Nat.reduceMul, Nat.reduceLeDiff, Nat.reduceLT, Int.reduceLE, Int.reduceLT, Int.reduceEq, reduceCtorEq, decide_true, decide_false, awake_ok, ours_ok, E_raw, raws, cop.recv]
  obtain ⟨F, hF⟩ := rises_skol w m t σ
  rw [(hF _ ⟨rfl, rfl, rfl, rfl, rfl, rfl⟩).1]
  have h6 := fun tm h => (hF tm h).2.1
  have h3 := fun tm h => (hF tm h).2.2.1
  have h4 := fun tm h => (hF tm h).2.2.2
  have hs : (sumA w m t 101 == totalA w m t) = true := by
    simp only [sumA, totalA, beq_iff_eq]
    by_cases hs : sane w m t = true
    · obtain ⟨hw, hm, hM, ht0, ht⟩ := sane_bounds hs
      rw [if_pos hs, if_pos hs]
      have : Nat.min 101 t.toNat = t.toNat := by show min 101 t.toNat = t.toNat; omega
      rw [this]
    · rw [if_neg hs, if_neg hs]
  simp only [go_sem, Nat.reduceEqDiff, Nat.reduceAdd, Nat.reduceSub, Nat.reduceMul, Nat.reduceLeDiff, Nat.reduceLT, Int.reduceLE, Int.reduceLT, Int.reduceEq, reduceCtorEq, decide_true, decide_false]
  rw [h3 _ ⟨rfl, rfl, rfl, rfl, rfl, rfl⟩]
  simp only [go_sem, Nat.reduceEqDiff, Nat.reduceAdd, Nat.reduceSub, Nat.reduceMul, Nat.reduceLeDiff, Nat.reduceLT, Int.reduceLE, Int.reduceLT, Int.reduceEq, reduceCtorEq, decide_true, decide_false]
  rw [h6 _ ⟨rfl, rfl, rfl, rfl, rfl, rfl⟩, h4 _ ⟨rfl, rfl, rfl, rfl, rfl, rfl⟩]
  simp only [go_sem, Nat.reduceEqDiff, Nat.reduceAdd, Nat.reduceSub, Nat.reduceMul, Nat.reduceLeDiff, Nat.reduceLT, Int.reduceLE, Int.reduceLT, Int.reduceEq, reduceCtorEq, decide_true, decide_false, Total_ok, E_raw, raws, cop.recv, hs]
end Go.Proofs.Ytcfbnhdcpmnpaaa.Fn
