/- The document's answer for the retry chapter, reckoned; the other laws. -/
import Derived.Test.YtcfbnhdcpmnpaaaLawsB
set_option linter.unusedSimpArgs false
set_option linter.unusedVariables false
namespace Go.Proofs.Ytcfbnhdcpmnpaaa.Fn
open Go Go.Abs

theorem RSane_ok (w m t : Int) (σ : Store) : callv E (.fn godwitref20_Sane [] []) [.agg [aint w, aint m, aint t]] σ = some (abool (sane w m t), σ) := by
  rw [call_fn (E_X _) (E_fn godwitref20_Sane_c), godwitref20_Sane_A]
  simp only [go_sem, Nat.reduceEqDiff, Nat.reduceAdd, Nat.reduceSub, Nat.reduceMul, Nat.reduceLeDiff, Nat.reduceLT, Int.reduceLE, Int.reduceLT, Int.reduceEq, reduceCtorEq, decide_true, decide_false, sane]

theorem RDelay_ok (w m t n : Int) (σ : Store) : callv E (.fn godwitref20_Delay [] []) [.agg [aint w, aint m, aint t], aint n] σ = some (.tup [aint (delayA w m t n), abool (delayOk w m t n)], σ) := by
  rw [call_fn (E_X _) (E_fn godwitref20_Delay_c), godwitref20_Delay_A]
  cases hs : sane w m t with
  | false => simp only [go_sem, Nat.reduceEqDiff, Nat.reduceAdd, Nat.reduceSub, Nat.reduceMul, Nat.reduceLeDiff, Nat.reduceLT, Int.reduceLE, Int.reduceLT, Int.reduceEq, reduceCtorEq, decide_true, decide_false, RSane_ok, E_raw, raws, cop.recv, scV_false, hs, delayA, delayOk]
  | true =>
    obtain ⟨hw, hm, hM, ht0, ht⟩ := sane_bounds hs
    by_cases hn : 0 ≤ n ∧ n < t
    · have h1 : decide (n < 0) = false := by simp; omega
      have h2 : decide (t ≤ n) = false := by simp; omega
      obtain ⟨F, hF⟩ := loop_go (E := E) (body := godwitref20_Delay_L0) (base := σ.length) (fun _ => σ ++ [.var 1 [aint w, aint m, aint t], .dead 0]) (σ ++ [.var 1 [aint w, aint m, aint t], .dead 0])
        (fun i tm => tm 1 = aint n ∧ tm 2 = .ptr σ.length 1 0 ∧ tm 6 = aint (del w m i) ∧ tm 7 = aint i) (fun tm => tm 6 = aint (del w m n.toNat)) n.toNat (.exit 0) (by simp)
        (fun i tm hi ⟨g1, g2, g6, g7⟩ => by
          have hlt : decide ((i : Int) < n) = true := by simp; omega
          have hd := del_pos hw hm i
          have hwi : IntKind.i64.wrap ((i : Int) + 1) = (i : Int) + 1 := wrap_id (by omega)
          have hwd : IntKind.i64.wrap (2 * del w m i) = 2 * del w m i := wrap_id (by omega)
          rw [godwitref20_Delay_L0]
          simp only [go_sem, Nat.reduceEqDiff, Nat.reduceAdd, Nat.reduceSub, Nat.reduceMul, Nat.reduceLeDiff, Nat.reduceLT, Int.reduceLE, Int.reduceLT, Int.reduceEq, reduceCtorEq, decide_true, decide_false, g1, g2, g6, g7, hlt, hwi, hwd]
          refine ⟨_, rfl, ?_, ?_, ?_, ?_⟩
          · simp [upd, g1]
          · simp [upd, g2]
          · simp [upd, del]
          · simp [upd])
        (fun tm ⟨g1, g2, g6, g7⟩ => by
          have hlt : decide (((n.toNat : Nat) : Int) < n) = false := by simp; omega
          rw [godwitref20_Delay_L0]
          simp only [go_sem, Nat.reduceEqDiff, Nat.reduceAdd, Nat.reduceSub, Nat.reduceMul, Nat.reduceLeDiff, Nat.reduceLT, Int.reduceLE, Int.reduceLT, Int.reduceEq, reduceCtorEq, decide_true, decide_false, g1, g2, g6, g7, hlt]
          exact ⟨_, rfl, by simp [upd, g6]⟩)
      simp only [go_sem, Nat.reduceEqDiff, Nat.reduceAdd, Nat.reduceSub, Nat.reduceMul, Nat.reduceLeDiff, Nat.reduceLT, Int.reduceLE, Int.reduceLT, Int.reduceEq, reduceCtorEq, decide_true, decide_false, RSane_ok, E_raw, raws, cop.recv, scV_false, hs, h1, h2, ge_iff_le]
      rw [(hF _ ⟨rfl, rfl, rfl, rfl⟩).1]
      have h6 := fun tm h => (hF tm h).2
      simp only [go_sem, Nat.reduceEqDiff, Nat.reduceAdd, Nat.reduceSub, Nat.reduceMul, Nat.reduceLeDiff, Nat.reduceLT, Int.reduceLE, Int.reduceLT, Int.reduceEq, reduceCtorEq, decide_true, decide_false]
      rw [h6 _ ⟨rfl, rfl, rfl, rfl⟩]
      simp only [go_sem, Nat.reduceEqDiff, Nat.reduceAdd, Nat.reduceSub, Nat.reduceMul, Nat.reduceLeDiff, Nat.reduceLT, Int.reduceLE, Int.reduceLT, Int.reduceEq, reduceCtorEq, decide_true, decide_false, delayA, delayOk, hs, hn.1, hn.2]
    · have h3 : (decide (0 ≤ n) && decide (n < t)) = false := by simp; omega
      by_cases h0 : n < 0
      · simp only [go_sem, Nat.reduceEqDiff, Nat.reduceAdd, Nat.reduceSub, Nat.reduceMul, Nat.reduceLeDiff, Nat.reduceLT, Int.reduceLE, Int.reduceLT, Int.reduceEq, reduceCtorEq, decide_true, decide_false, RSane_ok, E_raw, raws, cop.recv, scV_false, hs, h0, delayA, delayOk, h3]
      · have h2 : t ≤ n := by omega
        simp only [go_sem, Nat.reduceEqDiff, Nat.reduceAdd, Nat.reduceSub, Nat.reduceMul, Nat.reduceLeDiff, Nat.reduceLT, Int.reduceLE, Int.reduceLT, Int.reduceEq, reduceCtorEq, decide_true, decide_false, RSane_ok, E_raw, raws, cop.recv, scV_false, hs, h0, h2, ge_iff_le, delayA, delayOk, h3]

theorem delayA_in {w m t : Int} (hs : sane w m t = true) {i : Nat} (hi : (i : Int) < t) : delayA w m t i = del w m i ∧ delayOk w m t i = true := by
  have h : (sane w m t && decide (0 ≤ (i : Int)) && decide ((i : Int) < t)) = true := by simp [hs, hi]
  exact ⟨by simp only [delayA, h, if_true, Int.toNat_natCast], h⟩
theorem delayA_out {w m t : Int} {i : Nat} (hi : t ≤ (i : Int)) : delayA w m t i = 0 ∧ delayOk w m t i = false := by
  have h : (sane w m t && decide (0 ≤ (i : Int)) && decide ((i : Int) < t)) = false := by
    have : decide ((i : Int) < t) = false := by simp; omega
    simp [this]
  exact ⟨by simp only [delayA, h]; rfl, h⟩
theorem delayA_no {w m t : Int} (hs : sane w m t = false) (i : Int) : delayA w m t i = 0 ∧ delayOk w m t i = false := by
  have h : (sane w m t && decide (0 ≤ i) && decide (i < t)) = false := by simp [hs]
  exact ⟨by simp only [delayA, h]; rfl, h⟩
/-- The sum so far. -/
theorem sumA_next (w m t : Int) (i : Nat) : sumA w m t (i + 1) = sumA w m t i + delayA w m t i := by
  unfold sumA
  by_cases hs : sane w m t = true
  · simp only [hs, if_true]
    by_cases hi : (i : Int) < t
    · have hm1 : Nat.min i t.toNat = i := by show min i t.toNat = i; omega
      have hm2 : Nat.min (i + 1) t.toNat = i + 1 := by show min (i + 1) t.toNat = i + 1; omega
      rw [hm1, hm2, (delayA_in hs hi).1]
      rfl
    · have hm1 : Nat.min (i + 1) t.toNat = Nat.min i t.toNat := by show min (i + 1) t.toNat = min i t.toNat; omega
      rw [hm1, (delayA_out (by omega)).1]; omega
  · have hs : sane w m t = false := by simpa using hs
    rw [(delayA_no hs _).1]; simp [hs]
theorem sumA_pos (w m t : Int) (i : Nat) : 0 ≤ sumA w m t i ∧ sumA w m t i ≤ 1073741824 * i := by
  unfold sumA
  by_cases hs : sane w m t = true
  · obtain ⟨hw, hm, hM, ht0, ht⟩ := sane_bounds hs
    rw [if_pos hs]
    have := tot_pos hw hm hM (Nat.min i t.toNat)
    have h2 : Nat.min i t.toNat ≤ i := Nat.min_le_left ..
    omega
  · rw [if_neg hs]; omega
theorem sumA_all (w m t : Int) : sumA w m t 100 = totalA w m t := by
  unfold sumA totalA
  by_cases hs : sane w m t = true
  · obtain ⟨hw, hm, hM, ht0, ht⟩ := sane_bounds hs
    have : Nat.min 100 t.toNat = t.toNat := by show min 100 t.toNat = t.toNat; omega
    rw [if_pos hs, if_pos hs, this]
  · rw [if_neg hs, if_neg hs]

theorem RTotal_ok (w m t : Int) (σ : Store) : callv E (.fn godwitref20_Total [] []) [.agg [aint w, aint m, aint t]] σ = some (aint (totalA w m t), σ) := by
  rw [call_fn (E_X _) (E_fn godwitref20_Total_c), godwitref20_Total_A]
  obtain ⟨F, hF⟩ := loop_go (E := E) (body := godwitref20_Total_L0) (base := σ.length) (fun _ => σ ++ [.var 1 [aint w, aint m, aint t], .dead 0]) (σ ++ [.var 1 [aint w, aint m, aint t], .dead 0])
    (fun i tm => tm 1 = .ptr σ.length 1 0 ∧ tm 3 = aint (sumA w m t i) ∧ tm 4 = aint i) (fun tm => tm 3 = aint (sumA w m t 100)) 100 (.exit 0) (by simp)
    (fun i tm hi ⟨g1, g3, g4⟩ => by
      have hlt : decide ((i : Int) < 100) = true := by simp; omega
      have hwi : IntKind.i64.wrap ((i : Int) + 1) = (i : Int) + 1 := wrap_id (by omega)
      have hwd : IntKind.i64.wrap (sumA w m t i + delayA w m t i) = sumA w m t (i + 1) := by
        have := sumA_pos w m t (i + 1)
        rw [← sumA_next]; exact wrap_id (by omega)
      rw [godwitref20_Total_L0]
      simp only [go_sem, Nat.reduceEqDiff, Nat.reduceAdd, Nat.reduceSub, Nat.reduceMul, Nat.reduceLeDiff, Nat.reduceLT, Int.reduceLE, Int.reduceLT, Int.reduceEq, reduceCtorEq, decide_true, decide_false, g1, g3, g4, hlt, hwi, hwd, RDelay_ok, E_raw, raws, cop.recv]
      refine ⟨_, rfl, ?_, ?_, ?_⟩
      · simp [upd, g1]
      · simp [upd]
      · simp [upd])
    (fun tm ⟨g1, g3, g4⟩ => by
      have g4' : tm 4 = aint (100 : Int) := g4
      rw [godwitref20_Total_L0]
      simp only [go_sem, Nat.reduceEqDiff, Nat.reduceAdd, Nat.reduceSub, Nat.reduceMul, Nat.reduceLeDiff, Nat.reduceLT, Int.reduceLE, Int.reduceLT, Int.reduceEq, reduceCtorEq, decide_true, decide_false, g1, g3, g4', show decide ((100 : Int) < 100) = false from by decide]
      exact ⟨_, rfl, by simp [upd, g3]⟩)
  have h0 : sumA w m t 0 = 0 := by simp [sumA, Nat.min, tot]
  simp only [go_sem, Nat.reduceEqDiff, Nat.reduceAdd, Nat.reduceSub, Nat.reduceMul, Nat.reduceLeDiff, Nat.reduceLT, Int.reduceLE, Int.reduceLT, Int.reduceEq, reduceCtorEq, decide_true, decide_false]
  rw [(hF _ ⟨rfl, by simp [upd, h0], rfl⟩).1]
  have h6 := fun tm h => (hF tm h).2
  simp only [go_sem, Nat.reduceEqDiff, Nat.reduceAdd, Nat.reduceSub, Nat.reduceMul, Nat.reduceLeDiff, Nat.reduceLT, Int.reduceLE, Int.reduceLT, Int.reduceEq, reduceCtorEq, decide_true, decide_false]
  rw [h6 _ ⟨rfl, by simp [upd, h0], rfl⟩, sumA_all]
  simp only [go_sem, Nat.reduceEqDiff, Nat.reduceAdd, Nat.reduceSub, Nat.reduceMul, Nat.reduceLeDiff, Nat.reduceLT, Int.reduceLE, Int.reduceLT, Int.reduceEq, reduceCtorEq, decide_true, decide_false]

theorem RBy_ok (w m t T : Int) (σ : Store) : callv E (.fn godwitref20_By [] []) [.agg [aint w, aint m, aint t], aint T] σ = some (aint (byA w m t T), σ) := by
  rw [call_fn (E_X _) (E_fn godwitref20_By_c), godwitref20_By_A]
  -- up to K it goes on
  have go : ∀ (K : Nat) (x : AExit), x ≠ .normal → K ≤ 100 → (∀ i, i < K → delayOk w m t i = true ∧ sumA w m t (i + 1) ≤ T) →
      (∀ tm : Nat → AVal, tm 1 = aint T ∧ tm 2 = .ptr σ.length 1 0 ∧ tm 5 = aint (sumA w m t K) ∧ tm 6 = aint K → ∃ tm', exec E godwitref20_By_L0 ⟨tm, σ ++ [.var 1 [aint w, aint m, aint t], .dead 0], σ.length⟩ = some (x, ⟨tm', σ ++ [.var 1 [aint w, aint m, aint t], .dead 0], σ.length⟩) ∧ (x = .ret → tm' 4 = aint (byA w m t T))) →
      ∃ F : (Nat → AVal) → Nat → AVal, ∀ tm, (tm 1 = aint T ∧ tm 2 = .ptr σ.length 1 0 ∧ tm 5 = aint (sumA w m t (0 : Nat)) ∧ tm 6 = aint (0 : Nat)) → exec E (.loop godwitref20_By_L0) ⟨tm, σ ++ [.var 1 [aint w, aint m, aint t], .dead 0], σ.length⟩ = some (x, ⟨F tm, σ ++ [.var 1 [aint w, aint m, aint t], .dead 0], σ.length⟩) ∧ (x = .ret → F tm 4 = aint (byA w m t T)) := by
    intro K x hx hK hgo hend
    refine loop_go (E := E) (body := godwitref20_By_L0) (base := σ.length) (fun _ => σ ++ [.var 1 [aint w, aint m, aint t], .dead 0]) (σ ++ [.var 1 [aint w, aint m, aint t], .dead 0])
      (fun i tm => tm 1 = aint T ∧ tm 2 = .ptr σ.length 1 0 ∧ tm 5 = aint (sumA w m t i) ∧ tm 6 = aint i) (fun tm => x = .ret → tm 4 = aint (byA w m t T)) K x hx (fun i tm hi ⟨g1, g2, g5, g6⟩ => ?_) hend
    have hlt : decide ((i : Int) < 100) = true := by simp; omega
    have hwi : IntKind.i64.wrap ((i : Int) + 1) = (i : Int) + 1 := wrap_id (by omega)
    have hwd : IntKind.i64.wrap (sumA w m t i + delayA w m t i) = sumA w m t (i + 1) := by
      have := sumA_pos w m t (i + 1)
      rw [← sumA_next]; exact wrap_id (by omega)
    obtain ⟨e1, e2⟩ := hgo i hi
    have e3 : decide (sumA w m t (i + 1) > T) = false := by simp; omega
    rw [godwitref20_By_L0]
    simp only [go_sem, Nat.reduceEqDiff, Nat.reduceAdd, Nat.reduceSub, Nat.reduceMul, Nat.reduceLeDiff, Nat.reduceLT, Int.reduceLE, Int.reduceLT, Int.reduceEq, reduceCtorEq, decide_true, decide_false, g1, g2, g5, g6, hlt, hwi, hwd, RDelay_ok, E_raw, raws, cop.recv, scV_false, e1, e3]
    refine ⟨_, rfl, ?_, ?_, ?_, ?_⟩ <;> simp [upd, clr, g1, g2]
  have stop : ∀ (K : Nat), K < 100 → byA w m t T = K → (delayOk w m t K = false ∨ T < sumA w m t (K + 1)) → ∀ tm : Nat → AVal, tm 1 = aint T ∧ tm 2 = .ptr σ.length 1 0 ∧ tm 5 = aint (sumA w m t K) ∧ tm 6 = aint K → ∃ tm', exec E godwitref20_By_L0 ⟨tm, σ ++ [.var 1 [aint w, aint m, aint t], .dead 0], σ.length⟩ = some (.ret, ⟨tm', σ ++ [.var 1 [aint w, aint m, aint t], .dead 0], σ.length⟩) ∧ (AExit.ret = .ret → tm' 4 = aint (byA w m t T)) := by
    intro K hK hby hst tm ⟨g1, g2, g5, g6⟩
    have hlt : decide ((K : Int) < 100) = true := by simp; omega
    have hwd : IntKind.i64.wrap (sumA w m t K + delayA w m t K) = sumA w m t (K + 1) := by
      have := sumA_pos w m t (K + 1)
      rw [← sumA_next]; exact wrap_id (by omega)
    rw [godwitref20_By_L0]
    cases hok : delayOk w m t K with
    | false =>
      simp only [go_sem, Nat.reduceEqDiff, Nat.reduceAdd, Nat.reduceSub, Nat.reduceMul, Nat.reduceLeDiff, Nat.reduceLT, Int.reduceLE, Int.reduceLT, Int.reduceEq, reduceCtorEq, decide_true, decide_false, g1, g2, g5, g6, hlt, hwd, RDelay_ok, E_raw, raws, cop.recv, scV_false, hok]
      exact ⟨_, rfl, by simp [upd, clr, g6, hby]⟩
    | true =>
      have e3 : decide (sumA w m t (K + 1) > T) = true := by
        rcases hst with h | h
        · rw [hok] at h; cases h
        · simp; omega
      simp only [go_sem, Nat.reduceEqDiff, Nat.reduceAdd, Nat.reduceSub, Nat.reduceMul, Nat.reduceLeDiff, Nat.reduceLT, Int.reduceLE, Int.reduceLT, Int.reduceEq, reduceCtorEq, decide_true, decide_false, g1, g2, g5, g6, hlt, hwd, RDelay_ok, E_raw, raws, cop.recv, scV_false, hok, e3]
      exact ⟨_, rfl, by simp [upd, clr, g6, hby]⟩
  have h0 : sumA w m t 0 = 0 := by simp [sumA, Nat.min, tot]
  have fin : ∀ K : Nat, K < 100 → byA w m t T = K → (delayOk w m t K = false ∨ T < sumA w m t (K + 1)) → (∀ i, i < K → delayOk w m t i = true ∧ sumA w m t (i + 1) ≤ T) →
      callv E (.fn godwitref20_By [] []) [.agg [aint w, aint m, aint t], aint T] σ = some (aint (byA w m t T), σ) := by
    intro K hK hby hst hgo
    rw [call_fn (E_X _) (E_fn godwitref20_By_c), godwitref20_By_A]
    obtain ⟨F, hF⟩ := go K .ret (by simp) (by omega) hgo (stop K hK hby hst)
    simp only [go_sem, Nat.reduceEqDiff, Nat.reduceAdd, Nat.reduceSub, Nat.reduceMul, Nat.reduceLeDiff, Nat.reduceLT, Int.reduceLE, Int.reduceLT, Int.reduceEq, reduceCtorEq, decide_true, decide_false]
    rw [(hF _ ⟨rfl, rfl, by simp [upd, h0], rfl⟩).1]
    have h6 := fun tm h => (hF tm h).2 rfl
    simp only [go_sem, Nat.reduceEqDiff, Nat.reduceAdd, Nat.reduceSub, Nat.reduceMul, Nat.reduceLeDiff, Nat.reduceLT, Int.reduceLE, Int.reduceLT, Int.reduceEq, reduceCtorEq, decide_true, decide_false]
    rw [h6 _ ⟨rfl, rfl, by simp [upd, h0], rfl⟩]
    simp only [go_sem, Nat.reduceEqDiff, Nat.reduceAdd, Nat.reduceSub, Nat.reduceMul, Nat.reduceLeDiff, Nat.reduceLT, Int.reduceLE, Int.reduceLT, Int.reduceEq, reduceCtorEq, decide_true, decide_false]
  by_cases hs : sane w m t = true
  · obtain ⟨hw, hm, hM, ht0, ht⟩ := sane_bounds hs
    obtain ⟨b1, b2, b3, b4⟩ := byF_spec w m T t.toNat 0
    have hby : byA w m t T = (byF w m T t.toNat 0 : Nat) := by simp [byA, hs]
    have hsum : ∀ i : Nat, (i : Int) ≤ t → sumA w m t i = tot w m i := fun i hi => by
      have : Nat.min i t.toNat = i := by show min i t.toNat = i; omega
      simp [sumA, hs, this]
    have hgo : ∀ i, i < byF w m T t.toNat 0 → delayOk w m t i = true ∧ sumA w m t (i + 1) ≤ T := fun i hi => ⟨(delayA_in hs (by omega)).2, by rw [hsum _ (by omega)]; exact b3 i (by omega) hi⟩
    by_cases hK : byF w m T t.toNat 0 < 100
    · rw [← godwitref20_By_A, ← call_fn (E_X _) (E_fn godwitref20_By_c)]
      refine fin _ hK hby ?_ hgo
      by_cases hlt : byF w m T t.toNat 0 < t.toNat
      · exact .inr (by rw [hsum _ (by omega)]; exact b4 (by omega))
      · exact .inl (delayA_out (by omega)).2
    · have hK' : byF w m T t.toNat 0 = 100 := by omega
      obtain ⟨F, hF⟩ := go 100 (.exit 0) (by simp) (by omega) (fun i hi => hgo i (by omega)) (fun tm ⟨g1, g2, g5, g6⟩ => by
        have g6' : tm 6 = aint (100 : Int) := g6
        rw [godwitref20_By_L0]
        simp only [go_sem, Nat.reduceEqDiff, Nat.reduceAdd, Nat.reduceSub, Nat.reduceMul, Nat.reduceLeDiff, Nat.reduceLT, Int.reduceLE, Int.reduceLT, Int.reduceEq, reduceCtorEq, decide_true, decide_false, g1, g2, g5, g6', show decide ((100 : Int) < 100) = false from by decide]
        exact ⟨_, rfl⟩)
      have h100 : byA w m t T = 100 := by rw [hby, hK']; rfl
      simp only [go_sem, Nat.reduceEqDiff, Nat.reduceAdd, Nat.reduceSub, Nat.reduceMul, Nat.reduceLeDiff, Nat.reduceLT, Int.reduceLE, Int.reduceLT, Int.reduceEq, reduceCtorEq, decide_true, decide_false]
      rw [(hF _ ⟨rfl, rfl, by simp [upd, h0], rfl⟩).1]
      simp only [go_sem, Nat.reduceEqDiff, Nat.reduceAdd, Nat.reduceSub, Nat.reduceMul, Nat.reduceLeDiff, Nat.reduceLT, Int.reduceLE, Int.reduceLT, Int.reduceEq, reduceCtorEq, decide_true, decide_false, h100]
  · have hs : sane w m t = false := by simpa using hs
    rw [← godwitref20_By_A, ← call_fn (E_X _) (E_fn godwitref20_By_c)]
    exact fin 0 (by omega) (by simp [byA, hs]) (.inl (delayA_no hs _).2) (fun i hi => by omega)
end Go.Proofs.Ytcfbnhdcpmnpaaa.Fn
