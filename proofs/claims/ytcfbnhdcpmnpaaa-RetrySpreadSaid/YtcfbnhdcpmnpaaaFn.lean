/- The functions of the retry chapter, reckoned. -/
import Derived.Test.YtcfbnhdcpmnpaaaCode
import Derived.Test.YtcfbnhdcpmnpaaaFwF
set_option linter.unusedSimpArgs false
set_option linter.unusedVariables false
namespace Go.Proofs.Ytcfbnhdcpmnpaaa.Fn
open Go Go.Abs
noncomputable def E : Env := { fns := compFn Try.prog wrs modes, raw := raws, G := fun _ => none, X := fun _ => none }
theorem E_X (f : FuncId) : E.X f = none := rfl
theorem E_fn {f : FuncId} {A : AFun} (h : compFn Try.prog wrs modes f = some A) : E.fns f = some A := h
theorem E_raw (f : FuncId) : E.raw f = raws f := rfl

/-- Whether a plan may be. -/
def sane (w m t : Int) : Bool := decide (w ≥ 1) && decide (w ≤ 1048576) && decide (m ≥ w) && decide (m ≤ 1073741824) && decide (t ≥ 0) && decide (t ≤ 100)
/-- The n-th delay. -/
def del (w m : Int) : Nat → Int
  | 0 => w
  | n + 1 => if m < 2 * del w m n then m else 2 * del w m n

theorem del_pos {w m : Int} (hw : 1 ≤ w) (hm : w ≤ m) : ∀ n, 1 ≤ del w m n ∧ del w m n ≤ m
  | 0 => ⟨hw, hm⟩
  | n + 1 => by
    have := del_pos hw hm n
    simp only [del]
    split <;> omega

theorem wrap_id {n : Int} (h : -9223372036854775808 ≤ n ∧ n ≤ 9223372036854775807) : IntKind.i64.wrap n = n := by
  simp only [IntKind.wrap, IntKind.bits, IntKind.signed]
  simp
  omega

set_option maxHeartbeats 1000000 in
theorem Sane_ok (w m t : Int) (σ : Store) : callv E (.fn retry_Sane [] []) [.agg [aint w, aint m, aint t]] σ = some (abool (sane w m t), σ) := by
  rw [call_fn (E_X _) (E_fn retry_Sane_c), retry_Sane_A]
  simp only [go_sem, Nat.reduceEqDiff, Nat.reduceAdd, Nat.reduceSub, Nat.reduceMul, Nat.reduceLeDiff, Nat.reduceLT, Int.reduceLE, Int.reduceLT, Int.reduceEq, reduceCtorEq, decide_true, decide_false]
  rfl

theorem delays_ok (w m t : Int) (σ : Store) : callv E (.fn _retry_Plan__delays [] []) [.agg [aint w, aint m, aint t]] σ = some (.fn _retry_Plan__delays_1 [] [.ptr σ.length 1 0], σ ++ [.var 1 [aint w, aint m, aint t]]) := by
  rw [call_fn (E_X _) (E_fn _retry_Plan__delays_c), _retry_Plan__delays_A]
  simp only [go_sem, Nat.reduceEqDiff, Nat.reduceAdd, Nat.reduceSub, Nat.reduceMul, Nat.reduceLeDiff, Nat.reduceLT, Int.reduceLE, Int.reduceLT, Int.reduceEq, reduceCtorEq, decide_true, decide_false]

/-- How it ends. -/
def endS (S : Nat → Store) (K : Nat) (l : List Box) : Option Store → AExit × Store
  | none => (.exit 0, S K ++ l)
  | some S' => (.ret, S' ++ l)

theorem delays_loop {w m t : Int} (hw : 1 ≤ w) (hm : w ≤ m) (hM : m ≤ 1073741824) (ht : t ≤ 100) {b ver lb lv base : Nat} {S : Nat → Store} {K : Nat} {l : List Box} {stop : Option Store} (hb : ∀ n, n ≤ K → (S n)[b]? = some (.var ver [aint w, aint m, aint t]))
    (hy : ∀ n, n < K → callv E (.yld lb lv) [aint n, aint (del w m n)] (S n ++ l) = some (abool true, S (n + 1) ++ l)) (hK : (K : Int) ≤ t)
    (hstop : match stop with | none => (K : Int) = t | some S' => (K : Int) < t ∧ callv E (.yld lb lv) [aint K, aint (del w m K)] (S K ++ l) = some (abool false, S' ++ l)) :
    ∀ (k n : Nat) (tm : Nat → AVal), n + k = K → tm 0 = .yld lb lv → tm 1 = .ptr b ver 0 → tm 3 = aint (del w m n) → tm 11 = aint t → tm 12 = aint n →
    ∃ tm', exec E (.loop _retry_Plan__delays_1_L0) ⟨tm, S n ++ l, base⟩ = some ((endS S K l stop).1, ⟨tm', (endS S K l stop).2, base⟩)
  | 0, n, tm, hn, h0, h1, h3, h11, h12 => by
    obtain rfl : n = K := by omega
    rw [exec_loop]
    generalize hT : thenX E (.loop _retry_Plan__delays_1_L0) = T
    rw [_retry_Plan__delays_1_L0]
    cases stop with
    | none =>
      have e : ¬ ((n : Int) < t) := by have : (n : Int) = t := hstop; omega
      simp only [go_sem, Nat.reduceEqDiff, Nat.reduceAdd, Nat.reduceSub, Nat.reduceMul, Nat.reduceLeDiff, Nat.reduceLT, Int.reduceLE, Int.reduceLT, Int.reduceEq, reduceCtorEq, decide_true, decide_false, h0, h1, h3, h11, h12, e, decide_false]
      rw [← hT]
      exact ⟨_, rfl⟩
    | some S' =>
      obtain ⟨h1', h2'⟩ := hstop
      simp only [go_sem, Nat.reduceEqDiff, Nat.reduceAdd, Nat.reduceSub, Nat.reduceMul, Nat.reduceLeDiff, Nat.reduceLT, Int.reduceLE, Int.reduceLT, Int.reduceEq, reduceCtorEq, decide_true, decide_false, h0, h1, h3, h11, h12, h1', decide_true, E_raw, h2', cop.recv]
      rw [← hT]
      exact ⟨_, rfl⟩
  | k + 1, n, tm, hn, h0, h1, h3, h11, h12 => by
    have hlt : n < K := by omega
    have e : (n : Int) < t := by omega
    have hd := del_pos hw hm n
    have hbb := get_out (S (n + 1)) l b _ (hb (n + 1) (by omega))
    rw [exec_loop]
    generalize hT : thenX E (.loop _retry_Plan__delays_1_L0) = T
    rw [_retry_Plan__delays_1_L0]
    simp only [go_sem, Nat.reduceEqDiff, Nat.reduceAdd, Nat.reduceSub, Nat.reduceMul, Nat.reduceLeDiff, Nat.reduceLT, Int.reduceLE, Int.reduceLT, Int.reduceEq, reduceCtorEq, decide_true, decide_false, h0, h1, h3, h11, h12, e, decide_true, E_raw, hy n hlt, cop.recv, hbb]
    rw [← hT, thenX_normal]
    have hwr : IntKind.i64.wrap (del w m n * 2 ^ (Int.toNat 1).min IntKind.i64.bits) = 2 * del w m n := by
      have : (2 : Int) ^ (Int.toNat 1).min IntKind.i64.bits = 2 := by decide
      rw [this, wrap_id (by omega)]; omega
    refine delays_loop hw hm hM ht hb hy hK hstop k (n + 1) _ (by omega) ?_ ?_ ?_ ?_ ?_
    · simp [upd, h0]
    · simp [upd, h1]
    · simp only [upd_apply, Nat.reduceEqDiff, if_true, if_false]
      rw [hwr]; rfl
    · simp [upd, h11]
    · simp only [upd_apply, Nat.reduceEqDiff, if_true, if_false]
      rw [wrap_id (by omega)]; rfl

/-- The function that yields the delays. -/
theorem delays_1_ok {w m t : Int} (hw : 1 ≤ w) (hm : w ≤ m) (hM : m ≤ 1073741824) (ht : t ≤ 100) (hsane : sane w m t = true) {b ver lb lv : Nat} {S : Nat → Store} {K : Nat} {stop : Option Store} (hlen : ∀ n, (S n).length = (S 0).length) (hb : ∀ n, n ≤ K → (S n)[b]? = some (.var ver [aint w, aint m, aint t]))
    (hy : ∀ n, n < K → ∀ l, callv E (.yld lb lv) [aint n, aint (del w m n)] (S n ++ l) = some (abool true, S (n + 1) ++ l)) (hK : (K : Int) ≤ t)
    (hstop : match stop with | none => (K : Int) = t ∧ okTake (S K) (S 0) | some S' => (K : Int) < t ∧ (∀ l, callv E (.yld lb lv) [aint K, aint (del w m K)] (S K ++ l) = some (abool false, S' ++ l)) ∧ okTake S' (S 0) ∧ S'.length = (S 0).length) :
    callv E (.fn _retry_Plan__delays_1 [] [.ptr b ver 0]) [.yld lb lv] (S 0) = some (.tup [], match stop with | none => S K | some S' => S') := by
  rw [call_fn (E_X _) (E_fn _retry_Plan__delays_1_c), _retry_Plan__delays_1_A]
  have hbb := get_out (S 0) [.dead 0, .dead 0] b _ (hb 0 (by omega))
  simp only [go_sem, Nat.reduceEqDiff, Nat.reduceAdd, Nat.reduceSub, Nat.reduceMul, Nat.reduceLeDiff, Nat.reduceLT, Int.reduceLE, Int.reduceLT, Int.reduceEq, reduceCtorEq, decide_true, decide_false, hbb, Sane_ok, hsane, E_raw, raws, cop.recv]
  have fin : ∀ {S' : Store}, okTake S' (S 0) → S'.length = (S 0).length → okTake (S' ++ [Box.dead 0, Box.dead 0]) (S 0) ∧ (S' ++ [Box.dead 0, Box.dead 0]).take (S 0).length = S' := by
    intro S' h1 h2
    refine ⟨fun i B hB hi => ?_, by rw [← h2]; exact List.take_left⟩
    rw [List.getElem?_append_left (by omega)] at hB
    exact h1 i B hB hi
  rw [Exists.choose_spec (delays_loop (base := (S 0).length) (stop := stop) hw hm hM ht hb (fun n hn => hy n hn [.dead 0, .dead 0]) hK (by
      cases stop with
      | none => exact hstop.1
      | some S' => exact ⟨hstop.1, hstop.2.1 _⟩) K 0 _ (by omega) ?h0 ?h1 ?h3 ?h11 ?h12)]
  case h0 => rfl
  case h1 => rfl
  case h3 => rfl
  case h11 => rfl
  case h12 => rfl
  cases stop with
  | none =>
    obtain ⟨h1, h2⟩ := hstop
    obtain ⟨f1, f2⟩ := fin h2 (hlen K)
    simp only [endS, go_sem, Nat.reduceEqDiff, Nat.reduceAdd, Nat.reduceSub, Nat.reduceMul, Nat.reduceLeDiff, Nat.reduceLT, Int.reduceLE, Int.reduceLT, Int.reduceEq, reduceCtorEq, decide_true, decide_false, f1, f2]
  | some S' =>
    obtain ⟨h1, _, h2, h3⟩ := hstop
    obtain ⟨f1, f2⟩ := fin h2 h3
    simp only [endS, go_sem, Nat.reduceEqDiff, Nat.reduceAdd, Nat.reduceSub, Nat.reduceMul, Nat.reduceLeDiff, Nat.reduceLT, Int.reduceLE, Int.reduceLT, Int.reduceEq, reduceCtorEq, decide_true, decide_false, f1, f2]

/-- One that may not be yields nothing. -/
theorem delays_1_none {w m t : Int} (hsane : sane w m t = false) {b ver lb lv : Nat} {σ : Store} (hb : σ[b]? = some (.var ver [aint w, aint m, aint t])) :
    callv E (.fn _retry_Plan__delays_1 [] [.ptr b ver 0]) [.yld lb lv] σ = some (.tup [], σ) := by
  rw [call_fn (E_X _) (E_fn _retry_Plan__delays_1_c), _retry_Plan__delays_1_A]
  have hbb := get_out σ [.dead 0, .dead 0] b _ hb
  simp only [go_sem, Nat.reduceEqDiff, Nat.reduceAdd, Nat.reduceSub, Nat.reduceMul, Nat.reduceLeDiff, Nat.reduceLT, Int.reduceLE, Int.reduceLT, Int.reduceEq, reduceCtorEq, decide_true, decide_false, hbb, Sane_ok, hsane, E_raw, raws, cop.recv]

/-- What Delay answers. -/
def delayA (w m t n : Int) : Int := if sane w m t && decide (0 ≤ n) && decide (n < t) then del w m n.toNat else 0
def delayOk (w m t n : Int) : Bool := sane w m t && decide (0 ≤ n) && decide (n < t)

theorem append_two (σ l l' : Store) : σ ++ l ++ l' = σ ++ (l ++ l') := List.append_assoc ..

theorem Delay_range {w m t n : Int} (hw : 1 ≤ w) (hm : w ≤ m) (hM : m ≤ 1073741824) (ht0 : 0 ≤ t) (ht : t ≤ 100) (hs : sane w m t = true) {σ : Store} {tm : Nat → AVal} (h9 : tm 9 = .fn _retry_Plan__delays_1 [] [.ptr (σ.length + 6) 1 0]) (h3 : tm 3 = .ptr (σ.length + 1) 1 0) (h4 : tm 4 = .ptr (σ.length + 2) 1 0) (h5 : tm 5 = .ptr (σ.length + 3) 1 0) :
    exec E (.rangeFunc 5 (.t 9) [10, 11] retry_Delay_A0 retry_Delay_R0) ⟨tm, σ ++ [.var 1 [aint w, aint m, aint t], .var 1 [aint n], .var 1 [aint 0], .var 1 [abool false], .dead 0, .dead 0, .var 1 [aint w, aint m, aint t]], σ.length⟩ =
      (if 0 ≤ n ∧ n < t then some (.ret, ⟨tm, σ ++ [.var 1 [aint w, aint m, aint t], .var 1 [aint n], .var 1 [aint (del w m n.toNat)], .var 1 [abool true], .dead 0, .dead 1, .var 1 [aint w, aint m, aint t]], σ.length⟩)
       else some (.normal, ⟨tm, σ ++ [.var 1 [aint w, aint m, aint t], .var 1 [aint n], .var 1 [aint 0], .var 1 [abool false], .dead 0, .dead 1, .var 1 [aint w, aint m, aint t]], σ.length⟩)) := by
  let S : Nat → Store := fun _ => σ ++ [.var 1 [aint w, aint m, aint t], .var 1 [aint n], .var 1 [aint 0], .var 1 [abool false], .dead 0, .loop 1 .ready none tm σ.length [10, 11] retry_Delay_A0 retry_Delay_R0, .var 1 [aint w, aint m, aint t]]
  have hb : ∀ k, (S k)[σ.length + 6]? = some (.var 1 [aint w, aint m, aint t]) := fun k => by simp only [S, go_sem, Nat.reduceEqDiff, Nat.reduceAdd, Nat.reduceSub, Nat.reduceMul, Nat.reduceLeDiff, Nat.reduceLT, Int.reduceLE, Int.reduceLT, Int.reduceEq, reduceCtorEq, decide_true, decide_false]
  have round : ∀ (k : Nat) (l : Store), callv E (.yld (σ.length + 5) 1) [aint k, aint (del w m k)] (S k ++ l) =
      (if (k : Int) = n then some (abool false, σ ++ [.var 1 [aint w, aint m, aint t], .var 1 [aint n], .var 1 [aint (del w m k)], .var 1 [abool true], .dead 0, .loop 1 .done (some .ret) tm σ.length [10, 11] retry_Delay_A0 retry_Delay_R0, .var 1 [aint w, aint m, aint t]] ++ l)
       else some (abool true, S k ++ l)) := by
    intro k l
    simp only [S, append_two, List.cons_append, List.nil_append]
    simp only [retry_Delay_A0, retry_Delay_R0, go_sem, Nat.reduceEqDiff, Nat.reduceAdd, Nat.reduceSub, Nat.reduceMul, Nat.reduceLeDiff, Nat.reduceLT, Int.reduceLE, Int.reduceLT, Int.reduceEq, reduceCtorEq, decide_true, decide_false, h3, h4, h5, condV_bool, List.length_append]
    by_cases e : (k : Int) = n
    · subst e
      simp only [go_sem, Nat.reduceEqDiff, Nat.reduceAdd, Nat.reduceSub, Nat.reduceMul, Nat.reduceLeDiff, Nat.reduceLT, Int.reduceLE, Int.reduceLT, Int.reduceEq, reduceCtorEq, decide_true, decide_false, beq_self_eq_true, List.length_append]
    · simp only [go_sem, Nat.reduceEqDiff, Nat.reduceAdd, Nat.reduceSub, Nat.reduceMul, Nat.reduceLeDiff, Nat.reduceLT, Int.reduceLE, Int.reduceLT, Int.reduceEq, reduceCtorEq, decide_true, decide_false, e, beq_iff_eq, List.length_append]
  have hsane := hs
  by_cases hn : 0 ≤ n ∧ n < t
  · rw [if_pos hn]
    have hd := delays_1_ok hw hm hM ht hs (b := σ.length + 6) (ver := 1) (lb := σ.length + 5) (lv := 1) (S := S) (K := n.toNat)
      (stop := some (σ ++ [.var 1 [aint w, aint m, aint t], .var 1 [aint n], .var 1 [aint (del w m n.toNat)], .var 1 [abool true], .dead 0, .loop 1 .done (some .ret) tm σ.length [10, 11] retry_Delay_A0 retry_Delay_R0, .var 1 [aint w, aint m, aint t]]))
      (fun _ => rfl) (fun k _ => hb k) (fun k hk l => by rw [round k l, if_neg (by omega)]) (by omega)
      ⟨by omega, fun l => by rw [round _ l, if_pos (by omega)], ?_, by simp [S]⟩
    · rw [exec_range (B := .dead 0) (r := .tup []) (st := .done) (pend := some .ret) (tm2 := tm) (base2 := σ.length) (ps2 := [10, 11]) (as2 := retry_Delay_A0) (bd2 := retry_Delay_R0) (σ2 := σ ++ [.var 1 [aint w, aint m, aint t], .var 1 [aint n], .var 1 [aint (del w m n.toNat)], .var 1 [abool true], .dead 0, .loop 1 .done (some .ret) tm σ.length [10, 11] retry_Delay_A0 retry_Delay_R0, .var 1 [aint w, aint m, aint t]])]
      · simp only [go_sem, Nat.reduceEqDiff, Nat.reduceAdd, Nat.reduceSub, Nat.reduceMul, Nat.reduceLeDiff, Nat.reduceLT, Int.reduceLE, Int.reduceLT, Int.reduceEq, reduceCtorEq, decide_true, decide_false]
      · simp only [go_sem, Nat.reduceEqDiff, Nat.reduceAdd, Nat.reduceSub, Nat.reduceMul, Nat.reduceLeDiff, Nat.reduceLT, Int.reduceLE, Int.reduceLT, Int.reduceEq, reduceCtorEq, decide_true, decide_false]
      · simp only [go_sem, Nat.reduceEqDiff, Nat.reduceAdd, Nat.reduceSub, Nat.reduceMul, Nat.reduceLeDiff, Nat.reduceLT, Int.reduceLE, Int.reduceLT, Int.reduceEq, reduceCtorEq, decide_true, decide_false, h9]
        exact hd
      · simp only [go_sem, Nat.reduceEqDiff, Nat.reduceAdd, Nat.reduceSub, Nat.reduceMul, Nat.reduceLeDiff, Nat.reduceLT, Int.reduceLE, Int.reduceLT, Int.reduceEq, reduceCtorEq, decide_true, decide_false]
      · simp
      · simp
    · refine okTake_list ?_
      simp [okL_cons, okL_nil, okB_same, okB_var, okB_loop, wfL, wfV]
  · rw [if_neg hn]
    have hd := delays_1_ok hw hm hM ht hs (b := σ.length + 6) (ver := 1) (lb := σ.length + 5) (lv := 1) (S := S) (K := t.toNat) (stop := none)
      (fun _ => rfl) (fun k _ => hb k) (fun k hk l => by rw [round k l, if_neg (by omega)]) (by omega)
      ⟨by omega, okTake_refl _⟩
    rw [exec_range (B := .dead 0) (r := .tup []) (st := .ready) (pend := none) (tm2 := tm) (base2 := σ.length) (ps2 := [10, 11]) (as2 := retry_Delay_A0) (bd2 := retry_Delay_R0) (σ2 := S 0)]
    · simp only [S, go_sem, Nat.reduceEqDiff, Nat.reduceAdd, Nat.reduceSub, Nat.reduceMul, Nat.reduceLeDiff, Nat.reduceLT, Int.reduceLE, Int.reduceLT, Int.reduceEq, reduceCtorEq, decide_true, decide_false]
    · simp only [go_sem, Nat.reduceEqDiff, Nat.reduceAdd, Nat.reduceSub, Nat.reduceMul, Nat.reduceLeDiff, Nat.reduceLT, Int.reduceLE, Int.reduceLT, Int.reduceEq, reduceCtorEq, decide_true, decide_false]
    · simp only [go_sem, Nat.reduceEqDiff, Nat.reduceAdd, Nat.reduceSub, Nat.reduceMul, Nat.reduceLeDiff, Nat.reduceLT, Int.reduceLE, Int.reduceLT, Int.reduceEq, reduceCtorEq, decide_true, decide_false, h9]
      exact hd
    · simp only [S, go_sem, Nat.reduceEqDiff, Nat.reduceAdd, Nat.reduceSub, Nat.reduceMul, Nat.reduceLeDiff, Nat.reduceLT, Int.reduceLE, Int.reduceLT, Int.reduceEq, reduceCtorEq, decide_true, decide_false]
    · simp
    · simp [S]

theorem Delay_range0 {w m t n : Int} (hs : sane w m t = false) {σ : Store} {tm : Nat → AVal} (h9 : tm 9 = .fn _retry_Plan__delays_1 [] [.ptr (σ.length + 6) 1 0]) :
    exec E (.rangeFunc 5 (.t 9) [10, 11] retry_Delay_A0 retry_Delay_R0) ⟨tm, σ ++ [.var 1 [aint w, aint m, aint t], .var 1 [aint n], .var 1 [aint 0], .var 1 [abool false], .dead 0, .dead 0, .var 1 [aint w, aint m, aint t]], σ.length⟩ =
      some (.normal, ⟨tm, σ ++ [.var 1 [aint w, aint m, aint t], .var 1 [aint n], .var 1 [aint 0], .var 1 [abool false], .dead 0, .dead 1, .var 1 [aint w, aint m, aint t]], σ.length⟩) := by
  have hd := delays_1_none hs (b := σ.length + 6) (ver := 1) (lb := σ.length + 5) (lv := 1) (σ := σ ++ [.var 1 [aint w, aint m, aint t], .var 1 [aint n], .var 1 [aint 0], .var 1 [abool false], .dead 0, .loop 1 .ready none tm σ.length [10, 11] retry_Delay_A0 retry_Delay_R0, .var 1 [aint w, aint m, aint t]])
    (by simp only [go_sem, Nat.reduceEqDiff, Nat.reduceAdd, Nat.reduceSub, Nat.reduceMul, Nat.reduceLeDiff, Nat.reduceLT, Int.reduceLE, Int.reduceLT, Int.reduceEq, reduceCtorEq, decide_true, decide_false])
  rw [exec_range (B := .dead 0) (r := .tup []) (st := .ready) (pend := none) (tm2 := tm) (base2 := σ.length) (ps2 := [10, 11]) (as2 := retry_Delay_A0) (bd2 := retry_Delay_R0) (σ2 := σ ++ [.var 1 [aint w, aint m, aint t], .var 1 [aint n], .var 1 [aint 0], .var 1 [abool false], .dead 0, .loop 1 .ready none tm σ.length [10, 11] retry_Delay_A0 retry_Delay_R0, .var 1 [aint w, aint m, aint t]])]
  · simp only [go_sem, Nat.reduceEqDiff, Nat.reduceAdd, Nat.reduceSub, Nat.reduceMul, Nat.reduceLeDiff, Nat.reduceLT, Int.reduceLE, Int.reduceLT, Int.reduceEq, reduceCtorEq, decide_true, decide_false]
  · simp only [go_sem, Nat.reduceEqDiff, Nat.reduceAdd, Nat.reduceSub, Nat.reduceMul, Nat.reduceLeDiff, Nat.reduceLT, Int.reduceLE, Int.reduceLT, Int.reduceEq, reduceCtorEq, decide_true, decide_false]
  · simp only [go_sem, Nat.reduceEqDiff, Nat.reduceAdd, Nat.reduceSub, Nat.reduceMul, Nat.reduceLeDiff, Nat.reduceLT, Int.reduceLE, Int.reduceLT, Int.reduceEq, reduceCtorEq, decide_true, decide_false, h9]
    exact hd
  · simp only [go_sem, Nat.reduceEqDiff, Nat.reduceAdd, Nat.reduceSub, Nat.reduceMul, Nat.reduceLeDiff, Nat.reduceLT, Int.reduceLE, Int.reduceLT, Int.reduceEq, reduceCtorEq, decide_true, decide_false]
  · simp
  · simp

theorem Delay_ok (w m t n : Int) (σ : Store) : callv E (.fn retry_Delay [] []) [.agg [aint w, aint m, aint t], aint n] σ = some (.tup [aint (delayA w m t n), abool (delayOk w m t n)], σ) := by
  rw [call_fn (E_X _) (E_fn retry_Delay_c), retry_Delay_A]
  simp only [go_sem, Nat.reduceEqDiff, Nat.reduceAdd, Nat.reduceSub, Nat.reduceMul, Nat.reduceLeDiff, Nat.reduceLT, Int.reduceLE, Int.reduceLT, Int.reduceEq, reduceCtorEq, decide_true, decide_false, delays_ok, E_raw, raws, cop.recv, append_two, List.length_append]
  by_cases hs : sane w m t = true
  · have hb : 1 ≤ w ∧ w ≤ m ∧ m ≤ 1073741824 ∧ 0 ≤ t ∧ t ≤ 100 := by
      simp only [sane, Bool.and_eq_true, decide_eq_true_eq] at hs; omega
    rw [Delay_range hb.1 hb.2.1 hb.2.2.1 hb.2.2.2.1 hb.2.2.2.2 hs rfl rfl rfl rfl]
    by_cases hn : 0 ≤ n ∧ n < t
    · rw [if_pos hn]
      simp only [go_sem, Nat.reduceEqDiff, Nat.reduceAdd, Nat.reduceSub, Nat.reduceMul, Nat.reduceLeDiff, Nat.reduceLT, Int.reduceLE, Int.reduceLT, Int.reduceEq, reduceCtorEq, decide_true, decide_false, delayA, delayOk, hs, hn.1, hn.2, decide_true]
    · rw [if_neg hn]
      have : (decide (0 ≤ n) && decide (n < t)) = false := by simp; omega
      simp only [go_sem, Nat.reduceEqDiff, Nat.reduceAdd, Nat.reduceSub, Nat.reduceMul, Nat.reduceLeDiff, Nat.reduceLT, Int.reduceLE, Int.reduceLT, Int.reduceEq, reduceCtorEq, decide_true, decide_false, delayA, delayOk, hs, this]
  · have hs : sane w m t = false := by simpa using hs
    rw [Delay_range0 hs rfl]
    simp only [go_sem, Nat.reduceEqDiff, Nat.reduceAdd, Nat.reduceSub, Nat.reduceMul, Nat.reduceLeDiff, Nat.reduceLT, Int.reduceLE, Int.reduceLT, Int.reduceEq, reduceCtorEq, decide_true, decide_false, delayA, delayOk, hs]

/-- The first n delays together. -/
def tot (w m : Int) : Nat → Int
  | 0 => 0
  | n + 1 => tot w m n + del w m n
theorem tot_pos {w m : Int} (hw : 1 ≤ w) (hm : w ≤ m) (hM : m ≤ 1073741824) : ∀ n : Nat, 0 ≤ tot w m n ∧ tot w m n ≤ 1073741824 * n
  | 0 => by simp [tot]
  | n + 1 => by
    have := tot_pos hw hm hM n
    have := del_pos hw hm n
    simp only [tot]
    omega

def totalA (w m t : Int) : Int := if sane w m t then tot w m t.toNat else 0

theorem sane_bounds {w m t : Int} (hs : sane w m t = true) : 1 ≤ w ∧ w ≤ m ∧ m ≤ 1073741824 ∧ 0 ≤ t ∧ t ≤ 100 := by
  simp only [sane, Bool.and_eq_true, decide_eq_true_eq] at hs; omega

theorem Total_range {w m t : Int} {σ : Store} {tm : Nat → AVal} (h7 : tm 7 = .fn _retry_Plan__delays_1 [] [.ptr (σ.length + 4) 1 0]) (h3 : tm 3 = .ptr (σ.length + 1) 1 0) :
    exec E (.rangeFunc 3 (.t 7) [8, 9] retry_Total_A0 retry_Total_R0) ⟨tm, σ ++ [.var 1 [aint w, aint m, aint t], .var 1 [aint 0], .dead 0, .dead 0, .var 1 [aint w, aint m, aint t]], σ.length⟩ =
      some (.normal, ⟨tm, σ ++ [.var 1 [aint w, aint m, aint t], .var 1 [aint (totalA w m t)], .dead 0, .dead 1, .var 1 [aint w, aint m, aint t]], σ.length⟩) := by
  let S : Nat → Store := fun k => σ ++ [.var 1 [aint w, aint m, aint t], .var 1 [aint (tot w m k)], .dead 0, .loop 1 .ready none tm σ.length [8, 9] retry_Total_A0 retry_Total_R0, .var 1 [aint w, aint m, aint t]]
  have hb : ∀ k, (S k)[σ.length + 4]? = some (.var 1 [aint w, aint m, aint t]) := fun k => by simp only [S, go_sem, Nat.reduceEqDiff, Nat.reduceAdd, Nat.reduceSub, Nat.reduceMul, Nat.reduceLeDiff, Nat.reduceLT, Int.reduceLE, Int.reduceLT, Int.reduceEq, reduceCtorEq, decide_true, decide_false]
  have fin : ∀ k, callv E (.fn _retry_Plan__delays_1 [] [.ptr (σ.length + 4) 1 0]) [.yld (σ.length + 3) 1] (S 0) = some (.tup [], S k) → tot w m k = totalA w m t →
      exec E (.rangeFunc 3 (.t 7) [8, 9] retry_Total_A0 retry_Total_R0) ⟨tm, σ ++ [.var 1 [aint w, aint m, aint t], .var 1 [aint 0], .dead 0, .dead 0, .var 1 [aint w, aint m, aint t]], σ.length⟩ =
      some (.normal, ⟨tm, σ ++ [.var 1 [aint w, aint m, aint t], .var 1 [aint (totalA w m t)], .dead 0, .dead 1, .var 1 [aint w, aint m, aint t]], σ.length⟩) := by
    intro k hd ht
    rw [exec_range (B := .dead 0) (r := .tup []) (st := .ready) (pend := none) (tm2 := tm) (base2 := σ.length) (ps2 := [8, 9]) (as2 := retry_Total_A0) (bd2 := retry_Total_R0) (σ2 := S k)]
    · simp only [S, go_sem, Nat.reduceEqDiff, Nat.reduceAdd, Nat.reduceSub, Nat.reduceMul, Nat.reduceLeDiff, Nat.reduceLT, Int.reduceLE, Int.reduceLT, Int.reduceEq, reduceCtorEq, decide_true, decide_false, ht]
    · simp only [go_sem, Nat.reduceEqDiff, Nat.reduceAdd, Nat.reduceSub, Nat.reduceMul, Nat.reduceLeDiff, Nat.reduceLT, Int.reduceLE, Int.reduceLT, Int.reduceEq, reduceCtorEq, decide_true, decide_false]
    · simp only [go_sem, Nat.reduceEqDiff, Nat.reduceAdd, Nat.reduceSub, Nat.reduceMul, Nat.reduceLeDiff, Nat.reduceLT, Int.reduceLE, Int.reduceLT, Int.reduceEq, reduceCtorEq, decide_true, decide_false, h7]
      exact hd
    · simp only [S, go_sem, Nat.reduceEqDiff, Nat.reduceAdd, Nat.reduceSub, Nat.reduceMul, Nat.reduceLeDiff, Nat.reduceLT, Int.reduceLE, Int.reduceLT, Int.reduceEq, reduceCtorEq, decide_true, decide_false]
    · simp
    · simp [S]
  by_cases hs : sane w m t = true
  · obtain ⟨hw, hm, hM, ht0, ht⟩ := sane_bounds hs
    have round : ∀ (k : Nat), k < t.toNat → ∀ (l : Store), callv E (.yld (σ.length + 3) 1) [aint k, aint (del w m k)] (S k ++ l) = some (abool true, S (k + 1) ++ l) := by
      intro k hk l
      have h1 := tot_pos hw hm hM (k + 1)
      have hwr : IntKind.i64.wrap (tot w m k + del w m k) = tot w m (k + 1) := by
        simp only [tot] at h1 ⊢
        exact wrap_id (by omega)
      simp only [S, append_two, List.cons_append, List.nil_append]
      simp only [retry_Total_A0, retry_Total_R0, go_sem, Nat.reduceEqDiff, Nat.reduceAdd, Nat.reduceSub, Nat.reduceMul, Nat.reduceLeDiff, Nat.reduceLT, Int.reduceLE, Int.reduceLT, Int.reduceEq, reduceCtorEq, decide_true, decide_false, h3, List.length_append, hwr]
    refine fin t.toNat (delays_1_ok hw hm hM ht hs (b := σ.length + 4) (ver := 1) (lb := σ.length + 3) (lv := 1) (S := S) (K := t.toNat) (stop := none)
      (fun _ => by simp [S]) (fun k _ => hb k) round (by omega) ⟨by omega, ?_⟩) (by simp [totalA, hs])
    refine okTake_list ?_
    simp [okL_cons, okL_nil, okB_same, okB_var, okB_loop, wfL, wfV]
  · have hs : sane w m t = false := by simpa using hs
    exact fin 0 (delays_1_none hs (hb 0)) (by simp [totalA, hs, tot])

theorem Total_ok (w m t : Int) (σ : Store) : callv E (.fn retry_Total [] []) [.agg [aint w, aint m, aint t]] σ = some (aint (totalA w m t), σ) := by
  rw [call_fn (E_X _) (E_fn retry_Total_c), retry_Total_A]
  simp only [go_sem, Nat.reduceEqDiff, Nat.reduceAdd, Nat.reduceSub, Nat.reduceMul, Nat.reduceLeDiff, Nat.reduceLT, Int.reduceLE, Int.reduceLT, Int.reduceEq, reduceCtorEq, decide_true, decide_false, delays_ok, E_raw, raws, cop.recv, append_two, List.length_append]
  rw [Total_range rfl rfl]
  simp only [go_sem, Nat.reduceEqDiff, Nat.reduceAdd, Nat.reduceSub, Nat.reduceMul, Nat.reduceLeDiff, Nat.reduceLT, Int.reduceLE, Int.reduceLT, Int.reduceEq, reduceCtorEq, decide_true, decide_false]

/-- How many tries are begun by T: from the n-th on, k at most. -/
def byF (w m T : Int) : Nat → Nat → Nat
  | 0, n => n
  | k + 1, n => if T < tot w m (n + 1) then n else byF w m T k (n + 1)
theorem byF_spec (w m T : Int) : ∀ k n, n ≤ byF w m T k n ∧ byF w m T k n ≤ n + k ∧ (∀ i, n ≤ i → i < byF w m T k n → tot w m (i + 1) ≤ T) ∧ (byF w m T k n < n + k → T < tot w m (byF w m T k n + 1))
  | 0, n => ⟨Nat.le_refl _, Nat.le_refl _, fun i h1 h2 => by simp only [byF] at h2; omega, fun h => by simp only [byF] at h; omega⟩
  | k + 1, n => by
    simp only [byF]
    by_cases h : T < tot w m (n + 1)
    · rw [if_pos h]
      exact ⟨Nat.le_refl _, by omega, fun i h1 h2 => by omega, fun _ => h⟩
    · rw [if_neg h]
      obtain ⟨h1, h2, h3, h4⟩ := byF_spec w m T k (n + 1)
      refine ⟨by omega, by omega, fun i h5 h6 => ?_, fun h5 => h4 (by omega)⟩
      by_cases e : i = n
      · subst e; omega
      · exact h3 i (by omega) h6
def byA (w m t T : Int) : Int := if sane w m t then byF w m T t.toNat 0 else 0

theorem By_range {w m t T : Int} {σ : Store} {tm : Nat → AVal} (h10 : tm 10 = .fn _retry_Plan__delays_1 [] [.ptr (σ.length + 6) 1 0]) (h3 : tm 3 = .ptr (σ.length + 1) 1 0) (h5 : tm 5 = .ptr (σ.length + 2) 1 0) (h6 : tm 6 = .ptr (σ.length + 3) 1 0) :
    ∃ at' : Int, (exec E (.rangeFunc 5 (.t 10) [11, 12] retry_By_A0 retry_By_R0) ⟨tm, σ ++ [.var 1 [aint w, aint m, aint t], .var 1 [aint T], .var 1 [aint 0], .var 1 [aint 0], .dead 0, .dead 0, .var 1 [aint w, aint m, aint t]], σ.length⟩).map (blockX 0) =
      some (.normal, ⟨tm, σ ++ [.var 1 [aint w, aint m, aint t], .var 1 [aint T], .var 1 [aint at'], .var 1 [aint (byA w m t T)], .dead 0, .dead 1, .var 1 [aint w, aint m, aint t]], σ.length⟩) := by
  let F : Int → Int → Box → Store := fun a k B => σ ++ [.var 1 [aint w, aint m, aint t], .var 1 [aint T], .var 1 [aint a], .var 1 [aint k], .dead 0, B, .var 1 [aint w, aint m, aint t]]
  let S : Nat → Store := fun k => F (tot w m k) k (.loop 1 .ready none tm σ.length [11, 12] retry_By_A0 retry_By_R0)
  have hb : ∀ k, (S k)[σ.length + 6]? = some (.var 1 [aint w, aint m, aint t]) := fun k => by simp only [S, F, go_sem, Nat.reduceEqDiff, Nat.reduceAdd, Nat.reduceSub, Nat.reduceMul, Nat.reduceLeDiff, Nat.reduceLT, Int.reduceLE, Int.reduceLT, Int.reduceEq, reduceCtorEq, decide_true, decide_false]
  have fin : ∀ (a : Int) (k : Int) (st : LoopState) (pend : Option ACode), st ≠ .busy → (pend = none ∨ pend = some (.exit 0)) → callv E (.fn _retry_Plan__delays_1 [] [.ptr (σ.length + 6) 1 0]) [.yld (σ.length + 5) 1] (S 0) = some (.tup [], F a k (.loop 1 st pend tm σ.length [11, 12] retry_By_A0 retry_By_R0)) → k = byA w m t T →
      (exec E (.rangeFunc 5 (.t 10) [11, 12] retry_By_A0 retry_By_R0) ⟨tm, σ ++ [.var 1 [aint w, aint m, aint t], .var 1 [aint T], .var 1 [aint 0], .var 1 [aint 0], .dead 0, .dead 0, .var 1 [aint w, aint m, aint t]], σ.length⟩).map (blockX 0) =
      some (.normal, ⟨tm, σ ++ [.var 1 [aint w, aint m, aint t], .var 1 [aint T], .var 1 [aint a], .var 1 [aint (byA w m t T)], .dead 0, .dead 1, .var 1 [aint w, aint m, aint t]], σ.length⟩) := by
    intro a k st pend hst hp hd hk
    rw [exec_range (B := .dead 0) (r := .tup []) (st := st) (pend := pend) (tm2 := tm) (base2 := σ.length) (ps2 := [11, 12]) (as2 := retry_By_A0) (bd2 := retry_By_R0) (σ2 := F a k (.loop 1 st pend tm σ.length [11, 12] retry_By_A0 retry_By_R0))]
    · rcases hp with rfl | rfl
      · simp only [F, go_sem, Nat.reduceEqDiff, Nat.reduceAdd, Nat.reduceSub, Nat.reduceMul, Nat.reduceLeDiff, Nat.reduceLT, Int.reduceLE, Int.reduceLT, Int.reduceEq, reduceCtorEq, decide_true, decide_false, hk]
      · simp only [F, go_sem, Nat.reduceEqDiff, Nat.reduceAdd, Nat.reduceSub, Nat.reduceMul, Nat.reduceLeDiff, Nat.reduceLT, Int.reduceLE, Int.reduceLT, Int.reduceEq, reduceCtorEq, decide_true, decide_false, hk]
    · simp only [go_sem, Nat.reduceEqDiff, Nat.reduceAdd, Nat.reduceSub, Nat.reduceMul, Nat.reduceLeDiff, Nat.reduceLT, Int.reduceLE, Int.reduceLT, Int.reduceEq, reduceCtorEq, decide_true, decide_false]
    · simp only [go_sem, Nat.reduceEqDiff, Nat.reduceAdd, Nat.reduceSub, Nat.reduceMul, Nat.reduceLeDiff, Nat.reduceLT, Int.reduceLE, Int.reduceLT, Int.reduceEq, reduceCtorEq, decide_true, decide_false, h10]
      exact hd
    · simp only [F, go_sem, Nat.reduceEqDiff, Nat.reduceAdd, Nat.reduceSub, Nat.reduceMul, Nat.reduceLeDiff, Nat.reduceLT, Int.reduceLE, Int.reduceLT, Int.reduceEq, reduceCtorEq, decide_true, decide_false]
    · exact hst
    · simp [F]
  by_cases hs : sane w m t = true
  · obtain ⟨hw, hm, hM, ht0, ht⟩ := sane_bounds hs
    have round : ∀ (k : Nat), k < t.toNat → ∀ (l : Store), callv E (.yld (σ.length + 5) 1) [aint k, aint (del w m k)] (S k ++ l) =
        (if T < tot w m (k + 1) then some (abool false, F (tot w m (k + 1)) k (.loop 1 .done (some (.exit 0)) tm σ.length [11, 12] retry_By_A0 retry_By_R0) ++ l) else some (abool true, S (k + 1) ++ l)) := by
      intro k hk l
      have h1 := tot_pos hw hm hM (k + 1)
      have hwr : IntKind.i64.wrap (tot w m k + del w m k) = tot w m (k + 1) := by
        simp only [tot] at h1 ⊢
        exact wrap_id (by omega)
      have hwk : IntKind.i64.wrap ((k : Int) + 1) = ((k + 1 : Nat) : Int) := by rw [wrap_id (by omega)]; rfl
      simp only [S, F, append_two, List.cons_append, List.nil_append]
      simp only [retry_By_A0, retry_By_R0, go_sem, Nat.reduceEqDiff, Nat.reduceAdd, Nat.reduceSub, Nat.reduceMul, Nat.reduceLeDiff, Nat.reduceLT, Int.reduceLE, Int.reduceLT, Int.reduceEq, reduceCtorEq, decide_true, decide_false, h3, h5, h6, condV_bool, List.length_append, hwr]
      by_cases e : T < tot w m (k + 1)
      · simp only [go_sem, Nat.reduceEqDiff, Nat.reduceAdd, Nat.reduceSub, Nat.reduceMul, Nat.reduceLeDiff, Nat.reduceLT, Int.reduceLE, Int.reduceLT, Int.reduceEq, reduceCtorEq, decide_true, decide_false, e, gt_iff_lt, decide_true, List.length_append]
      · simp only [go_sem, Nat.reduceEqDiff, Nat.reduceAdd, Nat.reduceSub, Nat.reduceMul, Nat.reduceLeDiff, Nat.reduceLT, Int.reduceLE, Int.reduceLT, Int.reduceEq, reduceCtorEq, decide_true, decide_false, h3, h5, h6, e, gt_iff_lt, decide_false, List.length_append, hwk]
    obtain ⟨b1, b2, b3, b4⟩ := byF_spec w m T t.toNat 0
    by_cases hK : byF w m T t.toNat 0 < t.toNat
    · refine ⟨tot w m (byF w m T t.toNat 0 + 1), fin _ (byF w m T t.toNat 0) .done (some (.exit 0)) (by simp) (.inr rfl) ?_ (by simp [byA, hs])⟩
      refine delays_1_ok hw hm hM ht hs (b := σ.length + 6) (ver := 1) (lb := σ.length + 5) (lv := 1) (S := S) (K := byF w m T t.toNat 0) (stop := some (F (tot w m (byF w m T t.toNat 0 + 1)) (byF w m T t.toNat 0) (.loop 1 .done (some (.exit 0)) tm σ.length [11, 12] retry_By_A0 retry_By_R0)))
        (fun _ => by simp [S, F]) (fun k _ => hb k) (fun k hk l => by rw [round k (by omega) l, if_neg (by have := b3 k (by omega) hk; omega)]) (by omega) ⟨by omega, fun l => by rw [round _ hK l, if_pos (b4 (by omega))], ?_, by simp [S, F]⟩
      refine okTake_list ?_
      simp [okL_cons, okL_nil, okB_same, okB_var, okB_loop, wfL, wfV]
    · have hK' : byF w m T t.toNat 0 = t.toNat := by omega
      refine ⟨tot w m t.toNat, fin _ ((t.toNat : Nat) : Int) .ready none (by simp) (.inl rfl) ?_ (by simp [byA, hs, hK'])⟩
      refine delays_1_ok hw hm hM ht hs (b := σ.length + 6) (ver := 1) (lb := σ.length + 5) (lv := 1) (S := S) (K := t.toNat) (stop := none)
        (fun _ => by simp [S, F]) (fun k _ => hb k) (fun k hk l => by rw [round k hk l, if_neg (by have := b3 k (by omega) (by omega); omega)]) (by omega) ⟨by omega, ?_⟩
      refine okTake_list ?_
      simp [okL_cons, okL_nil, okB_same, okB_var, okB_loop, wfL, wfV]
  · have hs : sane w m t = false := by simpa using hs
    exact ⟨0, fin 0 0 .ready none (by simp) (.inl rfl) (delays_1_none hs (hb 0)) (by simp [byA, hs])⟩

theorem By_ok (w m t T : Int) (σ : Store) : callv E (.fn retry_By [] []) [.agg [aint w, aint m, aint t], aint T] σ = some (aint (byA w m t T), σ) := by
  rw [call_fn (E_X _) (E_fn retry_By_c), retry_By_A]
  simp only [go_sem, Nat.reduceEqDiff, Nat.reduceAdd, Nat.reduceSub, Nat.reduceMul, Nat.reduceLeDiff, Nat.reduceLT, Int.reduceLE, Int.reduceLT, Int.reduceEq, reduceCtorEq, decide_true, decide_false, delays_ok, E_raw, raws, cop.recv, append_two, List.length_append]
  rw [Exists.choose_spec (By_range rfl rfl rfl rfl)]
  simp only [go_sem, Nat.reduceEqDiff, Nat.reduceAdd, Nat.reduceSub, Nat.reduceMul, Nat.reduceLeDiff, Nat.reduceLT, Int.reduceLE, Int.reduceLT, Int.reduceEq, reduceCtorEq, decide_true, decide_false]
end Go.Proofs.Ytcfbnhdcpmnpaaa.Fn
