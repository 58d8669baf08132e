/- The laws of the first chapter: EncLays, EncLens. -/
import Derived.Test.YtmbleldjdhkkeaaLaws
set_option linter.unusedSimpArgs false
set_option linter.unusedVariables false
namespace Go.Proofs.Ytmbleldjdhkkeaa.Fn
open Go Go.Abs

theorem lays_ok (b l : List UInt8) (v : Nat) (n : Int) (hv : v < 18446744073709551616) (σ : Store) : ∃ σ', callv E (.fn godwitlaw01_EncLays [] []) [bsl b, .atom (.int .u64 v), aint n, bsl l] σ = some (abool true, σ') := by
  refine ⟨σ, ?_⟩
  rw [call_fn (E_X _ (by decide)) (E_fn godwitlaw01_EncLays_c), godwitlaw01_EncLays_A]
  by_cases h1 : (b.length : Int) > 500
  · simp (disch := omega) only [go_sem, Nat.reduceEqDiff, Nat.reduceAdd, Nat.reduceSub, Nat.reduceMul, Nat.reduceLeDiff, Nat.reduceLT, Int.reduceLE, Int.reduceLT, Int.reduceEq, reduceCtorEq, decide_true, decide_false, List.append_assoc, List.length_append, Nat.reduceBEq, ne_eq, Option.some.injEq, not_false_eq_true, not_true_eq_false, Int.reduceToNat, Nat.zero_add, Nat.mul_one, Int.toNat_natCast, true_implies, chk_pos, dec_t, dec_f, E_raw, raws, awake_ok, List.length_map, scV_false]
  · by_cases h2 : (l.length : Int) > 70000
    · simp (disch := omega) only [go_sem, Nat.reduceEqDiff, Nat.reduceAdd, Nat.reduceSub, Nat.reduceMul, Nat.reduceLeDiff, Nat.reduceLT, Int.reduceLE, Int.reduceLT, Int.reduceEq, reduceCtorEq, decide_true, decide_false, List.append_assoc, List.length_append, Nat.reduceBEq, ne_eq, Option.some.injEq, not_false_eq_true, not_true_eq_false, Int.reduceToNat, Nat.zero_add, Nat.mul_one, Int.toNat_natCast, true_implies, chk_pos, dec_t, dec_f, E_raw, raws, awake_ok, List.length_map, scV_false]
    · have t1 : ∀ L : List UInt8, (L.map abyte).take L.length = L.map abyte := fun L => take_map_len abyte L
      simp (disch := omega) only [go_sem, Nat.reduceEqDiff, Nat.reduceAdd, Nat.reduceSub, Nat.reduceMul, Nat.reduceLeDiff, Nat.reduceLT, Int.reduceLE, Int.reduceLT, Int.reduceEq, reduceCtorEq, decide_true, decide_false, List.append_assoc, List.length_append, Nat.reduceBEq, ne_eq, Option.some.injEq, not_false_eq_true, not_true_eq_false, Int.reduceToNat, Nat.zero_add, Nat.mul_one, Int.toNat_natCast, true_implies, chk_pos, dec_t, dec_f, E_raw, raws, awake_ok, List.length_map, scV_false, scV_true, Nat.add_assoc]
      rw [U_ok b v n (by omega)]
      generalize hL1 : b ++ le v (min n 8).toNat = L1
      simp (disch := omega) only [go_sem, Nat.reduceEqDiff, Nat.reduceAdd, Nat.reduceSub, Nat.reduceMul, Nat.reduceLeDiff, Nat.reduceLT, Int.reduceLE, Int.reduceLT, Int.reduceEq, reduceCtorEq, decide_true, decide_false, List.append_assoc, List.length_append, Nat.reduceBEq, ne_eq, Option.some.injEq, not_false_eq_true, not_true_eq_false, Int.reduceToNat, Nat.zero_add, Nat.mul_one, Int.toNat_natCast, true_implies, chk_pos, dec_t, dec_f, E_raw, raws, awake_ok, List.length_map, scV_false, scV_true, Nat.add_assoc]
      rw [RU_ok b v n hv (by omega), hL1]
      simp (disch := omega) only [go_sem, Nat.reduceEqDiff, Nat.reduceAdd, Nat.reduceSub, Nat.reduceMul, Nat.reduceLeDiff, Nat.reduceLT, Int.reduceLE, Int.reduceLT, Int.reduceEq, reduceCtorEq, decide_true, decide_false, List.append_assoc, List.length_append, Nat.reduceBEq, ne_eq, Option.some.injEq, not_false_eq_true, not_true_eq_false, Int.reduceToNat, Nat.zero_add, Nat.mul_one, Int.toNat_natCast, true_implies, chk_pos, dec_t, dec_f, E_raw, raws, scV_true, beq_self_eq_true, List.length_map]
      rw [List_ok b l (by omega) (by omega)]
      generalize hL2 : b ++ le (min l.length 65535) 2 ++ l.take 65535 = L2
      simp (disch := omega) only [go_sem, Nat.reduceEqDiff, Nat.reduceAdd, Nat.reduceSub, Nat.reduceMul, Nat.reduceLeDiff, Nat.reduceLT, Int.reduceLE, Int.reduceLT, Int.reduceEq, reduceCtorEq, decide_true, decide_false, List.append_assoc, List.length_append, Nat.reduceBEq, ne_eq, Option.some.injEq, not_false_eq_true, not_true_eq_false, Int.reduceToNat, Nat.zero_add, Nat.mul_one, Int.toNat_natCast, true_implies, chk_pos, dec_t, dec_f, E_raw, raws, scV_true, beq_self_eq_true, List.length_map]
      rw [RList_ok b l (by omega) (by omega), hL2]
      simp (disch := omega) only [go_sem, Nat.reduceEqDiff, Nat.reduceAdd, Nat.reduceSub, Nat.reduceMul, Nat.reduceLeDiff, Nat.reduceLT, Int.reduceLE, Int.reduceLT, Int.reduceEq, reduceCtorEq, decide_true, decide_false, List.append_assoc, List.length_append, Nat.reduceBEq, ne_eq, Option.some.injEq, not_false_eq_true, not_true_eq_false, Int.reduceToNat, Nat.zero_add, Nat.mul_one, Int.toNat_natCast, true_implies, chk_pos, dec_t, dec_f, E_raw, raws, scV_true, beq_self_eq_true, List.length_map]

theorem lens_ok (b l : List UInt8) (v : Nat) (n : Int) (hv : v < 18446744073709551616) (σ : Store) : ∃ σ', callv E (.fn godwitlaw01_EncLens [] []) [bsl b, .atom (.int .u64 v), aint n, bsl l] σ = some (abool true, σ') := by
  refine ⟨σ, ?_⟩
  rw [call_fn (E_X _ (by decide)) (E_fn godwitlaw01_EncLens_c), godwitlaw01_EncLens_A]
  by_cases h1 : (b.length : Int) > 500
  · simp (disch := omega) only [go_sem, Nat.reduceEqDiff, Nat.reduceAdd, Nat.reduceSub, Nat.reduceMul, Nat.reduceLeDiff, Nat.reduceLT, Int.reduceLE, Int.reduceLT, Int.reduceEq, reduceCtorEq, decide_true, decide_false, List.append_assoc, List.length_append, Nat.reduceBEq, ne_eq, Option.some.injEq, not_false_eq_true, not_true_eq_false, Int.reduceToNat, Nat.zero_add, Nat.mul_one, Int.toNat_natCast, true_implies, chk_pos, dec_t, dec_f, E_raw, raws, awake_ok, List.length_map, scV_false]
  · by_cases h2 : (l.length : Int) > 500
    · simp (disch := omega) only [go_sem, Nat.reduceEqDiff, Nat.reduceAdd, Nat.reduceSub, Nat.reduceMul, Nat.reduceLeDiff, Nat.reduceLT, Int.reduceLE, Int.reduceLT, Int.reduceEq, reduceCtorEq, decide_true, decide_false, List.append_assoc, List.length_append, Nat.reduceBEq, ne_eq, Option.some.injEq, not_false_eq_true, not_true_eq_false, Int.reduceToNat, Nat.zero_add, Nat.mul_one, Int.toNat_natCast, true_implies, chk_pos, dec_t, dec_f, E_raw, raws, awake_ok, List.length_map, scV_false]
    · have h3 : ∀ X, List.take b.length (List.map abyte (b ++ X)) = List.map abyte b := fun X => by rw [← List.map_take, List.take_left]
      have h4 : ∀ m X, List.drop (b.length + 2) (List.map abyte (b ++ (le m 2 ++ X))) = List.map abyte X := fun m X => by
        rw [← List.map_drop, ← List.append_assoc, List.drop_left' (by simp [le_length])]
      have h5 : l.take 65535 = l := List.take_of_length_le (by omega)
      have h6 : (if (if (8 : Int) < n then 8 else n) > 0 then (if (8 : Int) < n then 8 else n) else 0) = ((min n 8).toNat : Int) := by split <;> split <;> omega
      have h7 : ((b.length : Int) + 2).toNat = b.length + 2 := by omega
      have h8 : b.length + (2 + l.length) - (b.length + 2) = l.length := by omega
      simp (disch := omega) only [go_sem, Nat.reduceEqDiff, Nat.reduceAdd, Nat.reduceSub, Nat.reduceMul, Nat.reduceLeDiff, Nat.reduceLT, Int.reduceLE, Int.reduceLT, Int.reduceEq, reduceCtorEq, decide_true, decide_false, List.append_assoc, List.length_append, Nat.reduceBEq, ne_eq, Option.some.injEq, not_false_eq_true, not_true_eq_false, Int.reduceToNat, Nat.zero_add, Nat.mul_one, Int.toNat_natCast, true_implies, chk_pos, dec_t, dec_f, E_raw, raws, awake_ok, List.length_map, scV_false, scV_true, Nat.add_assoc]
      rw [U_ok b v n (by omega)]
      simp (disch := omega) only [go_sem, Nat.reduceEqDiff, Nat.reduceAdd, Nat.reduceSub, Nat.reduceMul, Nat.reduceLeDiff, Nat.reduceLT, Int.reduceLE, Int.reduceLT, Int.reduceEq, reduceCtorEq, decide_true, decide_false, List.append_assoc, List.length_append, Nat.reduceBEq, ne_eq, Option.some.injEq, not_false_eq_true, not_true_eq_false, Int.reduceToNat, Nat.zero_add, Nat.mul_one, Int.toNat_natCast, true_implies, chk_pos, dec_t, dec_f, E_raw, raws, List.length_map, le_length]
      rw [List_ok b l (by omega) (by omega)]
      simp (disch := omega) only [go_sem, Nat.reduceEqDiff, Nat.reduceAdd, Nat.reduceSub, Nat.reduceMul, Nat.reduceLeDiff, Nat.reduceLT, Int.reduceLE, Int.reduceLT, Int.reduceEq, reduceCtorEq, decide_true, decide_false, List.append_assoc, List.length_append, Nat.reduceBEq, ne_eq, Option.some.injEq, not_false_eq_true, not_true_eq_false, Int.reduceToNat, Nat.zero_add, Nat.mul_one, Int.toNat_natCast, true_implies, chk_pos, dec_t, dec_f, E_raw, raws, List.length_map, le_length, h5, h6, wrap_i64, scV_true, beqi_t, h3, h4, beq_self_eq_true, Nat.sub_zero, h7, h8]
end Go.Proofs.Ytmbleldjdhkkeaa.Fn
