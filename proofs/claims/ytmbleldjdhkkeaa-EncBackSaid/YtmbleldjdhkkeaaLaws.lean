/- The laws of the first chapter. -/
import Derived.Test.YtmbleldjdhkkeaaRef
set_option linter.unusedSimpArgs false
set_option linter.unusedVariables false
namespace Go.Proofs.Ytmbleldjdhkkeaa.Fn
open Go Go.Abs

/-! Readers in a frame -/
structure RdL (s : Nat) (l : Store) (j : Nat) (B : List UInt8) (p : Nat) (e : Int) : Prop where
  b : l[j]? = some (.var 1 [bsl B])
  r : l[j + 1]? = some (rdBox (s + j) B p e)
  v : l[j + 2]? = some (.var 1 [.ptr (s + (j + 1)) 1 0])
theorem RdL.rd {σ l : Store} {j : Nat} {B : List UInt8} {p : Nat} {e : Int} (h : RdL σ.length l j B p e) : Rd (σ ++ l) (σ.length + j) B p e :=
  ⟨by rw [get_loc]; exact h.b, by rw [Nat.add_assoc, get_loc]; exact h.r, by rw [Nat.add_assoc, get_loc]; exact h.v⟩
section
variable {σ l : Store} {B : List UInt8} {p : Nat} {e : Int} (j q : Nat) (hq : q = j + 1)
include hq
theorem U_lay (h : RdL σ.length l j B p e) (hp : p ≤ B.length) (hB : B.length ≤ 1000000000) (n : Int) :
    callv E (.fn __enc_Reader__U [] []) [.ptr (σ.length + q) 1 0, aint n] (σ ++ l) = some (.atom (.int .u64 (uD B p e n)), σ ++ l.set q (rdBox (σ.length + j) B (uP B p e n) (uE B p e n))) := by
  subst hq
  have := RdU_ok h.rd hp hB n
  rwa [Nat.add_assoc, set_loc] at this
theorem List_lay (h : RdL σ.length l j B p e) (hp : p ≤ B.length) (hB : B.length ≤ 1000000000) (most : Int) :
    callv E (.fn __enc_Reader__List [] []) [.ptr (σ.length + q) 1 0, aint most] (σ ++ l) =
      some (bsl (nxD B (uP B p e 2) (liE B p e most) (uD B p e 2)), σ ++ l.set q (rdBox (σ.length + j) B (nxP B (uP B p e 2) (liE B p e most) (uD B p e 2)) (nxE B (uP B p e 2) (liE B p e most) (uD B p e 2)))) := by
  subst hq
  have := RdList_ok h.rd hp hB most
  rwa [Nat.add_assoc, set_loc] at this
theorem Flag_lay (h : RdL σ.length l j B p e) (hp : p ≤ B.length) (hB : B.length ≤ 1000000000) :
    callv E (.fn __enc_Reader__Flag [] []) [.ptr (σ.length + q) 1 0] (σ ++ l) = some (abool (decide (uD B p e 1 = 1)), σ ++ l.set q (rdBox (σ.length + j) B (uP B p e 1) (flE B p e))) := by
  subst hq
  have := RdFlag_ok h.rd hp hB
  rwa [Nat.add_assoc, set_loc] at this
theorem Fail_lay (h : RdL σ.length l j B p e) (x : Int) :
    callv E (.fn __enc_Reader__Fail [] []) [.ptr (σ.length + q) 1 0, aint x] (σ ++ l) = some (.tup [], σ ++ l.set q (rdBox (σ.length + j) B p (if e = 0 then x else e))) := by
  subst hq
  have := Fail_ok (x := x) h.rd
  rwa [Nat.add_assoc, set_loc] at this
theorem Err_lay (h : RdL σ.length l j B p e) : callv E (.fn __enc_Reader__Err [] []) [.ptr (σ.length + q) 1 0] (σ ++ l) = some (aint e, σ ++ l) := by subst hq; exact RdErr_ok h.rd
theorem At_lay (h : RdL σ.length l j B p e) : callv E (.fn __enc_Reader__At [] []) [.ptr (σ.length + q) 1 0] (σ ++ l) = some (aint p, σ ++ l) := by subst hq; exact RdAt_ok h.rd
theorem End_lay (h : RdL σ.length l j B p e) : callv E (.fn __enc_Reader__End [] []) [.ptr (σ.length + q) 1 0] (σ ++ l) = some (aint (endE B p e), σ ++ l) := by subst hq; exact RdEnd_ok h.rd
end

/-- The document's example. -/
def aw : List UInt8 := [52, 18]
theorem U_aw (σ : Store) : callv E (.fn enc_U [] []) [.sl [], .atom (.int .u64 4660), aint 2] σ = some (.own σ.length 0 1 0 2, σ ++ [.arr 0 false 1 (aw.map abyte)]) := U_ok [] 4660 2 (by simp) σ

theorem awake_ok (σ : Store) : callv E (.fn godwitlaw01_awake [] []) [] σ = some (abool true, σ) := by
  rw [call_fn (E_X _ (by decide)) (E_fn godwitlaw01_awake_c), godwitlaw01_awake_A]
  have a0 : aw[0]? = some 52 := rfl
  have a1 : aw[1]? = some 18 := rfl
  have al : aw.length = 2 := rfl
  have a2 : (aw.map abyte).take 2 = aw.map abyte := rfl
  simp (disch := omega) only [go_sem, Nat.reduceEqDiff, Nat.reduceAdd, Nat.reduceSub, Nat.reduceMul, Nat.reduceLeDiff, Nat.reduceLT, Int.reduceLE, Int.reduceLT, Int.reduceEq, reduceCtorEq, decide_true, decide_false, List.append_assoc, List.length_append, Nat.reduceBEq, ne_eq, Option.some.injEq, not_false_eq_true, not_true_eq_false, Int.reduceToNat, Nat.zero_add, Nat.mul_one, Int.toNat_natCast, true_implies, chk_pos, dec_t, dec_f, E_raw, raws, U_aw, New_ok, E_raw, raws, List.length_map, al, a2, Nat.add_assoc]
  rw [U_lay 5 6 rfl (B := aw) (p := 0) (e := 0) ⟨rfl, rfl, rfl⟩ (by decide) (by decide)]
  have e1 : uD aw 0 0 2 = 4660 := by decide
  have e2 : uE aw 0 0 2 = 0 := by decide
  have e3 : uP aw 0 0 2 = 2 := by decide
  rw [e1, e2, e3]
  simp (disch := omega) only [go_sem, Nat.reduceEqDiff, Nat.reduceAdd, Nat.reduceSub, Nat.reduceMul, Nat.reduceLeDiff, Nat.reduceLT, Int.reduceLE, Int.reduceLT, Int.reduceEq, reduceCtorEq, decide_true, decide_false, List.append_assoc, List.length_append, Nat.reduceBEq, ne_eq, Option.some.injEq, not_false_eq_true, not_true_eq_false, Int.reduceToNat, Nat.zero_add, Nat.mul_one, Int.toNat_natCast, true_implies, chk_pos, dec_t, dec_f, E_raw, raws, scV_true, a0, a1, List.getElem?_map, beqi_t]
  rw [End_lay 5 6 rfl (B := aw) (p := 2) (e := 0) ⟨rfl, rfl, rfl⟩]
  have e4 : endE aw 2 0 = 0 := by decide
  rw [e4]
  simp (disch := omega) only [go_sem, Nat.reduceEqDiff, Nat.reduceAdd, Nat.reduceSub, Nat.reduceMul, Nat.reduceLeDiff, Nat.reduceLT, Int.reduceLE, Int.reduceLT, Int.reduceEq, reduceCtorEq, decide_true, decide_false, List.append_assoc, List.length_append, Nat.reduceBEq, ne_eq, Option.some.injEq, not_false_eq_true, not_true_eq_false, Int.reduceToNat, Nat.zero_add, Nat.mul_one, Int.toNat_natCast, true_implies, chk_pos, dec_t, dec_f, E_raw, raws, scV_true, beqi_t]
  rw [At_lay 5 6 rfl (B := aw) (p := 2) (e := 0) ⟨rfl, rfl, rfl⟩]
  simp (disch := omega) only [go_sem, Nat.reduceEqDiff, Nat.reduceAdd, Nat.reduceSub, Nat.reduceMul, Nat.reduceLeDiff, Nat.reduceLT, Int.reduceLE, Int.reduceLT, Int.reduceEq, reduceCtorEq, decide_true, decide_false, List.append_assoc, List.length_append, Nat.reduceBEq, ne_eq, Option.some.injEq, not_false_eq_true, not_true_eq_false, Int.reduceToNat, Nat.zero_add, Nat.mul_one, Int.toNat_natCast, true_implies, chk_pos, dec_t, dec_f, E_raw, raws, scV_true, beqi_t]
  rfl

theorem u_in {B : List UInt8} {p n : Nat} (hp : p + n ≤ B.length) (h1 : 1 ≤ n) (h8 : n ≤ 8) : uE B p 0 n = 0 ∧ uP B p 0 n = p + n ∧ uD B p 0 n = num ((B.drop p).take n) := by
  have h0 : ¬ ((n : Int) < 1 ∨ (n : Int) > 8) := by omega
  have hx : nxE B p 0 n = 0 := by unfold nxE; rw [if_neg (by omega)]
  refine ⟨?_, ?_, ?_⟩
  · simp only [uE]; rw [if_neg h0]; exact hx
  · simp only [uP]; rw [if_neg h0]; simp only [nxP, Int.toNat_natCast, hx]; rfl
  · simp only [uD]; rw [if_neg h0]; simp only [nxD, Int.toNat_natCast, hx]; rfl

theorem split_ok (B : List UInt8) (σ : Store) : ∃ σ', callv E (.fn godwitlaw01_EncSplit [] []) [bsl B] σ = some (abool true, σ') := by
  refine ⟨σ, ?_⟩
  rw [call_fn (E_X _ (by decide)) (E_fn godwitlaw01_EncSplit_c), godwitlaw01_EncSplit_A]
  by_cases h1 : (B.length : Int) > 100
  · simp (disch := omega) only [go_sem, Nat.reduceEqDiff, Nat.reduceAdd, Nat.reduceSub, Nat.reduceMul, Nat.reduceLeDiff, Nat.reduceLT, Int.reduceLE, Int.reduceLT, Int.reduceEq, reduceCtorEq, decide_true, decide_false, List.append_assoc, List.length_append, Nat.reduceBEq, ne_eq, Option.some.injEq, not_false_eq_true, not_true_eq_false, Int.reduceToNat, Nat.zero_add, Nat.mul_one, Int.toNat_natCast, true_implies, chk_pos, dec_t, dec_f, E_raw, raws, awake_ok, List.length_map, scV_false]
  · by_cases h2 : (B.length : Int) < 4
    · simp (disch := omega) only [go_sem, Nat.reduceEqDiff, Nat.reduceAdd, Nat.reduceSub, Nat.reduceMul, Nat.reduceLeDiff, Nat.reduceLT, Int.reduceLE, Int.reduceLT, Int.reduceEq, reduceCtorEq, decide_true, decide_false, List.append_assoc, List.length_append, Nat.reduceBEq, ne_eq, Option.some.injEq, not_false_eq_true, not_true_eq_false, Int.reduceToNat, Nat.zero_add, Nat.mul_one, Int.toNat_natCast, true_implies, chk_pos, dec_t, dec_f, E_raw, raws, awake_ok, List.length_map, scV_false]
    · have f1 : uE B 0 0 1 = 0 ∧ uP B 0 0 1 = 1 ∧ uD B 0 0 1 = num ((B.drop 0).take 1) := u_in (n := 1) (by omega) (by omega) (by omega)
      have f2 : uE B 1 0 1 = 0 ∧ uP B 1 0 1 = 2 ∧ uD B 1 0 1 = num ((B.drop 1).take 1) := u_in (n := 1) (by omega) (by omega) (by omega)
      have f3 : uE B 2 0 1 = 0 ∧ uP B 2 0 1 = 3 ∧ uD B 2 0 1 = num ((B.drop 2).take 1) := u_in (n := 1) (by omega) (by omega) (by omega)
      have f4 : uE B 3 0 1 = 0 ∧ uP B 3 0 1 = 4 ∧ uD B 3 0 1 = num ((B.drop 3).take 1) := u_in (n := 1) (by omega) (by omega) (by omega)
      have f5 : uE B 0 0 2 = 0 ∧ uP B 0 0 2 = 2 ∧ uD B 0 0 2 = num ((B.drop 0).take 2) := u_in (n := 2) (by omega) (by omega) (by omega)
      have f6 : uE B 2 0 2 = 0 ∧ uP B 2 0 2 = 4 ∧ uD B 2 0 2 = num ((B.drop 2).take 2) := u_in (n := 2) (by omega) (by omega) (by omega)
      have f7 : uE B 0 0 4 = 0 ∧ uP B 0 0 4 = 4 ∧ uD B 0 0 4 = num ((B.drop 0).take 4) := u_in (n := 4) (by omega) (by omega) (by omega)
      obtain ⟨c0, c1, c2, c3, r, rfl⟩ : ∃ c0 c1 c2 c3 r, B = c0 :: c1 :: c2 :: c3 :: r := by
        match B, h2 with
        | c0 :: c1 :: c2 :: c3 :: r, _ => exact ⟨c0, c1, c2, c3, r, rfl⟩
        | [], h => simp at h
        | [_], h => simp at h
        | [_, _], h => simp at h
        | [_, _, _], h => simp at h
      simp only [List.drop_zero, List.drop_succ_cons, List.take_succ_cons, List.take_zero, num, Nat.mul_zero, Nat.add_zero] at f1 f2 f3 f4 f5 f6 f7
      have k0 := c0.toNat_lt
      have k1 := c1.toNat_lt
      have k2 := c2.toNat_lt
      have k3 := c3.toNat_lt
      generalize c0 :: c1 :: c2 :: c3 :: r = B at *
      simp (disch := omega) only [go_sem, Nat.reduceEqDiff, Nat.reduceAdd, Nat.reduceSub, Nat.reduceMul, Nat.reduceLeDiff, Nat.reduceLT, Int.reduceLE, Int.reduceLT, Int.reduceEq, reduceCtorEq, decide_true, decide_false, List.append_assoc, List.length_append, Nat.reduceBEq, ne_eq, Option.some.injEq, not_false_eq_true, not_true_eq_false, Int.reduceToNat, Nat.zero_add, Nat.mul_one, Int.toNat_natCast, true_implies, chk_pos, dec_t, dec_f, E_raw, raws, awake_ok, List.length_map, scV_false, New_ok, Nat.add_assoc]
      rw [U_lay 14 15 rfl (B := B) (p := 0) (e := 0) ⟨rfl, rfl, rfl⟩ (by omega) (by omega), f1.1, f1.2.1, f1.2.2]
      simp (disch := omega) only [go_sem, Nat.reduceEqDiff, Nat.reduceAdd, Nat.reduceSub, Nat.reduceMul, Nat.reduceLeDiff, Nat.reduceLT, Int.reduceLE, Int.reduceLT, Int.reduceEq, reduceCtorEq, decide_true, decide_false, List.append_assoc, List.length_append, Nat.reduceBEq, ne_eq, Option.some.injEq, not_false_eq_true, not_true_eq_false, Int.reduceToNat, Nat.zero_add, Nat.mul_one, Int.toNat_natCast, true_implies, chk_pos, dec_t, dec_f, E_raw, raws, ]
      rw [U_lay 14 15 rfl (B := B) (p := 1) (e := 0) ⟨rfl, rfl, rfl⟩ (by omega) (by omega), f2.1, f2.2.1, f2.2.2]
      simp (disch := omega) only [go_sem, Nat.reduceEqDiff, Nat.reduceAdd, Nat.reduceSub, Nat.reduceMul, Nat.reduceLeDiff, Nat.reduceLT, Int.reduceLE, Int.reduceLT, Int.reduceEq, reduceCtorEq, decide_true, decide_false, List.append_assoc, List.length_append, Nat.reduceBEq, ne_eq, Option.some.injEq, not_false_eq_true, not_true_eq_false, Int.reduceToNat, Nat.zero_add, Nat.mul_one, Int.toNat_natCast, true_implies, chk_pos, dec_t, dec_f, E_raw, raws, ]
      rw [U_lay 14 15 rfl (B := B) (p := 2) (e := 0) ⟨rfl, rfl, rfl⟩ (by omega) (by omega), f3.1, f3.2.1, f3.2.2]
      simp (disch := omega) only [go_sem, Nat.reduceEqDiff, Nat.reduceAdd, Nat.reduceSub, Nat.reduceMul, Nat.reduceLeDiff, Nat.reduceLT, Int.reduceLE, Int.reduceLT, Int.reduceEq, reduceCtorEq, decide_true, decide_false, List.append_assoc, List.length_append, Nat.reduceBEq, ne_eq, Option.some.injEq, not_false_eq_true, not_true_eq_false, Int.reduceToNat, Nat.zero_add, Nat.mul_one, Int.toNat_natCast, true_implies, chk_pos, dec_t, dec_f, E_raw, raws, ]
      rw [U_lay 14 15 rfl (B := B) (p := 3) (e := 0) ⟨rfl, rfl, rfl⟩ (by omega) (by omega), f4.1, f4.2.1, f4.2.2]
      simp (disch := omega) only [go_sem, Nat.reduceEqDiff, Nat.reduceAdd, Nat.reduceSub, Nat.reduceMul, Nat.reduceLeDiff, Nat.reduceLT, Int.reduceLE, Int.reduceLT, Int.reduceEq, reduceCtorEq, decide_true, decide_false, List.append_assoc, List.length_append, Nat.reduceBEq, ne_eq, Option.some.injEq, not_false_eq_true, not_true_eq_false, Int.reduceToNat, Nat.zero_add, Nat.mul_one, Int.toNat_natCast, true_implies, chk_pos, dec_t, dec_f, E_raw, raws, ]
      rw [U_lay 17 18 rfl (B := B) (p := 0) (e := 0) ⟨rfl, rfl, rfl⟩ (by omega) (by omega), f5.1, f5.2.1, f5.2.2]
      simp (disch := omega) only [go_sem, Nat.reduceEqDiff, Nat.reduceAdd, Nat.reduceSub, Nat.reduceMul, Nat.reduceLeDiff, Nat.reduceLT, Int.reduceLE, Int.reduceLT, Int.reduceEq, reduceCtorEq, decide_true, decide_false, List.append_assoc, List.length_append, Nat.reduceBEq, ne_eq, Option.some.injEq, not_false_eq_true, not_true_eq_false, Int.reduceToNat, Nat.zero_add, Nat.mul_one, Int.toNat_natCast, true_implies, chk_pos, dec_t, dec_f, E_raw, raws, ]
      rw [U_lay 17 18 rfl (B := B) (p := 2) (e := 0) ⟨rfl, rfl, rfl⟩ (by omega) (by omega), f6.1, f6.2.1, f6.2.2]
      simp (disch := omega) only [go_sem, Nat.reduceEqDiff, Nat.reduceAdd, Nat.reduceSub, Nat.reduceMul, Nat.reduceLeDiff, Nat.reduceLT, Int.reduceLE, Int.reduceLT, Int.reduceEq, reduceCtorEq, decide_true, decide_false, List.append_assoc, List.length_append, Nat.reduceBEq, ne_eq, Option.some.injEq, not_false_eq_true, not_true_eq_false, Int.reduceToNat, Nat.zero_add, Nat.mul_one, Int.toNat_natCast, true_implies, chk_pos, dec_t, dec_f, E_raw, raws, ]
      rw [U_lay 20 21 rfl (B := B) (p := 0) (e := 0) ⟨rfl, rfl, rfl⟩ (by omega) (by omega), f7.1, f7.2.1, f7.2.2]
      simp (disch := omega) only [go_sem, Nat.reduceEqDiff, Nat.reduceAdd, Nat.reduceSub, Nat.reduceMul, Nat.reduceLeDiff, Nat.reduceLT, Int.reduceLE, Int.reduceLT, Int.reduceEq, reduceCtorEq, decide_true, decide_false, List.append_assoc, List.length_append, Nat.reduceBEq, ne_eq, Option.some.injEq, not_false_eq_true, not_true_eq_false, Int.reduceToNat, Nat.zero_add, Nat.mul_one, Int.toNat_natCast, true_implies, chk_pos, dec_t, dec_f, E_raw, raws, scV_true, wrap_u64, beqi_t]
      rw [At_lay 14 15 rfl (B := B) (p := 4) (e := 0) ⟨rfl, rfl, rfl⟩]
      simp (disch := omega) only [go_sem, Nat.reduceEqDiff, Nat.reduceAdd, Nat.reduceSub, Nat.reduceMul, Nat.reduceLeDiff, Nat.reduceLT, Int.reduceLE, Int.reduceLT, Int.reduceEq, reduceCtorEq, decide_true, decide_false, List.append_assoc, List.length_append, Nat.reduceBEq, ne_eq, Option.some.injEq, not_false_eq_true, not_true_eq_false, Int.reduceToNat, Nat.zero_add, Nat.mul_one, Int.toNat_natCast, true_implies, chk_pos, dec_t, dec_f, E_raw, raws, scV_true, beqi_t]
      rw [At_lay 17 18 rfl (B := B) (p := 4) (e := 0) ⟨rfl, rfl, rfl⟩]
      simp (disch := omega) only [go_sem, Nat.reduceEqDiff, Nat.reduceAdd, Nat.reduceSub, Nat.reduceMul, Nat.reduceLeDiff, Nat.reduceLT, Int.reduceLE, Int.reduceLT, Int.reduceEq, reduceCtorEq, decide_true, decide_false, List.append_assoc, List.length_append, Nat.reduceBEq, ne_eq, Option.some.injEq, not_false_eq_true, not_true_eq_false, Int.reduceToNat, Nat.zero_add, Nat.mul_one, Int.toNat_natCast, true_implies, chk_pos, dec_t, dec_f, E_raw, raws, scV_true, beqi_t]
      rw [At_lay 20 21 rfl (B := B) (p := 4) (e := 0) ⟨rfl, rfl, rfl⟩]
      simp (disch := omega) only [go_sem, Nat.reduceEqDiff, Nat.reduceAdd, Nat.reduceSub, Nat.reduceMul, Nat.reduceLeDiff, Nat.reduceLT, Int.reduceLE, Int.reduceLT, Int.reduceEq, reduceCtorEq, decide_true, decide_false, List.append_assoc, List.length_append, Nat.reduceBEq, ne_eq, Option.some.injEq, not_false_eq_true, not_true_eq_false, Int.reduceToNat, Nat.zero_add, Nat.mul_one, Int.toNat_natCast, true_implies, chk_pos, dec_t, dec_f, E_raw, raws, scV_true, beqi_t]
end Go.Proofs.Ytmbleldjdhkkeaa.Fn
