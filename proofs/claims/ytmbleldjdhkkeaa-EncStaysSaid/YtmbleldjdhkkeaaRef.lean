/- The document's reader, reckoned; small functions of the program's. -/
import Derived.Test.YtmbleldjdhkkeaaFn
set_option linter.unusedSimpArgs false
set_option linter.unusedVariables false
namespace Go.Proofs.Ytmbleldjdhkkeaa.Fn
open Go Go.Abs

theorem RdErr_ok {σ : Store} {k : Nat} {B : List UInt8} {p : Nat} {e : Int} (h : Rd σ k B p e) : callv E (.fn __enc_Reader__Err [] []) [.ptr (k + 1) 1 0] σ = some (aint e, σ) := by
  rw [call_fn (E_X _ (by decide)) (E_fn __enc_Reader__Err_c), __enc_Reader__Err_A]
  have hlt := h.lt
  have hr := h.r
  simp (disch := omega) only [go_sem, Nat.reduceEqDiff, Nat.reduceAdd, Nat.reduceSub, Nat.reduceMul, Nat.reduceLeDiff, Nat.reduceLT, Int.reduceLE, Int.reduceLT, Int.reduceEq, reduceCtorEq, decide_true, decide_false, List.append_assoc, List.length_append, Nat.reduceBEq, ne_eq, Option.some.injEq, not_false_eq_true, not_true_eq_false, Int.reduceToNat, Nat.zero_add, Nat.mul_one, Int.toNat_natCast, true_implies, chk_pos, dec_t, dec_f, hr]
theorem RdAt_ok {σ : Store} {k : Nat} {B : List UInt8} {p : Nat} {e : Int} (h : Rd σ k B p e) : callv E (.fn __enc_Reader__At [] []) [.ptr (k + 1) 1 0] σ = some (aint p, σ) := by
  rw [call_fn (E_X _ (by decide)) (E_fn __enc_Reader__At_c), __enc_Reader__At_A]
  have hlt := h.lt
  have hr := h.r
  simp (disch := omega) only [go_sem, Nat.reduceEqDiff, Nat.reduceAdd, Nat.reduceSub, Nat.reduceMul, Nat.reduceLeDiff, Nat.reduceLT, Int.reduceLE, Int.reduceLT, Int.reduceEq, reduceCtorEq, decide_true, decide_false, List.append_assoc, List.length_append, Nat.reduceBEq, ne_eq, Option.some.injEq, not_false_eq_true, not_true_eq_false, Int.reduceToNat, Nat.zero_add, Nat.mul_one, Int.toNat_natCast, true_implies, chk_pos, dec_t, dec_f, hr]
/-- The error at the end. -/
def endE (B : List UInt8) (p : Nat) (e : Int) : Int := if e = 0 then (if p < B.length then 3 else 0) else e
theorem RdEnd_ok {σ : Store} {k : Nat} {B : List UInt8} {p : Nat} {e : Int} (h : Rd σ k B p e) : callv E (.fn __enc_Reader__End [] []) [.ptr (k + 1) 1 0] σ = some (aint (endE B p e), σ) := by
  rw [call_fn (E_X _ (by decide)) (E_fn __enc_Reader__End_c), __enc_Reader__End_A]
  have hlt := h.lt
  have hr := h.r
  have hE : ∀ l : Store, callv E (.fn __enc_Reader__Err [] []) [.ptr (k + 1) 1 0] (σ ++ l) = some (aint e, σ ++ l) := fun l => RdErr_ok (h.app l)
  unfold endE
  by_cases he : e = 0
  · rw [if_pos he]
    by_cases hp : p < B.length
    · rw [if_pos hp]
      simp (disch := omega) only [go_sem, Nat.reduceEqDiff, Nat.reduceAdd, Nat.reduceSub, Nat.reduceMul, Nat.reduceLeDiff, Nat.reduceLT, Int.reduceLE, Int.reduceLT, Int.reduceEq, reduceCtorEq, decide_true, decide_false, List.append_assoc, List.length_append, Nat.reduceBEq, ne_eq, Option.some.injEq, not_false_eq_true, not_true_eq_false, Int.reduceToNat, Nat.zero_add, Nat.mul_one, Int.toNat_natCast, true_implies, chk_pos, dec_t, dec_f, hr, hE, E_raw, raws, List.getElem?_append_left, List.set_append_left, List.length_set, get_outS, get_setS, get_outL, set_outL, List.set_set, bnei_f, List.length_map]
    · rw [if_neg hp]
      simp (disch := omega) only [go_sem, Nat.reduceEqDiff, Nat.reduceAdd, Nat.reduceSub, Nat.reduceMul, Nat.reduceLeDiff, Nat.reduceLT, Int.reduceLE, Int.reduceLT, Int.reduceEq, reduceCtorEq, decide_true, decide_false, List.append_assoc, List.length_append, Nat.reduceBEq, ne_eq, Option.some.injEq, not_false_eq_true, not_true_eq_false, Int.reduceToNat, Nat.zero_add, Nat.mul_one, Int.toNat_natCast, true_implies, chk_pos, dec_t, dec_f, hr, hE, E_raw, raws, List.getElem?_append_left, List.set_append_left, List.length_set, get_outS, get_setS, get_outL, set_outL, List.set_set, bnei_f, List.length_map]
  · rw [if_neg he]
    simp (disch := omega) only [go_sem, Nat.reduceEqDiff, Nat.reduceAdd, Nat.reduceSub, Nat.reduceMul, Nat.reduceLeDiff, Nat.reduceLT, Int.reduceLE, Int.reduceLT, Int.reduceEq, reduceCtorEq, decide_true, decide_false, List.append_assoc, List.length_append, Nat.reduceBEq, ne_eq, Option.some.injEq, not_false_eq_true, not_true_eq_false, Int.reduceToNat, Nat.zero_add, Nat.mul_one, Int.toNat_natCast, true_implies, chk_pos, dec_t, dec_f, hr, hE, E_raw, raws, List.getElem?_append_left, List.set_append_left, List.length_set, get_outS, get_setS, get_outL, set_outL, List.set_set, bnei_t]

/-! The document's -/
abbrev rrBox (B : List UInt8) (p : Nat) (e : Int) : Box := .var 1 [bsl B, aint p, aint e]
theorem rr_ok {σ : Store} {k : Nat} (B : List UInt8) (p : Nat) (e : Int) (l : Store) : okTake (σ.set k (rrBox B p e) ++ l) σ = True := eq_true (okTake_set (by simp [wfL, wfV]))
theorem rr_ok0 {σ : Store} {k : Nat} (B : List UInt8) (p : Nat) (e : Int) : okTake (σ.set k (rrBox B p e)) σ = True := eq_true (okTake_set0 (by simp [wfL, wfV]))
theorem lt_of {σ : Store} {k : Nat} {B : Box} (h : σ[k]? = some B) : k < σ.length := (List.getElem?_eq_some_iff.1 h).1

theorem RNew_ok (B : List UInt8) (σ : Store) : callv E (.fn godwitref01_New [] []) [bsl B] σ = some (.ptr σ.length 1 0, σ ++ [rrBox B 0 0]) := by
  rw [call_fn (E_X _ (by decide)) (E_fn godwitref01_New_c), godwitref01_New_A]
  simp (disch := omega) only [go_sem, Nat.reduceEqDiff, Nat.reduceAdd, Nat.reduceSub, Nat.reduceMul, Nat.reduceLeDiff, Nat.reduceLT, Int.reduceLE, Int.reduceLT, Int.reduceEq, reduceCtorEq, decide_true, decide_false, List.append_assoc, List.length_append, Nat.reduceBEq, ne_eq, Option.some.injEq, not_false_eq_true, not_true_eq_false, Int.reduceToNat, Nat.zero_add, Nat.mul_one, Int.toNat_natCast, true_implies, chk_pos, dec_t, dec_f, rrBox]
  rfl

theorem RFail_ok {σ : Store} {k : Nat} {B : List UInt8} {p : Nat} {e x : Int} (h : σ[k]? = some (rrBox B p e)) : callv E (.fn __godwitref01_Reader__Fail [] []) [.ptr k 1 0, aint x] σ = some (.tup [], σ.set k (rrBox B p (if e = 0 then x else e))) := by
  rw [call_fn (E_X _ (by decide)) (E_fn __godwitref01_Reader__Fail_c), __godwitref01_Reader__Fail_A]
  have hlt := lt_of h
  by_cases he : e = 0
  · subst he
    simp (disch := omega) only [go_sem, Nat.reduceEqDiff, Nat.reduceAdd, Nat.reduceSub, Nat.reduceMul, Nat.reduceLeDiff, Nat.reduceLT, Int.reduceLE, Int.reduceLT, Int.reduceEq, reduceCtorEq, decide_true, decide_false, List.append_assoc, List.length_append, Nat.reduceBEq, ne_eq, Option.some.injEq, not_false_eq_true, not_true_eq_false, Int.reduceToNat, Nat.zero_add, Nat.mul_one, Int.toNat_natCast, true_implies, chk_pos, dec_t, dec_f, h, beq_self_eq_true, rr_ok0]
  · simp (disch := omega) only [go_sem, Nat.reduceEqDiff, Nat.reduceAdd, Nat.reduceSub, Nat.reduceMul, Nat.reduceLeDiff, Nat.reduceLT, Int.reduceLE, Int.reduceLT, Int.reduceEq, reduceCtorEq, decide_true, decide_false, List.append_assoc, List.length_append, Nat.reduceBEq, ne_eq, Option.some.injEq, not_false_eq_true, not_true_eq_false, Int.reduceToNat, Nat.zero_add, Nat.mul_one, Int.toNat_natCast, true_implies, chk_pos, dec_t, dec_f, h, beqi_f, he]
    rw [set_same h]

theorem RTake_ok {σ : Store} {k : Nat} {B : List UInt8} {p : Nat} {e : Int} (h : σ[k]? = some (rrBox B p e)) (hp : p ≤ B.length) (hB : B.length ≤ 1000000000) (n : Nat) (hn : n ≤ 1000000) :
    callv E (.fn __godwitref01_Reader__take [] []) [.ptr k 1 0, aint n] σ = some (bsl (nxD B p e n), σ.set k (rrBox B (nxP B p e n) (nxE B p e n))) := by
  rw [call_fn (E_X _ (by decide)) (E_fn __godwitref01_Reader__take_c), __godwitref01_Reader__take_A]
  have hlt := lt_of h
  by_cases h1 : n > B.length - p
  · have h1' : (n : Int) > (B.length : Int) - p := by omega
    have he : ¬ (if e = 0 then (2 : Int) else e) = 0 := by split <;> omega
    have e1 : nxE B p e n = if e = 0 then 2 else e := by simp only [nxE]; rw [if_pos h1]
    have e2 : nxD B p e n = [] := by simp only [nxD]; rw [e1, if_neg he]
    have e3 : nxP B p e n = p := by simp only [nxP]; rw [e1, if_neg he]
    rw [e1, e2, e3]
    by_cases h0 : e = 0
    · subst h0
      rw [if_pos rfl]
      simp (disch := omega) only [go_sem, Nat.reduceEqDiff, Nat.reduceAdd, Nat.reduceSub, Nat.reduceMul, Nat.reduceLeDiff, Nat.reduceLT, Int.reduceLE, Int.reduceLT, Int.reduceEq, reduceCtorEq, decide_true, decide_false, List.append_assoc, List.length_append, Nat.reduceBEq, ne_eq, Option.some.injEq, not_false_eq_true, not_true_eq_false, Int.reduceToNat, Nat.zero_add, Nat.mul_one, Int.toNat_natCast, true_implies, chk_pos, dec_t, dec_f, h, List.getElem?_append_left, List.set_append_left, List.length_set, get_outS, get_setS, get_outL, set_outL, List.set_set, rrBox, wrap_i64, h1', List.length_map, beqi_t, bnei_t, scV_true, rr_ok]
      rfl
    · rw [if_neg h0, set_same h]
      simp (disch := omega) only [go_sem, Nat.reduceEqDiff, Nat.reduceAdd, Nat.reduceSub, Nat.reduceMul, Nat.reduceLeDiff, Nat.reduceLT, Int.reduceLE, Int.reduceLT, Int.reduceEq, reduceCtorEq, decide_true, decide_false, List.append_assoc, List.length_append, Nat.reduceBEq, ne_eq, Option.some.injEq, not_false_eq_true, not_true_eq_false, Int.reduceToNat, Nat.zero_add, Nat.mul_one, Int.toNat_natCast, true_implies, chk_pos, dec_t, dec_f, h, List.getElem?_append_left, List.set_append_left, List.length_set, get_outS, get_setS, get_outL, set_outL, List.set_set, rrBox, wrap_i64, h1', List.length_map, beqi_f, bnei_t, scV_true, rr_ok]
      rfl
  · have h1' : ¬ (n : Int) > (B.length : Int) - p := by omega
    have e1 : nxE B p e n = e := by simp only [nxE]; rw [if_neg h1]
    by_cases he : e = 0
    · subst he
      have e2 : nxD B p 0 n = (B.drop p).take n := by simp only [nxD]; rw [e1, if_pos rfl]
      have e3 : nxP B p 0 n = p + n := by simp only [nxP]; rw [e1, if_pos rfl]
      rw [e1, e2, e3]
      have t1 : ((p : Int) + n - n).toNat = p := by omega
      have t2 : ((p : Int) + n).toNat - p = n := by omega
      have t3 : (p : Int) + n = ((p + n : Nat) : Int) := by omega
      have hDl : (List.take n (List.drop p (B.map abyte))).length = n := by simp; omega
      have ht : List.take n (List.take n (List.drop p (B.map abyte))) = List.take n (List.drop p (B.map abyte)) := by rw [List.take_take, Nat.min_self]
      have hu : unif 1 (List.take n (List.drop p (B.map abyte))) = true := by rw [← List.map_drop, ← List.map_take]; exact unif_bytes _
      have hpu : pureL (List.take n (List.drop p (B.map abyte))) = true := by rw [← List.map_drop, ← List.map_take]; exact pureL_bytes _
      simp (disch := omega) only [go_sem, Nat.reduceEqDiff, Nat.reduceAdd, Nat.reduceSub, Nat.reduceMul, Nat.reduceLeDiff, Nat.reduceLT, Int.reduceLE, Int.reduceLT, Int.reduceEq, reduceCtorEq, decide_true, decide_false, List.append_assoc, List.length_append, Nat.reduceBEq, ne_eq, Option.some.injEq, not_false_eq_true, not_true_eq_false, Int.reduceToNat, Nat.zero_add, Nat.mul_one, Int.toNat_natCast, true_implies, chk_pos, dec_t, dec_f, h, List.getElem?_append_left, List.set_append_left, List.length_set, get_outS, get_setS, get_outL, set_outL, List.set_set, rrBox, wrap_i64, h1', List.length_map, beqi_t, bnei_f, scV_true, t1, t2, hDl, hu, hpu, ht, Nat.zero_add, Nat.mul_one]
      rw [t3]
      simp (disch := omega) only [go_sem, Nat.reduceEqDiff, Nat.reduceAdd, Nat.reduceSub, Nat.reduceMul, Nat.reduceLeDiff, Nat.reduceLT, Int.reduceLE, Int.reduceLT, Int.reduceEq, reduceCtorEq, decide_true, decide_false, List.append_assoc, List.length_append, Nat.reduceBEq, ne_eq, Option.some.injEq, not_false_eq_true, not_true_eq_false, Int.reduceToNat, Nat.zero_add, Nat.mul_one, Int.toNat_natCast, true_implies, chk_pos, dec_t, dec_f, rr_ok]
      simp only [bsl, List.map_take, List.map_drop]
    · have e2 : nxD B p e n = [] := by simp only [nxD]; rw [e1, if_neg he]
      have e3 : nxP B p e n = p := by simp only [nxP]; rw [e1, if_neg he]
      rw [e1, e2, e3, set_same h]
      simp (disch := omega) only [go_sem, Nat.reduceEqDiff, Nat.reduceAdd, Nat.reduceSub, Nat.reduceMul, Nat.reduceLeDiff, Nat.reduceLT, Int.reduceLE, Int.reduceLT, Int.reduceEq, reduceCtorEq, decide_true, decide_false, List.append_assoc, List.length_append, Nat.reduceBEq, ne_eq, Option.some.injEq, not_false_eq_true, not_true_eq_false, Int.reduceToNat, Nat.zero_add, Nat.mul_one, Int.toNat_natCast, true_implies, chk_pos, dec_t, dec_f, h, List.getElem?_append_left, List.set_append_left, List.length_set, get_outS, get_setS, get_outL, set_outL, List.set_set, rrBox, wrap_i64, h1', List.length_map, beqi_f, bnei_t, scV_true]
      rfl

theorem RRU_ok {σ : Store} {k : Nat} {B : List UInt8} {p : Nat} {e : Int} (h : σ[k]? = some (rrBox B p e)) (hp : p ≤ B.length) (hB : B.length ≤ 1000000000) (n : Int) :
    callv E (.fn __godwitref01_Reader__U [] []) [.ptr k 1 0, aint n] σ = some (.atom (.int .u64 (uD B p e n)), σ.set k (rrBox B (uP B p e n) (uE B p e n))) := by
  rw [call_fn (E_X _ (by decide)) (E_fn __godwitref01_Reader__U_c), __godwitref01_Reader__U_A]
  have hlt := lt_of h
  by_cases hn : n < 1 ∨ n > 8
  · have e1 : uE B p e n = if e = 0 then 1 else e := by simp only [uE]; rw [if_pos hn]
    have e2 : uD B p e n = 0 := by simp only [uD]; rw [if_pos hn]
    have e3 : uP B p e n = p := by simp only [uP]; rw [if_pos hn]
    have hF : ∀ l : Store, callv E (.fn __godwitref01_Reader__Fail [] []) [.ptr k 1 0, aint 1] (σ ++ l) = some (.tup [], σ.set k (rrBox B p (if e = 0 then 1 else e)) ++ l) := fun l => by
      rw [RFail_ok (get_out _ l _ _ h), List.set_append_left _ _ (by omega)]
    rw [e1, e2, e3]
    by_cases h1 : n < 1
    · simp (disch := omega) only [go_sem, Nat.reduceEqDiff, Nat.reduceAdd, Nat.reduceSub, Nat.reduceMul, Nat.reduceLeDiff, Nat.reduceLT, Int.reduceLE, Int.reduceLT, Int.reduceEq, reduceCtorEq, decide_true, decide_false, List.append_assoc, List.length_append, Nat.reduceBEq, ne_eq, Option.some.injEq, not_false_eq_true, not_true_eq_false, Int.reduceToNat, Nat.zero_add, Nat.mul_one, Int.toNat_natCast, true_implies, chk_pos, dec_t, dec_f, hF, List.getElem?_append_left, List.set_append_left, List.length_set, get_outS, get_setS, get_outL, set_outL, List.set_set, E_raw, raws, scV_false, rr_ok]
      rfl
    · have h2 : n > 8 := by omega
      simp (disch := omega) only [go_sem, Nat.reduceEqDiff, Nat.reduceAdd, Nat.reduceSub, Nat.reduceMul, Nat.reduceLeDiff, Nat.reduceLT, Int.reduceLE, Int.reduceLT, Int.reduceEq, reduceCtorEq, decide_true, decide_false, List.append_assoc, List.length_append, Nat.reduceBEq, ne_eq, Option.some.injEq, not_false_eq_true, not_true_eq_false, Int.reduceToNat, Nat.zero_add, Nat.mul_one, Int.toNat_natCast, true_implies, chk_pos, dec_t, dec_f, hF, List.getElem?_append_left, List.set_append_left, List.length_set, get_outS, get_setS, get_outL, set_outL, List.set_set, E_raw, raws, scV_false, rr_ok]
      rfl
  · have h1 : ¬ n < 1 := by omega
    have h2 : ¬ n > 8 := by omega
    obtain ⟨m, rfl⟩ := Int.eq_ofNat_of_zero_le (show 0 ≤ n by omega)
    have e1 : uE B p e m = nxE B p e m := by simp only [uE]; rw [if_neg hn]; rfl
    have e2 : uD B p e m = num (nxD B p e m) := by simp only [uD]; rw [if_neg hn]; rfl
    have e3 : uP B p e m = nxP B p e m := by simp only [uP]; rw [if_neg hn]; rfl
    have hN : ∀ l : Store, callv E (.fn __godwitref01_Reader__take [] []) [.ptr k 1 0, aint m] (σ ++ l) = some (bsl (nxD B p e m), σ.set k (rrBox B (nxP B p e m) (nxE B p e m)) ++ l) := fun l => by
      rw [RTake_ok (get_out _ l _ _ h) hp hB m (by omega), List.set_append_left _ _ (by omega)]
    have hDl := nxD_length (B := B) (p := p) (n := m) (e := e)
    rw [e1, e2, e3]
    generalize nxP B p e m = p' at hN ⊢
    generalize nxE B p e m = e' at hN ⊢
    generalize nxD B p e m = D at hN hDl ⊢
    simp (disch := omega) only [go_sem, Nat.reduceEqDiff, Nat.reduceAdd, Nat.reduceSub, Nat.reduceMul, Nat.reduceLeDiff, Nat.reduceLT, Int.reduceLE, Int.reduceLT, Int.reduceEq, reduceCtorEq, decide_true, decide_false, List.append_assoc, List.length_append, Nat.reduceBEq, ne_eq, Option.some.injEq, not_false_eq_true, not_true_eq_false, Int.reduceToNat, Nat.zero_add, Nat.mul_one, Int.toNat_natCast, true_implies, chk_pos, dec_t, dec_f, hN, List.getElem?_append_left, List.set_append_left, List.length_set, get_outS, get_setS, get_outL, set_outL, List.set_set, E_raw, raws, scV_false, List.length_map, wrap_i64]
    generalize hL : exec E (.loop __godwitref01_Reader__U_L0) _ = res
    obtain ⟨x, s', rfl, rfl, hb', hσ, h5⟩ := loop_inv hL
      (fun i s => s.base = σ.length ∧ s.σ = σ.set k (rrBox B p' e') ++ [.dead 0, .dead 0] ∧ s.tm 5 = .atom (.int .u64 (num (D.drop (D.length - i)))) ∧ s.tm 6 = bsl D ∧ s.tm 7 = aint ((D.length : Int) - 1 - i))
      (fun x s => x = .exit 0 ∧ s.base = σ.length ∧ s.σ = σ.set k (rrBox B p' e') ++ [.dead 0, .dead 0] ∧ s.tm 5 = .atom (.int .u64 (num D)))
      D.length ⟨rfl, rfl, by simp [upd, num], rfl, by simp [upd]⟩ (by
        rintro i ⟨tm, σ', bs⟩ hi ⟨h0, hσ, h5, h6, h7⟩
        dsimp only at h0 hσ h5 h6 h7
        subst h0; subst hσ
        generalize hr : exec E __godwitref01_Reader__U_L0 _ = r
        rw [__godwitref01_Reader__U_L0] at hr
        by_cases hlt : i < D.length
        · have hj : D.length - (i + 1) < D.length := by omega
          have hd : D.drop (D.length - (i + 1)) = D[D.length - (i + 1)] :: D.drop (D.length - i) := by
            rw [List.drop_eq_getElem_cons hj]; congr 2; omega
          have hn1 := num_lt8 (D.drop (D.length - (i + 1))) (by simp; omega)
          have hn2 : num (D.drop (D.length - (i + 1))) = (D[D.length - (i + 1)]).toNat + 256 * num (D.drop (D.length - i)) := by rw [hd]; rfl
          have hbl := (D[D.length - (i + 1)]).toNat_lt
          have hidx : ((D.length : Int) - 1 - i).toNat = D.length - (i + 1) := by omega
          have hge : (D.length : Int) - 1 - i ≥ 0 := by omega
          simp (disch := omega) only [go_sem, Nat.reduceEqDiff, Nat.reduceAdd, Nat.reduceSub, Nat.reduceMul, Nat.reduceLeDiff, Nat.reduceLT, Int.reduceLE, Int.reduceLT, Int.reduceEq, reduceCtorEq, decide_true, decide_false, List.append_assoc, List.length_append, Nat.reduceBEq, ne_eq, Option.some.injEq, not_false_eq_true, not_true_eq_false, Int.reduceToNat, Nat.zero_add, Nat.mul_one, Int.toNat_natCast, true_implies, chk_pos, dec_t, dec_f, h5, h6, h7, wrap_i64, List.length_map, List.getElem?_map, hidx, List.getElem?_eq_getElem, wrap_u64] at hr
          subst hr
          exact ⟨_, _, rfl, .inl ⟨rfl, hlt, rfl, rfl, by simp [upd]; omega, by simp [upd, h6], by simp [upd]; omega⟩⟩
        · have hge : ¬ (D.length : Int) - 1 - i ≥ 0 := by omega
          simp (disch := omega) only [go_sem, Nat.reduceEqDiff, Nat.reduceAdd, Nat.reduceSub, Nat.reduceMul, Nat.reduceLeDiff, Nat.reduceLT, Int.reduceLE, Int.reduceLT, Int.reduceEq, reduceCtorEq, decide_true, decide_false, List.append_assoc, List.length_append, Nat.reduceBEq, ne_eq, Option.some.injEq, not_false_eq_true, not_true_eq_false, Int.reduceToNat, Nat.zero_add, Nat.mul_one, Int.toNat_natCast, true_implies, chk_pos, dec_t, dec_f, h5, h6, h7] at hr
          subst hr
          have : i = D.length := by omega
          subst this
          exact ⟨_, _, rfl, .inr ⟨by simp, rfl, rfl, rfl, by simpa [upd] using h5⟩⟩)
    obtain ⟨tm', σ', b'⟩ := s'
    dsimp only at hb' hσ h5
    subst hb'; subst hσ
    clear hL
    simp (disch := omega) only [go_sem, Nat.reduceEqDiff, Nat.reduceAdd, Nat.reduceSub, Nat.reduceMul, Nat.reduceLeDiff, Nat.reduceLT, Int.reduceLE, Int.reduceLT, Int.reduceEq, reduceCtorEq, decide_true, decide_false, List.append_assoc, List.length_append, Nat.reduceBEq, ne_eq, Option.some.injEq, not_false_eq_true, not_true_eq_false, Int.reduceToNat, Nat.zero_add, Nat.mul_one, Int.toNat_natCast, true_implies, chk_pos, dec_t, dec_f, h5, rr_ok]

theorem RRList_ok {σ : Store} {k : Nat} {B : List UInt8} {p : Nat} {e : Int} (h : σ[k]? = some (rrBox B p e)) (hp : p ≤ B.length) (hB : B.length ≤ 1000000000) (most : Int) :
    callv E (.fn __godwitref01_Reader__List [] []) [.ptr k 1 0, aint most] σ =
      some (bsl (nxD B (uP B p e 2) (liE B p e most) (uD B p e 2)), σ.set k (rrBox B (nxP B (uP B p e 2) (liE B p e most) (uD B p e 2)) (nxE B (uP B p e 2) (liE B p e most) (uD B p e 2)))) := by
  rw [call_fn (E_X _ (by decide)) (E_fn __godwitref01_Reader__List_c), __godwitref01_Reader__List_A]
  have hlt := lt_of h
  have hp' : uP B p e 2 ≤ B.length := uP_le hp
  have hd : uD B p e 2 < 65536 := by
    unfold uD
    rw [if_neg (by omega)]
    have h1 := num_lt (nxD B p e (Int.toNat 2))
    have h2 := nxD_length (B := B) (p := p) (n := Int.toNat 2) (e := e)
    have h3 : 256 ^ (nxD B p e (Int.toNat 2)).length ≤ 256 ^ 2 := Nat.pow_le_pow_right (by omega) (by simpa using h2)
    omega
  have hU : ∀ l : Store, callv E (.fn __godwitref01_Reader__U [] []) [.ptr k 1 0, aint 2] (σ ++ l) = some (.atom (.int .u64 (uD B p e 2)), σ.set k (rrBox B (uP B p e 2) (uE B p e 2)) ++ l) := fun l => by
    rw [RRU_ok (get_out _ l _ _ h) hp hB, List.set_append_left _ _ (by omega)]
  have hs : ∀ (X : Box) (l : Store), (σ.set k X ++ l)[k]? = some X := fun X l => by rw [get_outL _ _ _ _ _ hlt, get_setS _ _ _ hlt]
  have hF : ∀ (l : Store) (x : Int), callv E (.fn __godwitref01_Reader__Fail [] []) [.ptr k 1 0, aint x] (σ.set k (rrBox B (uP B p e 2) (uE B p e 2)) ++ l) = some (.tup [], σ.set k (rrBox B (uP B p e 2) (if uE B p e 2 = 0 then x else uE B p e 2)) ++ l) := fun l x => by
    rw [RFail_ok (hs _ l), set_outL _ _ _ _ _ _ (by omega), List.set_set]
  have hN : ∀ (l : Store) (e' : Int), callv E (.fn __godwitref01_Reader__take [] []) [.ptr k 1 0, aint (uD B p e 2)] (σ.set k (rrBox B (uP B p e 2) e') ++ l) = some (bsl (nxD B (uP B p e 2) e' (uD B p e 2)), σ.set k (rrBox B (nxP B (uP B p e 2) e' (uD B p e 2)) (nxE B (uP B p e 2) e' (uD B p e 2))) ++ l) := fun l e' => by
    rw [RTake_ok (hs _ l) hp' hB _ (by omega), set_outL _ _ _ _ _ _ (by omega), List.set_set]
  unfold liE
  by_cases h1 : (uD B p e 2 : Int) > most
  · rw [if_pos h1]
    simp (disch := omega) only [go_sem, Nat.reduceEqDiff, Nat.reduceAdd, Nat.reduceSub, Nat.reduceMul, Nat.reduceLeDiff, Nat.reduceLT, Int.reduceLE, Int.reduceLT, Int.reduceEq, reduceCtorEq, decide_true, decide_false, List.append_assoc, List.length_append, Nat.reduceBEq, ne_eq, Option.some.injEq, not_false_eq_true, not_true_eq_false, Int.reduceToNat, Nat.zero_add, Nat.mul_one, Int.toNat_natCast, true_implies, chk_pos, dec_t, dec_f, hU, hF, hN, E_raw, raws, wrap_i64, rr_ok]
  · rw [if_neg h1]
    simp (disch := omega) only [go_sem, Nat.reduceEqDiff, Nat.reduceAdd, Nat.reduceSub, Nat.reduceMul, Nat.reduceLeDiff, Nat.reduceLT, Int.reduceLE, Int.reduceLT, Int.reduceEq, reduceCtorEq, decide_true, decide_false, List.append_assoc, List.length_append, Nat.reduceBEq, ne_eq, Option.some.injEq, not_false_eq_true, not_true_eq_false, Int.reduceToNat, Nat.zero_add, Nat.mul_one, Int.toNat_natCast, true_implies, chk_pos, dec_t, dec_f, hU, hF, hN, E_raw, raws, wrap_i64, rr_ok]

theorem uE_one {B : List UInt8} {p : Nat} {e : Int} (h : uD B p e 1 = 1) : uE B p e 1 = 0 := by
  unfold uD at h
  unfold uE
  rw [if_neg (by omega)] at h ⊢
  unfold nxD at h
  split at h
  · assumption
  · simp [num] at h

theorem RRFlag_ok {σ : Store} {k : Nat} {B : List UInt8} {p : Nat} {e : Int} (h : σ[k]? = some (rrBox B p e)) (hp : p ≤ B.length) (hB : B.length ≤ 1000000000) :
    callv E (.fn __godwitref01_Reader__Flag [] []) [.ptr k 1 0] σ = some (abool (decide (uD B p e 1 = 1)), σ.set k (rrBox B (uP B p e 1) (flE B p e))) := by
  rw [call_fn (E_X _ (by decide)) (E_fn __godwitref01_Reader__Flag_c), __godwitref01_Reader__Flag_A]
  have hlt := lt_of h
  have hU : ∀ l : Store, callv E (.fn __godwitref01_Reader__U [] []) [.ptr k 1 0, aint 1] (σ ++ l) = some (.atom (.int .u64 (uD B p e 1)), σ.set k (rrBox B (uP B p e 1) (uE B p e 1)) ++ l) := fun l => by
    rw [RRU_ok (get_out _ l _ _ h) hp hB, List.set_append_left _ _ (by omega)]
  have hs : ∀ (X : Box) (l : Store), (σ.set k X ++ l)[k]? = some X := fun X l => by rw [get_outL _ _ _ _ _ hlt, get_setS _ _ _ hlt]
  have hF : ∀ (l : Store) (x : Int), callv E (.fn __godwitref01_Reader__Fail [] []) [.ptr k 1 0, aint x] (σ.set k (rrBox B (uP B p e 1) (uE B p e 1)) ++ l) = some (.tup [], σ.set k (rrBox B (uP B p e 1) (if uE B p e 1 = 0 then x else uE B p e 1)) ++ l) := fun l x => by
    rw [RFail_ok (hs _ l), set_outL _ _ _ _ _ _ (by omega), List.set_set]
  unfold flE
  by_cases h1 : uD B p e 1 > 1
  · have h1' : (uD B p e 1 : Int) > 1 := by omega
    rw [if_pos h1]
    have hb : ((uD B p e 1 : Int) == 1) = false := beqi_f (by omega)
    have hb2 : decide (uD B p e 1 = 1) = false := dec_f (by omega)
    simp (disch := omega) only [go_sem, Nat.reduceEqDiff, Nat.reduceAdd, Nat.reduceSub, Nat.reduceMul, Nat.reduceLeDiff, Nat.reduceLT, Int.reduceLE, Int.reduceLT, Int.reduceEq, reduceCtorEq, decide_true, decide_false, List.append_assoc, List.length_append, Nat.reduceBEq, ne_eq, Option.some.injEq, not_false_eq_true, not_true_eq_false, Int.reduceToNat, Nat.zero_add, Nat.mul_one, Int.toNat_natCast, true_implies, chk_pos, dec_t, dec_f, hU, hF, E_raw, raws, hb, hb2, scV_true, rr_ok]
  · rw [if_neg h1]
    have h1' : ¬ (uD B p e 1 : Int) > 1 := by omega
    by_cases h2 : uD B p e 1 = 1
    · have h3 := uE_one h2
      rw [h3] at hU
      rw [h3]
      rw [h2] at hU ⊢
      simp (disch := omega) only [go_sem, Nat.reduceEqDiff, Nat.reduceAdd, Nat.reduceSub, Nat.reduceMul, Nat.reduceLeDiff, Nat.reduceLT, Int.reduceLE, Int.reduceLT, Int.reduceEq, reduceCtorEq, decide_true, decide_false, List.append_assoc, List.length_append, Nat.reduceBEq, ne_eq, Option.some.injEq, not_false_eq_true, not_true_eq_false, Int.reduceToNat, Nat.zero_add, Nat.mul_one, Int.toNat_natCast, true_implies, chk_pos, dec_t, dec_f, hU, hF, hs, E_raw, raws, scV_true, rr_ok, beqi_t, rrBox, List.getElem?_append_left, List.set_append_left, List.length_set, get_outS, get_setS, get_outL, set_outL, List.set_set]
    · have hb : ((uD B p e 1 : Int) == 1) = false := beqi_f (by omega)
      have hb2 : decide (uD B p e 1 = 1) = false := dec_f (by omega)
      simp (disch := omega) only [go_sem, Nat.reduceEqDiff, Nat.reduceAdd, Nat.reduceSub, Nat.reduceMul, Nat.reduceLeDiff, Nat.reduceLT, Int.reduceLE, Int.reduceLT, Int.reduceEq, reduceCtorEq, decide_true, decide_false, List.append_assoc, List.length_append, Nat.reduceBEq, ne_eq, Option.some.injEq, not_false_eq_true, not_true_eq_false, Int.reduceToNat, Nat.zero_add, Nat.mul_one, Int.toNat_natCast, true_implies, chk_pos, dec_t, dec_f, hU, hF, E_raw, raws, hb, hb2, scV_true, rr_ok]

theorem RREnd_ok {σ : Store} {k : Nat} {B : List UInt8} {p : Nat} {e : Int} (h : σ[k]? = some (rrBox B p e)) : callv E (.fn __godwitref01_Reader__End [] []) [.ptr k 1 0] σ = some (aint (endE B p e), σ) := by
  rw [call_fn (E_X _ (by decide)) (E_fn __godwitref01_Reader__End_c), __godwitref01_Reader__End_A]
  have hlt := lt_of h
  unfold endE
  by_cases he : e = 0
  · subst he
    rw [if_pos rfl]
    by_cases hp : p < B.length
    · rw [if_pos hp]
      simp (disch := omega) only [go_sem, Nat.reduceEqDiff, Nat.reduceAdd, Nat.reduceSub, Nat.reduceMul, Nat.reduceLeDiff, Nat.reduceLT, Int.reduceLE, Int.reduceLT, Int.reduceEq, reduceCtorEq, decide_true, decide_false, List.append_assoc, List.length_append, Nat.reduceBEq, ne_eq, Option.some.injEq, not_false_eq_true, not_true_eq_false, Int.reduceToNat, Nat.zero_add, Nat.mul_one, Int.toNat_natCast, true_implies, chk_pos, dec_t, dec_f, h, List.getElem?_append_left, List.set_append_left, List.length_set, get_outS, get_setS, get_outL, set_outL, List.set_set, scV_true, beqi_t, List.length_map]
    · rw [if_neg hp]
      simp (disch := omega) only [go_sem, Nat.reduceEqDiff, Nat.reduceAdd, Nat.reduceSub, Nat.reduceMul, Nat.reduceLeDiff, Nat.reduceLT, Int.reduceLE, Int.reduceLT, Int.reduceEq, reduceCtorEq, decide_true, decide_false, List.append_assoc, List.length_append, Nat.reduceBEq, ne_eq, Option.some.injEq, not_false_eq_true, not_true_eq_false, Int.reduceToNat, Nat.zero_add, Nat.mul_one, Int.toNat_natCast, true_implies, chk_pos, dec_t, dec_f, h, List.getElem?_append_left, List.set_append_left, List.length_set, get_outS, get_setS, get_outL, set_outL, List.set_set, scV_true, beqi_t, List.length_map]
  · rw [if_neg he]
    simp (disch := omega) only [go_sem, Nat.reduceEqDiff, Nat.reduceAdd, Nat.reduceSub, Nat.reduceMul, Nat.reduceLeDiff, Nat.reduceLT, Int.reduceLE, Int.reduceLT, Int.reduceEq, reduceCtorEq, decide_true, decide_false, List.append_assoc, List.length_append, Nat.reduceBEq, ne_eq, Option.some.injEq, not_false_eq_true, not_true_eq_false, Int.reduceToNat, Nat.zero_add, Nat.mul_one, Int.toNat_natCast, true_implies, chk_pos, dec_t, dec_f, h, List.getElem?_append_left, List.set_append_left, List.length_set, get_outS, get_setS, get_outL, set_outL, List.set_set, scV_true, beqi_f]
end Go.Proofs.Ytmbleldjdhkkeaa.Fn
