/- The laws of the first chapter: EncStays. -/
import Derived.Test.YtmbleldjdhkkeaaLawsC
set_option linter.unusedSimpArgs false
set_option linter.unusedVariables false
namespace Go.Proofs.Ytmbleldjdhkkeaa.Fn
open Go Go.Abs

/-! What is not there -/
abbrev nil0 : AVal := .atom (.pointer none)
theorem UN_ok (n : Int) (σ : Store) : callv E (.fn __enc_Reader__U [] []) [nil0, aint n] σ = some (.atom (.int .u64 0), σ) := by
  rw [call_fn (E_X _ (by decide)) (E_fn __enc_Reader__U_c), __enc_Reader__U_A]
  simp (disch := omega) only [go_sem, Nat.reduceEqDiff, Nat.reduceAdd, Nat.reduceSub, Nat.reduceMul, Nat.reduceLeDiff, Nat.reduceLT, Int.reduceLE, Int.reduceLT, Int.reduceEq, reduceCtorEq, decide_true, decide_false, List.append_assoc, List.length_append, Nat.reduceBEq, ne_eq, Option.some.injEq, not_false_eq_true, not_true_eq_false, Int.reduceToNat, Nat.zero_add, Nat.mul_one, Int.toNat_natCast, true_implies, chk_pos, dec_t, dec_f, E_raw, raws, scV_true, scV_false]
theorem ListN_ok (σ : Store) : callv E (.fn __enc_Reader__List [] []) [nil0, aint 5] σ = some (.sl [], σ) := by
  rw [call_fn (E_X _ (by decide)) (E_fn __enc_Reader__List_c), __enc_Reader__List_A]
  simp (disch := omega) only [go_sem, Nat.reduceEqDiff, Nat.reduceAdd, Nat.reduceSub, Nat.reduceMul, Nat.reduceLeDiff, Nat.reduceLT, Int.reduceLE, Int.reduceLT, Int.reduceEq, reduceCtorEq, decide_true, decide_false, List.append_assoc, List.length_append, Nat.reduceBEq, ne_eq, Option.some.injEq, not_false_eq_true, not_true_eq_false, Int.reduceToNat, Nat.zero_add, Nat.mul_one, Int.toNat_natCast, true_implies, chk_pos, dec_t, dec_f, E_raw, raws, scV_true, scV_false, UN_ok, wrap_i64]
theorem FlagN_ok (σ : Store) : callv E (.fn __enc_Reader__Flag [] []) [nil0] σ = some (abool false, σ) := by
  rw [call_fn (E_X _ (by decide)) (E_fn __enc_Reader__Flag_c), __enc_Reader__Flag_A]
  simp (disch := omega) only [go_sem, Nat.reduceEqDiff, Nat.reduceAdd, Nat.reduceSub, Nat.reduceMul, Nat.reduceLeDiff, Nat.reduceLT, Int.reduceLE, Int.reduceLT, Int.reduceEq, reduceCtorEq, decide_true, decide_false, List.append_assoc, List.length_append, Nat.reduceBEq, ne_eq, Option.some.injEq, not_false_eq_true, not_true_eq_false, Int.reduceToNat, Nat.zero_add, Nat.mul_one, Int.toNat_natCast, true_implies, chk_pos, dec_t, dec_f, E_raw, raws, scV_true, scV_false, UN_ok]
  rfl
theorem FailN_ok (n : Int) (σ : Store) : callv E (.fn __enc_Reader__Fail [] []) [nil0, aint n] σ = some (.tup [], σ) := by
  rw [call_fn (E_X _ (by decide)) (E_fn __enc_Reader__Fail_c), __enc_Reader__Fail_A]
  simp (disch := omega) only [go_sem, Nat.reduceEqDiff, Nat.reduceAdd, Nat.reduceSub, Nat.reduceMul, Nat.reduceLeDiff, Nat.reduceLT, Int.reduceLE, Int.reduceLT, Int.reduceEq, reduceCtorEq, decide_true, decide_false, List.append_assoc, List.length_append, Nat.reduceBEq, ne_eq, Option.some.injEq, not_false_eq_true, not_true_eq_false, Int.reduceToNat, Nat.zero_add, Nat.mul_one, Int.toNat_natCast, true_implies, chk_pos, dec_t, dec_f, E_raw, raws, scV_true, scV_false, UN_ok]
theorem ErrN_ok (σ : Store) : callv E (.fn __enc_Reader__Err [] []) [nil0] σ = some (aint 1, σ) := by
  rw [call_fn (E_X _ (by decide)) (E_fn __enc_Reader__Err_c), __enc_Reader__Err_A]
  simp (disch := omega) only [go_sem, Nat.reduceEqDiff, Nat.reduceAdd, Nat.reduceSub, Nat.reduceMul, Nat.reduceLeDiff, Nat.reduceLT, Int.reduceLE, Int.reduceLT, Int.reduceEq, reduceCtorEq, decide_true, decide_false, List.append_assoc, List.length_append, Nat.reduceBEq, ne_eq, Option.some.injEq, not_false_eq_true, not_true_eq_false, Int.reduceToNat, Nat.zero_add, Nat.mul_one, Int.toNat_natCast, true_implies, chk_pos, dec_t, dec_f, E_raw, raws, scV_true, scV_false, UN_ok]
theorem AtN_ok (σ : Store) : callv E (.fn __enc_Reader__At [] []) [nil0] σ = some (aint 0, σ) := by
  rw [call_fn (E_X _ (by decide)) (E_fn __enc_Reader__At_c), __enc_Reader__At_A]
  simp (disch := omega) only [go_sem, Nat.reduceEqDiff, Nat.reduceAdd, Nat.reduceSub, Nat.reduceMul, Nat.reduceLeDiff, Nat.reduceLT, Int.reduceLE, Int.reduceLT, Int.reduceEq, reduceCtorEq, decide_true, decide_false, List.append_assoc, List.length_append, Nat.reduceBEq, ne_eq, Option.some.injEq, not_false_eq_true, not_true_eq_false, Int.reduceToNat, Nat.zero_add, Nat.mul_one, Int.toNat_natCast, true_implies, chk_pos, dec_t, dec_f, E_raw, raws, scV_true, scV_false, UN_ok]
theorem EndN_ok (σ : Store) : callv E (.fn __enc_Reader__End [] []) [nil0] σ = some (aint 1, σ) := by
  rw [call_fn (E_X _ (by decide)) (E_fn __enc_Reader__End_c), __enc_Reader__End_A]
  simp (disch := omega) only [go_sem, Nat.reduceEqDiff, Nat.reduceAdd, Nat.reduceSub, Nat.reduceMul, Nat.reduceLeDiff, Nat.reduceLT, Int.reduceLE, Int.reduceLT, Int.reduceEq, reduceCtorEq, decide_true, decide_false, List.append_assoc, List.length_append, Nat.reduceBEq, ne_eq, Option.some.injEq, not_false_eq_true, not_true_eq_false, Int.reduceToNat, Nat.zero_add, Nat.mul_one, Int.toNat_natCast, true_implies, chk_pos, dec_t, dec_f, E_raw, raws, scV_true, scV_false, UN_ok, ErrN_ok, bnei_t]

/-! One thing that is read -/
def stB (B : List UInt8) (p : Nat) (e w n : Int) : Bool :=
  if w = 0 ∨ w = 1 then decide (uD B p e n ≠ 0) else if w = 2 then decide ((nxD B (uP B p e 2) (liE B p e n) (uD B p e 2)).length ≠ 0) else if w = 3 then decide (uD B p e 1 = 1) else false
def stP (B : List UInt8) (p : Nat) (e w n : Int) : Nat :=
  if w = 0 ∨ w = 1 then uP B p e n else if w = 2 then nxP B (uP B p e 2) (liE B p e n) (uD B p e 2) else if w = 3 then uP B p e 1 else p
def stE (B : List UInt8) (p : Nat) (e w n : Int) : Int :=
  if w = 0 ∨ w = 1 then uE B p e n else if w = 2 then nxE B (uP B p e 2) (liE B p e n) (uD B p e 2) else if w = 3 then flE B p e else if w = 4 then (if e = 0 then n else e) else e
theorem stP_le {B : List UInt8} {p : Nat} {e w n : Int} (hp : p ≤ B.length) : stP B p e w n ≤ B.length := by
  unfold stP
  split
  · exact uP_le hp
  · split
    · exact nxP_le (uP_le hp)
    · split
      · exact uP_le hp
      · exact hp

theorem step_ok {σ : Store} {k : Nat} {B : List UInt8} {p : Nat} {e : Int} (h : Rd σ k B p e) (hp : p ≤ B.length) (hB : B.length ≤ 1000000000) (w n : Int) :
    callv E (.fn godwitlaw01_step [] []) [.ptr (k + 1) 1 0, .agg [aint w, aint n]] σ = some (abool (stB B p e w n), σ.set (k + 1) (rdBox k B (stP B p e w n) (stE B p e w n))) := by
  rw [call_fn (E_X _ (by decide)) (E_fn godwitlaw01_step_c), godwitlaw01_step_A]
  have hlt := h.lt
  have hc1 : (((uD B p e n : Nat) : Int) != 0) = decide (uD B p e n ≠ 0) := by
    by_cases h1 : uD B p e n = 0
    · rw [h1]; rfl
    · rw [bnei_t (by omega), dec_t h1]
  have hc2 : ∀ L : List UInt8, (((L.length : Nat) : Int) != 0) = decide (L.length ≠ 0) := fun L => by
    by_cases h1 : L.length = 0
    · rw [h1]; rfl
    · rw [bnei_t (by omega), dec_t h1]
  have hU := fun l : Store => RdU_ok (h.app l) hp hB n
  have hLi := fun l : Store => RdList_ok (h.app l) hp hB n
  have hFl := fun l : Store => RdFlag_ok (h.app l) hp hB
  have hFa := fun l : Store => Fail_ok (x := n) (h.app l)
  unfold stB stP stE
  by_cases w0 : w = 0
  · rw [if_pos (.inl w0), if_pos (.inl w0), if_pos (.inl w0)]
    simp (disch := omega) only [go_sem, Nat.reduceEqDiff, Nat.reduceAdd, Nat.reduceSub, Nat.reduceMul, Nat.reduceLeDiff, Nat.reduceLT, Int.reduceLE, Int.reduceLT, Int.reduceEq, reduceCtorEq, decide_true, decide_false, List.append_assoc, List.length_append, Nat.reduceBEq, ne_eq, Option.some.injEq, not_false_eq_true, not_true_eq_false, Int.reduceToNat, Nat.zero_add, Nat.mul_one, Int.toNat_natCast, true_implies, chk_pos, dec_t, dec_f, E_raw, raws, hU, List.getElem?_append_left, List.set_append_left, List.length_set, get_outS, get_setS, get_outL, set_outL, List.set_set, beqi_t, hc1, h.ok]
  by_cases w1 : w = 1
  · rw [if_pos (.inr w1), if_pos (.inr w1), if_pos (.inr w1)]
    simp (disch := omega) only [go_sem, Nat.reduceEqDiff, Nat.reduceAdd, Nat.reduceSub, Nat.reduceMul, Nat.reduceLeDiff, Nat.reduceLT, Int.reduceLE, Int.reduceLT, Int.reduceEq, reduceCtorEq, decide_true, decide_false, List.append_assoc, List.length_append, Nat.reduceBEq, ne_eq, Option.some.injEq, not_false_eq_true, not_true_eq_false, Int.reduceToNat, Nat.zero_add, Nat.mul_one, Int.toNat_natCast, true_implies, chk_pos, dec_t, dec_f, E_raw, raws, hU, List.getElem?_append_left, List.set_append_left, List.length_set, get_outS, get_setS, get_outL, set_outL, List.set_set, beqi_t, beqi_f, hc1, h.ok]
  have w01 : ¬ (w = 0 ∨ w = 1) := by omega
  rw [if_neg w01, if_neg w01, if_neg w01]
  by_cases w2 : w = 2
  · rw [if_pos w2, if_pos w2, if_pos w2]
    simp (disch := omega) only [go_sem, Nat.reduceEqDiff, Nat.reduceAdd, Nat.reduceSub, Nat.reduceMul, Nat.reduceLeDiff, Nat.reduceLT, Int.reduceLE, Int.reduceLT, Int.reduceEq, reduceCtorEq, decide_true, decide_false, List.append_assoc, List.length_append, Nat.reduceBEq, ne_eq, Option.some.injEq, not_false_eq_true, not_true_eq_false, Int.reduceToNat, Nat.zero_add, Nat.mul_one, Int.toNat_natCast, true_implies, chk_pos, dec_t, dec_f, E_raw, raws, hLi, List.getElem?_append_left, List.set_append_left, List.length_set, get_outS, get_setS, get_outL, set_outL, List.set_set, beqi_t, beqi_f, hc2, h.ok, List.length_map]
  rw [if_neg w2, if_neg w2, if_neg w2]
  by_cases w3 : w = 3
  · rw [if_pos w3, if_pos w3, if_pos w3]
    simp (disch := omega) only [go_sem, Nat.reduceEqDiff, Nat.reduceAdd, Nat.reduceSub, Nat.reduceMul, Nat.reduceLeDiff, Nat.reduceLT, Int.reduceLE, Int.reduceLT, Int.reduceEq, reduceCtorEq, decide_true, decide_false, List.append_assoc, List.length_append, Nat.reduceBEq, ne_eq, Option.some.injEq, not_false_eq_true, not_true_eq_false, Int.reduceToNat, Nat.zero_add, Nat.mul_one, Int.toNat_natCast, true_implies, chk_pos, dec_t, dec_f, E_raw, raws, hFl, List.getElem?_append_left, List.set_append_left, List.length_set, get_outS, get_setS, get_outL, set_outL, List.set_set, beqi_t, beqi_f, h.ok, List.length_map]
  rw [if_neg w3, if_neg w3, if_neg w3]
  by_cases w4 : w = 4
  · rw [if_pos w4]
    simp (disch := omega) only [go_sem, Nat.reduceEqDiff, Nat.reduceAdd, Nat.reduceSub, Nat.reduceMul, Nat.reduceLeDiff, Nat.reduceLT, Int.reduceLE, Int.reduceLT, Int.reduceEq, reduceCtorEq, decide_true, decide_false, List.append_assoc, List.length_append, Nat.reduceBEq, ne_eq, Option.some.injEq, not_false_eq_true, not_true_eq_false, Int.reduceToNat, Nat.zero_add, Nat.mul_one, Int.toNat_natCast, true_implies, chk_pos, dec_t, dec_f, E_raw, raws, hFa, List.getElem?_append_left, List.set_append_left, List.length_set, get_outS, get_setS, get_outL, set_outL, List.set_set, beqi_t, beqi_f, h.ok, List.length_map]
  rw [if_neg w4]
  simp (disch := omega) only [go_sem, Nat.reduceEqDiff, Nat.reduceAdd, Nat.reduceSub, Nat.reduceMul, Nat.reduceLeDiff, Nat.reduceLT, Int.reduceLE, Int.reduceLT, Int.reduceEq, reduceCtorEq, decide_true, decide_false, List.append_assoc, List.length_append, Nat.reduceBEq, ne_eq, Option.some.injEq, not_false_eq_true, not_true_eq_false, Int.reduceToNat, Nat.zero_add, Nat.mul_one, Int.toNat_natCast, true_implies, chk_pos, dec_t, dec_f, E_raw, raws, List.getElem?_append_left, List.set_append_left, List.length_set, get_outS, get_setS, get_outL, set_outL, List.set_set, beqi_t, beqi_f, List.length_map]
  rw [set_same h.r]

theorem u_stays {B : List UInt8} {p : Nat} {e n : Int} (he : e ≠ 0) : uE B p e n = e ∧ uP B p e n = p ∧ uD B p e n = 0 := by
  obtain ⟨h1, h2, h3⟩ := nx_stays (B := B) (p := p) (n := n.toNat) he
  refine ⟨?_, ?_, ?_⟩
  · unfold uE; split
    · simp [he]
    · exact h1
  · unfold uP; split
    · rfl
    · exact h2
  · unfold uD; split
    · rfl
    · rw [h3]; rfl
theorem st_stays {B : List UInt8} {p : Nat} {e w n : Int} (he : e ≠ 0) : stB B p e w n = false ∧ stP B p e w n = p ∧ stE B p e w n = e := by
  have hu := fun n => u_stays (B := B) (p := p) (n := n) he
  have hl : liE B p e n = e := by unfold liE; rw [(hu 2).1, if_neg he]; split <;> rfl
  have hf : flE B p e = e := by unfold flE; rw [(hu 1).2.2, (hu 1).1]; rfl
  have hx := nx_stays (B := B) (p := p) (n := 0) he
  unfold stB stP stE
  rw [hl, hf, (hu n).1, (hu n).2.1, (hu n).2.2, (hu 2).2.1, (hu 2).2.2, (hu 1).2.1, (hu 1).2.2, hx.1, hx.2.1, hx.2.2, if_neg he]
  simp

def stys (k : Nat) (B : List UInt8) (p : Nat) (e : Int) : Store :=
  [.dead 0, .dead 0, .dead 0, .dead 0, .dead 0, .dead 0, .dead 0, .dead 0, .dead 0, .dead 0, .dead 0, .dead 0, .dead 0, .dead 0, .dead 0, .dead 0, .var 1 [bsl B], rdBox (k + 16) B p e, .var 1 [.ptr (k + 17) 1 0]]
theorem step_lay {σ l : Store} {B : List UInt8} {p : Nat} {e : Int} (j q : Nat) (hq : q = j + 1) (h : RdL σ.length l j B p e) (hp : p ≤ B.length) (hB : B.length ≤ 1000000000) (w n : Int) :
    callv E (.fn godwitlaw01_step [] []) [.ptr (σ.length + q) 1 0, .agg [aint w, aint n]] (σ ++ l) = some (abool (stB B p e w n), σ ++ l.set q (rdBox (σ.length + j) B (stP B p e w n) (stE B p e w n))) := by
  subst hq
  have := step_ok h.rd hp hB w n
  rwa [Nat.add_assoc, set_loc] at this

theorem stays_ok (B : List UInt8) (ls ms : List (Int × Int)) (σ : Store) : ∃ σ', callv E (.fn godwitlaw01_EncStays [] []) [bsl B, .sl (ls.map vstep), .sl (ms.map vstep)] σ = some (abool true, σ') := by
  refine ⟨σ, ?_⟩
  rw [call_fn (E_X _ (by decide)) (E_fn godwitlaw01_EncStays_c), godwitlaw01_EncStays_A]
  by_cases h1 : (B.length : Int) > 500
  · simp (disch := omega) only [go_sem, Nat.reduceEqDiff, Nat.reduceAdd, Nat.reduceSub, Nat.reduceMul, Nat.reduceLeDiff, Nat.reduceLT, Int.reduceLE, Int.reduceLT, Int.reduceEq, reduceCtorEq, decide_true, decide_false, List.append_assoc, List.length_append, Nat.reduceBEq, ne_eq, Option.some.injEq, not_false_eq_true, not_true_eq_false, Int.reduceToNat, Nat.zero_add, Nat.mul_one, Int.toNat_natCast, true_implies, chk_pos, dec_t, dec_f, E_raw, raws, awake_ok, List.length_map, scV_false]
  by_cases h2 : (ls.length : Int) > 50
  · simp (disch := omega) only [go_sem, Nat.reduceEqDiff, Nat.reduceAdd, Nat.reduceSub, Nat.reduceMul, Nat.reduceLeDiff, Nat.reduceLT, Int.reduceLE, Int.reduceLT, Int.reduceEq, reduceCtorEq, decide_true, decide_false, List.append_assoc, List.length_append, Nat.reduceBEq, ne_eq, Option.some.injEq, not_false_eq_true, not_true_eq_false, Int.reduceToNat, Nat.zero_add, Nat.mul_one, Int.toNat_natCast, true_implies, chk_pos, dec_t, dec_f, E_raw, raws, awake_ok, List.length_map, scV_false]
  by_cases h3 : (ms.length : Int) > 50
  · simp (disch := omega) only [go_sem, Nat.reduceEqDiff, Nat.reduceAdd, Nat.reduceSub, Nat.reduceMul, Nat.reduceLeDiff, Nat.reduceLT, Int.reduceLE, Int.reduceLT, Int.reduceEq, reduceCtorEq, decide_true, decide_false, List.append_assoc, List.length_append, Nat.reduceBEq, ne_eq, Option.some.injEq, not_false_eq_true, not_true_eq_false, Int.reduceToNat, Nat.zero_add, Nat.mul_one, Int.toNat_natCast, true_implies, chk_pos, dec_t, dec_f, E_raw, raws, awake_ok, List.length_map, scV_false]
  have hB : B.length ≤ 1000000000 := by omega
  simp (disch := omega) only [go_sem, Nat.reduceEqDiff, Nat.reduceAdd, Nat.reduceSub, Nat.reduceMul, Nat.reduceLeDiff, Nat.reduceLT, Int.reduceLE, Int.reduceLT, Int.reduceEq, reduceCtorEq, decide_true, decide_false, List.append_assoc, List.length_append, Nat.reduceBEq, ne_eq, Option.some.injEq, not_false_eq_true, not_true_eq_false, Int.reduceToNat, Nat.zero_add, Nat.mul_one, Int.toNat_natCast, true_implies, chk_pos, dec_t, dec_f, E_raw, raws, awake_ok, List.length_map, scV_false, New_ok, Nat.add_assoc]
  generalize hL : exec E (.loop godwitlaw01_EncStays_L0) _ = res
  obtain ⟨x, s', rfl, rfl, hb', ht2, ht7, ht8, p, e, hp, hσ⟩ := loop_inv hL
    (fun i s => s.base = σ.length ∧ s.tm 1 = .sl (ls.map vstep) ∧ s.tm 2 = .sl (ms.map vstep) ∧ s.tm 7 = abool true ∧ s.tm 8 = .ptr (σ.length + 17) 1 0 ∧ s.tm 9 = aint i ∧
      ∃ p e, p ≤ B.length ∧ s.σ = σ ++ stys σ.length B p e)
    (fun x s => x = .exit 0 ∧ s.base = σ.length ∧ s.tm 2 = .sl (ms.map vstep) ∧ s.tm 7 = abool true ∧ s.tm 8 = .ptr (σ.length + 17) 1 0 ∧ ∃ p e, p ≤ B.length ∧ s.σ = σ ++ stys σ.length B p e)
    ls.length ⟨rfl, rfl, rfl, rfl, rfl, rfl, 0, 0, by omega, rfl⟩ (by
      rintro i ⟨tm, σ', bs⟩ hi ⟨h0, h1, h2, h7, h8, h9, p, e, hp, hσ⟩
      dsimp only at h0 h1 h2 h7 h8 h9 hσ
      subst h0; subst hσ
      generalize hr : exec E godwitlaw01_EncStays_L0 _ = r
      rw [godwitlaw01_EncStays_L0] at hr
      by_cases hlt : i < ls.length
      · obtain ⟨w, n, hget⟩ : ∃ w n, (ls.map vstep)[i]? = some (.agg [aint w, aint n]) := ⟨ls[i].1, ls[i].2, by rw [List.getElem?_map, List.getElem?_eq_getElem hlt]; rfl⟩
        simp (disch := omega) only [go_sem, Nat.reduceEqDiff, Nat.reduceAdd, Nat.reduceSub, Nat.reduceMul, Nat.reduceLeDiff, Nat.reduceLT, Int.reduceLE, Int.reduceLT, Int.reduceEq, reduceCtorEq, decide_true, decide_false, List.append_assoc, List.length_append, Nat.reduceBEq, ne_eq, Option.some.injEq, not_false_eq_true, not_true_eq_false, Int.reduceToNat, Nat.zero_add, Nat.mul_one, Int.toNat_natCast, true_implies, chk_pos, dec_t, dec_f, E_raw, raws, h1, h2, h7, h8, h9, List.length_map, hget, stys, wrap_i64] at hr
        rw [step_lay 16 17 rfl (B := B) (p := p) (e := e) ⟨rfl, rfl, rfl⟩ hp hB] at hr
        simp (disch := omega) only [go_sem, Nat.reduceEqDiff, Nat.reduceAdd, Nat.reduceSub, Nat.reduceMul, Nat.reduceLeDiff, Nat.reduceLT, Int.reduceLE, Int.reduceLT, Int.reduceEq, reduceCtorEq, decide_true, decide_false, List.append_assoc, List.length_append, Nat.reduceBEq, ne_eq, Option.some.injEq, not_false_eq_true, not_true_eq_false, Int.reduceToNat, Nat.zero_add, Nat.mul_one, Int.toNat_natCast, true_implies, chk_pos, dec_t, dec_f, E_raw, raws, h1, h2, h7, h8, h9, List.length_map, hget, stys, wrap_i64] at hr
        subst hr
        exact ⟨_, _, rfl, .inl ⟨rfl, hlt, rfl, by simp [upd, clr, h1], by simp [upd, clr, h2], by simp [upd, clr, h7], by simp [upd, clr, h8], by simp [upd, clr], _, _, stP_le hp, rfl⟩⟩
      · simp (disch := omega) only [go_sem, Nat.reduceEqDiff, Nat.reduceAdd, Nat.reduceSub, Nat.reduceMul, Nat.reduceLeDiff, Nat.reduceLT, Int.reduceLE, Int.reduceLT, Int.reduceEq, reduceCtorEq, decide_true, decide_false, List.append_assoc, List.length_append, Nat.reduceBEq, ne_eq, Option.some.injEq, not_false_eq_true, not_true_eq_false, Int.reduceToNat, Nat.zero_add, Nat.mul_one, Int.toNat_natCast, true_implies, chk_pos, dec_t, dec_f, E_raw, raws, h1, h2, h7, h8, h9, List.length_map] at hr
        subst hr
        exact ⟨_, _, rfl, .inr ⟨by simp, rfl, rfl, by simp [upd, clr, h2], by simp [upd, clr, h7], by simp [upd, clr, h8], p, e, hp, rfl⟩⟩)
  obtain ⟨tm', σ', b'⟩ := s'
  dsimp only at hb' ht2 ht7 ht8 hσ
  subst hb'; subst hσ
  clear hL
  simp (disch := omega) only [go_sem, Nat.reduceEqDiff, Nat.reduceAdd, Nat.reduceSub, Nat.reduceMul, Nat.reduceLeDiff, Nat.reduceLT, Int.reduceLE, Int.reduceLT, Int.reduceEq, reduceCtorEq, decide_true, decide_false, List.append_assoc, List.length_append, Nat.reduceBEq, ne_eq, Option.some.injEq, not_false_eq_true, not_true_eq_false, Int.reduceToNat, Nat.zero_add, Nat.mul_one, Int.toNat_natCast, true_implies, chk_pos, dec_t, dec_f, E_raw, raws, stys, ht2, ht7, ht8]
  rw [Err_lay 16 17 rfl (B := B) (p := p) (e := e) ⟨rfl, rfl, rfl⟩]
  simp (disch := omega) only [go_sem, Nat.reduceEqDiff, Nat.reduceAdd, Nat.reduceSub, Nat.reduceMul, Nat.reduceLeDiff, Nat.reduceLT, Int.reduceLE, Int.reduceLT, Int.reduceEq, reduceCtorEq, decide_true, decide_false, List.append_assoc, List.length_append, Nat.reduceBEq, ne_eq, Option.some.injEq, not_false_eq_true, not_true_eq_false, Int.reduceToNat, Nat.zero_add, Nat.mul_one, Int.toNat_natCast, true_implies, chk_pos, dec_t, dec_f, E_raw, raws, stys, ht2, ht7, ht8]
  rw [At_lay 16 17 rfl (B := B) (p := p) (e := e) ⟨rfl, rfl, rfl⟩]
  have b0 : ((0 : Int) != 0) = false := rfl
  have b1 : ((1 : Int) != 1) = false := rfl
  have b2 : (((0 : Nat) : Int) != 0) = false := rfl
  by_cases he : e = 0
  · simp (disch := omega) only [go_sem, Nat.reduceEqDiff, Nat.reduceAdd, Nat.reduceSub, Nat.reduceMul, Nat.reduceLeDiff, Nat.reduceLT, Int.reduceLE, Int.reduceLT, Int.reduceEq, reduceCtorEq, decide_true, decide_false, List.append_assoc, List.length_append, Nat.reduceBEq, ne_eq, Option.some.injEq, not_false_eq_true, not_true_eq_false, Int.reduceToNat, Nat.zero_add, Nat.mul_one, Int.toNat_natCast, true_implies, chk_pos, dec_t, dec_f, E_raw, raws, stys, ht2, ht7, ht8, UN_ok, ListN_ok, FlagN_ok, FailN_ok, ErrN_ok, AtN_ok, EndN_ok, scV_false, scV_true, b0, b1, b2, List.length_nil, beqi_t]
  · simp (disch := omega) only [go_sem, Nat.reduceEqDiff, Nat.reduceAdd, Nat.reduceSub, Nat.reduceMul, Nat.reduceLeDiff, Nat.reduceLT, Int.reduceLE, Int.reduceLT, Int.reduceEq, reduceCtorEq, decide_true, decide_false, List.append_assoc, List.length_append, Nat.reduceBEq, ne_eq, Option.some.injEq, not_false_eq_true, not_true_eq_false, Int.reduceToNat, Nat.zero_add, Nat.mul_one, Int.toNat_natCast, true_implies, chk_pos, dec_t, dec_f, E_raw, raws, stys, ht2, ht7, ht8, UN_ok, ListN_ok, FlagN_ok, FailN_ok, ErrN_ok, AtN_ok, EndN_ok, scV_false, scV_true, b0, b1, b2, List.length_nil, beqi_f]
    generalize hL : exec E (.loop godwitlaw01_EncStays_L1) _ = res
    obtain ⟨x, s', rfl, rfl, hb', ht7, p', hσ⟩ := loop_inv hL
      (fun i s => s.base = σ.length ∧ s.tm 2 = .sl (ms.map vstep) ∧ s.tm 7 = abool true ∧ s.tm 8 = .ptr (σ.length + 17) 1 0 ∧ s.tm 10 = aint e ∧ s.tm 11 = aint p ∧ s.tm 13 = aint i ∧ s.σ = σ ++ stys σ.length B p e)
      (fun x s => x = .exit 2 ∧ s.base = σ.length ∧ s.tm 7 = abool true ∧ ∃ p : Nat, s.σ = σ ++ stys σ.length B p e)
      ms.length ⟨rfl, by simp [upd, clr, ht2], by simp [upd, clr, ht7], by simp [upd, clr, ht8], rfl, rfl, rfl, rfl⟩ (by
        rintro i ⟨tm, σ', bs⟩ hi ⟨h0, h2, h7, h8, h10, h11, h13, hσ⟩
        dsimp only at h0 h2 h7 h8 h10 h11 h13 hσ
        subst h0; subst hσ
        generalize hr : exec E godwitlaw01_EncStays_L1 _ = r
        rw [godwitlaw01_EncStays_L1] at hr
        by_cases hlt : i < ms.length
        · obtain ⟨w, n, hget⟩ : ∃ w n, (ms.map vstep)[i]? = some (.agg [aint w, aint n]) := ⟨ms[i].1, ms[i].2, by rw [List.getElem?_map, List.getElem?_eq_getElem hlt]; rfl⟩
          obtain ⟨s1, s2, s3⟩ := st_stays (B := B) (p := p) (w := w) (n := n) he
          have hend : endE B p e = e := by unfold endE; rw [if_neg he]
          simp (disch := omega) only [go_sem, Nat.reduceEqDiff, Nat.reduceAdd, Nat.reduceSub, Nat.reduceMul, Nat.reduceLeDiff, Nat.reduceLT, Int.reduceLE, Int.reduceLT, Int.reduceEq, reduceCtorEq, decide_true, decide_false, List.append_assoc, List.length_append, Nat.reduceBEq, ne_eq, Option.some.injEq, not_false_eq_true, not_true_eq_false, Int.reduceToNat, Nat.zero_add, Nat.mul_one, Int.toNat_natCast, true_implies, chk_pos, dec_t, dec_f, E_raw, raws, h2, h7, h8, h10, h11, h13, List.length_map, hget, stys, wrap_i64] at hr
          rw [step_lay 16 17 rfl (B := B) (p := p) (e := e) ⟨rfl, rfl, rfl⟩ hp hB, s1, s2, s3] at hr
          simp (disch := omega) only [go_sem, Nat.reduceEqDiff, Nat.reduceAdd, Nat.reduceSub, Nat.reduceMul, Nat.reduceLeDiff, Nat.reduceLT, Int.reduceLE, Int.reduceLT, Int.reduceEq, reduceCtorEq, decide_true, decide_false, List.append_assoc, List.length_append, Nat.reduceBEq, ne_eq, Option.some.injEq, not_false_eq_true, not_true_eq_false, Int.reduceToNat, Nat.zero_add, Nat.mul_one, Int.toNat_natCast, true_implies, chk_pos, dec_t, dec_f, E_raw, raws, h2, h7, h8, h10, h11, h13, List.length_map, hget, stys, wrap_i64, scV_false] at hr
          rw [Err_lay 16 17 rfl (B := B) (p := p) (e := e) ⟨rfl, rfl, rfl⟩] at hr
          simp (disch := omega) only [go_sem, Nat.reduceEqDiff, Nat.reduceAdd, Nat.reduceSub, Nat.reduceMul, Nat.reduceLeDiff, Nat.reduceLT, Int.reduceLE, Int.reduceLT, Int.reduceEq, reduceCtorEq, decide_true, decide_false, List.append_assoc, List.length_append, Nat.reduceBEq, ne_eq, Option.some.injEq, not_false_eq_true, not_true_eq_false, Int.reduceToNat, Nat.zero_add, Nat.mul_one, Int.toNat_natCast, true_implies, chk_pos, dec_t, dec_f, E_raw, raws, h2, h7, h8, h10, h11, h13, List.length_map, hget, stys, wrap_i64, scV_false, bnei_f] at hr
          rw [At_lay 16 17 rfl (B := B) (p := p) (e := e) ⟨rfl, rfl, rfl⟩] at hr
          simp (disch := omega) only [go_sem, Nat.reduceEqDiff, Nat.reduceAdd, Nat.reduceSub, Nat.reduceMul, Nat.reduceLeDiff, Nat.reduceLT, Int.reduceLE, Int.reduceLT, Int.reduceEq, reduceCtorEq, decide_true, decide_false, List.append_assoc, List.length_append, Nat.reduceBEq, ne_eq, Option.some.injEq, not_false_eq_true, not_true_eq_false, Int.reduceToNat, Nat.zero_add, Nat.mul_one, Int.toNat_natCast, true_implies, chk_pos, dec_t, dec_f, E_raw, raws, h2, h7, h8, h10, h11, h13, List.length_map, hget, stys, wrap_i64, scV_false, bnei_f] at hr
          rw [End_lay 16 17 rfl (B := B) (p := p) (e := e) ⟨rfl, rfl, rfl⟩, hend] at hr
          simp (disch := omega) only [go_sem, Nat.reduceEqDiff, Nat.reduceAdd, Nat.reduceSub, Nat.reduceMul, Nat.reduceLeDiff, Nat.reduceLT, Int.reduceLE, Int.reduceLT, Int.reduceEq, reduceCtorEq, decide_true, decide_false, List.append_assoc, List.length_append, Nat.reduceBEq, ne_eq, Option.some.injEq, not_false_eq_true, not_true_eq_false, Int.reduceToNat, Nat.zero_add, Nat.mul_one, Int.toNat_natCast, true_implies, chk_pos, dec_t, dec_f, E_raw, raws, h2, h7, h8, h10, h11, h13, List.length_map, hget, stys, wrap_i64, scV_false, bnei_f] at hr
          subst hr
          exact ⟨_, _, rfl, .inl ⟨rfl, hlt, rfl, by simp [upd, clr, h2], by simp [upd, clr, h7], by simp [upd, clr, h8], by simp [upd, clr, h10], by simp [upd, clr, h11], by simp [upd, clr], rfl⟩⟩
        · simp (disch := omega) only [go_sem, Nat.reduceEqDiff, Nat.reduceAdd, Nat.reduceSub, Nat.reduceMul, Nat.reduceLeDiff, Nat.reduceLT, Int.reduceLE, Int.reduceLT, Int.reduceEq, reduceCtorEq, decide_true, decide_false, List.append_assoc, List.length_append, Nat.reduceBEq, ne_eq, Option.some.injEq, not_false_eq_true, not_true_eq_false, Int.reduceToNat, Nat.zero_add, Nat.mul_one, Int.toNat_natCast, true_implies, chk_pos, dec_t, dec_f, E_raw, raws, h2, h7, h8, h10, h11, h13, List.length_map] at hr
          subst hr
          exact ⟨_, _, rfl, .inr ⟨by simp, rfl, rfl, by simp [upd, clr, h7], p, rfl⟩⟩)
    obtain ⟨tm', σ', b'⟩ := s'
    dsimp only at hb' ht7 hσ
    subst hb'; subst hσ
    clear hL
    simp (disch := omega) only [go_sem, Nat.reduceEqDiff, Nat.reduceAdd, Nat.reduceSub, Nat.reduceMul, Nat.reduceLeDiff, Nat.reduceLT, Int.reduceLE, Int.reduceLT, Int.reduceEq, reduceCtorEq, decide_true, decide_false, List.append_assoc, List.length_append, Nat.reduceBEq, ne_eq, Option.some.injEq, not_false_eq_true, not_true_eq_false, Int.reduceToNat, Nat.zero_add, Nat.mul_one, Int.toNat_natCast, true_implies, chk_pos, dec_t, dec_f, E_raw, raws, stys, ht7]
end Go.Proofs.Ytmbleldjdhkkeaa.Fn
