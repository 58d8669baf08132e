/- The laws of the first chapter: EncBack. -/
import Derived.Test.YtmbleldjdhkkeaaLawsE
set_option linter.unusedSimpArgs false
set_option linter.unusedVariables false
namespace Go.Proofs.Ytmbleldjdhkkeaa.Fn
open Go Go.Abs

def vnum (v : Nat) : AVal := .atom (.int .u64 v)

/-- The bytes so far, and the two places where they may lie. -/
def Acc1 (k : Nat) (L : List UInt8) (V : AVal) (X1 : Box) : Prop :=
  (L = [] ∧ V = anil ∧ X1 = .dead 0) ∨ (∃ v, V = .own (k + 1) v 1 0 L.length ∧ X1 = .arr v false 1 (L.map abyte))
def Acc2 (k : Nat) (L : List UInt8) (V : AVal) (X1 X2 : Box) : Prop :=
  (L = [] ∧ V = anil ∧ X2 = .dead 0) ∨ (∃ v, V = .own (k + 1) v 1 0 L.length ∧ X1 = .arr v false 1 (L.map abyte) ∧ X2 = .dead 0) ∨ (∃ v, V = .own (k + 2) v 1 0 L.length ∧ X2 = .arr v false 1 (L.map abyte))
def fr12 (X1 X2 : Box) : Store := [.dead 0, X1, X2, .dead 0, .dead 0, .dead 0, .dead 0, .dead 0, .dead 0, .dead 0, .dead 0, .dead 0]

def fr15 (k : Nat) (Y1 Y2 : Box) (B : List UInt8) (p : Nat) : Store := [.dead 0, Y1, Y2, .dead 0, .dead 0, .dead 0, .dead 0, .dead 0, .dead 0, .dead 0, .dead 0, .dead 0, .var 1 [bsl B], rdBox (k + 12) B p 0, .var 1 [.ptr (k + 13) 1 0]]
def fr18 (k : Nat) (Y1 Y2 : Box) (B : List UInt8) (C : List UInt8) (p : Nat) (e : Int) : Store := [.dead 0, Y1, Y2, .dead 0, .dead 0, .dead 0, .dead 0, .dead 0, .dead 0, .dead 0, .dead 0, .dead 0, .var 1 [bsl B], rdBox (k + 12) B B.length 0, .var 1 [.ptr (k + 13) 1 0],
  .var 1 [bsl C], rdBox (k + 15) C p e, .var 1 [.ptr (k + 16) 1 0]]

theorem U_nil (v : Nat) (n : Int) (σ : Store) : callv E (.fn enc_U [] []) [.sl [], .atom (.int .u64 v), aint n] σ =
    some (.own σ.length 0 1 0 (le v (min n 8).toNat).length, σ ++ [.arr 0 false 1 ((le v (min n 8).toNat).map abyte)]) := U_ok [] v n (by simp) σ
theorem List_nil (l : List UInt8) (hl : l.length ≤ 100000) (σ : Store) : callv E (.fn enc_List [] []) [.sl [], bsl l] σ =
    some (.own σ.length 0 1 0 (le (min l.length 65535) 2 ++ l.take 65535).length, σ ++ [.arr 0 false 1 ((le (min l.length 65535) 2 ++ l.take 65535).map abyte)]) := List_ok [] l (by simp) hl σ

/-- What is asked of the bytes: those of them, and those but one. -/
theorem acc_facts {σ : Store} {L : List UInt8} {V : AVal} {X1 X2 : Box} (h : Acc2 σ.length L V X1 X2) (hl : L.length ≤ 100000) : ∃ Y1 Y2 V',
    lenV V = some (aint L.length) ∧ (∀ l, frz (σ ++ .dead 0 :: X1 :: X2 :: l) V = some (bsl L)) ∧ (∀ l, Abs.mark (σ ++ .dead 0 :: X1 :: X2 :: l) V = σ ++ .dead 0 :: Y1 :: Y2 :: l) ∧
    slcV 1 none (some (aint ((L.length - 1 : Nat) : Int))) none V = some V' ∧ (∀ l, frz (σ ++ .dead 0 :: Y1 :: Y2 :: l) V' = some (bsl (L.take (L.length - 1)))) ∧ (∀ l, Abs.mark (σ ++ .dead 0 :: Y1 :: Y2 :: l) V' = σ ++ .dead 0 :: Y1 :: Y2 :: l) := by
  have t8 : ∀ m, (List.map abyte m).take m.length = List.map abyte m := fun m => take_map_len abyte m
  rcases h with ⟨rfl, rfl, rfl⟩ | ⟨v, rfl, rfl, rfl⟩ | ⟨v, rfl, rfl⟩
  · refine ⟨X1, .dead 0, anil, ?_, ?_, ?_, ?_, ?_, ?_⟩ <;> (try intro l) <;> simp (disch := omega) only [go_sem, Nat.reduceEqDiff, Nat.reduceAdd, Nat.reduceSub, Nat.reduceMul, Nat.reduceLeDiff, Nat.reduceLT, Int.reduceLE, Int.reduceLT, Int.reduceEq, reduceCtorEq, decide_true, decide_false, List.append_assoc, List.length_append, Nat.reduceBEq, ne_eq, Option.some.injEq, not_false_eq_true, not_true_eq_false, Int.reduceToNat, Nat.zero_add, Nat.mul_one, Int.toNat_natCast, true_implies, chk_pos, dec_t, dec_f, E_raw, raws, List.length_nil] <;> rfl
  · refine ⟨.arr v true 1 (L.map abyte), .dead 0, .own (σ.length + 1) v 1 0 (L.length - 1), ?_, ?_, ?_, ?_, ?_, ?_⟩ <;> (try intro l) <;> simp (disch := omega) only [go_sem, Nat.reduceEqDiff, Nat.reduceAdd, Nat.reduceSub, Nat.reduceMul, Nat.reduceLeDiff, Nat.reduceLT, Int.reduceLE, Int.reduceLT, Int.reduceEq, reduceCtorEq, decide_true, decide_false, List.append_assoc, List.length_append, Nat.reduceBEq, ne_eq, Option.some.injEq, not_false_eq_true, not_true_eq_false, Int.reduceToNat, Nat.zero_add, Nat.mul_one, Int.toNat_natCast, true_implies, chk_pos, dec_t, dec_f, E_raw, raws, List.length_map, t8, Nat.sub_zero]
    rw [← List.map_take]
  · refine ⟨X1, .arr v true 1 (L.map abyte), .own (σ.length + 2) v 1 0 (L.length - 1), ?_, ?_, ?_, ?_, ?_, ?_⟩ <;> (try intro l) <;> simp (disch := omega) only [go_sem, Nat.reduceEqDiff, Nat.reduceAdd, Nat.reduceSub, Nat.reduceMul, Nat.reduceLeDiff, Nat.reduceLT, Int.reduceLE, Int.reduceLT, Int.reduceEq, reduceCtorEq, decide_true, decide_false, List.append_assoc, List.length_append, Nat.reduceBEq, ne_eq, Option.some.injEq, not_false_eq_true, not_true_eq_false, Int.reduceToNat, Nat.zero_add, Nat.mul_one, Int.toNat_natCast, true_implies, chk_pos, dec_t, dec_f, E_raw, raws, List.length_map, t8, Nat.sub_zero]
    rw [← List.map_take]

theorem back_ok (ls : List Nat) (hls : ∀ v ∈ ls, v < 18446744073709551616) (n : Int) (ms : List (List UInt8)) (σ : Store) : ∃ σ', callv E (.fn godwitlaw01_EncBack [] []) [.sl (ls.map vnum), aint n, .sl (ms.map bsl)] σ = some (abool true, σ') := by
  refine ⟨σ, ?_⟩
  rw [call_fn (E_X _ (by decide)) (E_fn godwitlaw01_EncBack_c), godwitlaw01_EncBack_A]
  by_cases h1 : (ls.length : Int) > 40
  · simp (disch := omega) only [go_sem, Nat.reduceEqDiff, Nat.reduceAdd, Nat.reduceSub, Nat.reduceMul, Nat.reduceLeDiff, Nat.reduceLT, Int.reduceLE, Int.reduceLT, Int.reduceEq, reduceCtorEq, decide_true, decide_false, List.append_assoc, List.length_append, Nat.reduceBEq, ne_eq, Option.some.injEq, not_false_eq_true, not_true_eq_false, Int.reduceToNat, Nat.zero_add, Nat.mul_one, Int.toNat_natCast, true_implies, chk_pos, dec_t, dec_f, E_raw, raws, awake_ok, List.length_map, scV_false]
  by_cases h2 : (ms.length : Int) > 20
  · simp (disch := omega) only [go_sem, Nat.reduceEqDiff, Nat.reduceAdd, Nat.reduceSub, Nat.reduceMul, Nat.reduceLeDiff, Nat.reduceLT, Int.reduceLE, Int.reduceLT, Int.reduceEq, reduceCtorEq, decide_true, decide_false, List.append_assoc, List.length_append, Nat.reduceBEq, ne_eq, Option.some.injEq, not_false_eq_true, not_true_eq_false, Int.reduceToNat, Nat.zero_add, Nat.mul_one, Int.toNat_natCast, true_implies, chk_pos, dec_t, dec_f, E_raw, raws, awake_ok, List.length_map, scV_false]
  obtain ⟨k0, hk0, hkw⟩ := and7 n
  change IntKind.i64.wrap ((andI 64 n 7 : Nat) : Int) = _ at hkw
  have hkw2 : IntKind.i64.wrap (1 + (k0 : Int)) = ((k0 + 1 : Nat) : Int) := by rw [wrap_i64 (by omega)]; omega
  obtain ⟨k, rfl⟩ : ∃ k, k = k0 + 1 := ⟨_, rfl⟩
  simp (disch := omega) only [go_sem, Nat.reduceEqDiff, Nat.reduceAdd, Nat.reduceSub, Nat.reduceMul, Nat.reduceLeDiff, Nat.reduceLT, Int.reduceLE, Int.reduceLT, Int.reduceEq, reduceCtorEq, decide_true, decide_false, List.append_assoc, List.length_append, Nat.reduceBEq, ne_eq, Option.some.injEq, not_false_eq_true, not_true_eq_false, Int.reduceToNat, Nat.zero_add, Nat.mul_one, Int.toNat_natCast, true_implies, chk_pos, dec_t, dec_f, E_raw, raws, awake_ok, List.length_map, scV_false, hkw, hkw2, Nat.add_assoc]
  generalize hL : exec E (.loop godwitlaw01_EncBack_L0) _ = res
  generalize hk : k0 + 1 = k at *
  have hk1 : 1 ≤ k := by omega
  have hk8 : k ≤ 8 := by omega
  have hmin : (min (k : Int) 8).toNat = k := by omega
  have t8 : ∀ m, (List.map abyte m).take m.length = List.map abyte m := fun m => take_map_len abyte m
  obtain ⟨x, s', rfl, rfl, hb', h0, h2', h7, h8, X1, hA, hσ⟩ := loop_inv hL
    (fun i s => s.base = σ.length ∧ s.tm 0 = .sl (ls.map vnum) ∧ s.tm 2 = .sl (ms.map bsl) ∧ s.tm 7 = abool true ∧ s.tm 8 = aint k ∧ s.tm 10 = aint i ∧
      ∃ X1, Acc1 σ.length (layA k (ls.take i)) (s.tm 9) X1 ∧ s.σ = σ ++ fr12 X1 (.dead 0))
    (fun x s => x = .exit 0 ∧ s.base = σ.length ∧ s.tm 0 = .sl (ls.map vnum) ∧ s.tm 2 = .sl (ms.map bsl) ∧ s.tm 7 = abool true ∧ s.tm 8 = aint k ∧
      ∃ X1, Acc1 σ.length (layA k ls) (s.tm 9) X1 ∧ s.σ = σ ++ fr12 X1 (.dead 0))
    ls.length ⟨rfl, rfl, rfl, rfl, rfl, rfl, .dead 0, .inl ⟨rfl, rfl, rfl⟩, rfl⟩ (by
      rintro i ⟨tm, σ', bs⟩ hi ⟨h0, h1, h2, h7, h8, h10, X1, hA, hσ⟩
      dsimp only at h0 h1 h2 h7 h8 h10 hσ hA
      subst h0; subst hσ
      generalize hr : exec E godwitlaw01_EncBack_L0 _ = r
      rw [godwitlaw01_EncBack_L0] at hr
      by_cases hlt : i < ls.length
      · have hget : (ls.map vnum)[i]? = some (.atom (.int .u64 ls[i])) := by rw [List.getElem?_map, List.getElem?_eq_getElem hlt]; rfl
        have hlen : (layA k (ls.take i)).length ≤ 100000 := by
          rw [layA_length, List.length_take, Nat.min_eq_left hi]
          have : i * k ≤ 40 * 8 := Nat.mul_le_mul (by omega) hk8
          omega
        have hsucc := layA_succ (k := k) hlt
        generalize layA k (ls.take i) = A at hA hlen hsucc
        rcases hA with ⟨rfl, h9, rfl⟩ | ⟨v, h9, rfl⟩
        · simp (disch := omega) only [go_sem, Nat.reduceEqDiff, Nat.reduceAdd, Nat.reduceSub, Nat.reduceMul, Nat.reduceLeDiff, Nat.reduceLT, Int.reduceLE, Int.reduceLT, Int.reduceEq, reduceCtorEq, decide_true, decide_false, List.append_assoc, List.length_append, Nat.reduceBEq, ne_eq, Option.some.injEq, not_false_eq_true, not_true_eq_false, Int.reduceToNat, Nat.zero_add, Nat.mul_one, Int.toNat_natCast, true_implies, chk_pos, dec_t, dec_f, E_raw, raws, h1, h2, h7, h8, h9, h10, List.length_map, hget, fr12, wrap_i64] at hr
          rw [U_nil ls[i] k, hmin] at hr
          simp (disch := omega) only [go_sem, Nat.reduceEqDiff, Nat.reduceAdd, Nat.reduceSub, Nat.reduceMul, Nat.reduceLeDiff, Nat.reduceLT, Int.reduceLE, Int.reduceLT, Int.reduceEq, reduceCtorEq, decide_true, decide_false, List.append_assoc, List.length_append, Nat.reduceBEq, ne_eq, Option.some.injEq, not_false_eq_true, not_true_eq_false, Int.reduceToNat, Nat.zero_add, Nat.mul_one, Int.toNat_natCast, true_implies, chk_pos, dec_t, dec_f, E_raw, raws, h1, h2, h7, h8, h9, h10, List.length_map, hget, fr12, wrap_i64, Nat.add_assoc] at hr
          subst hr
          exact ⟨_, _, rfl, .inl ⟨rfl, hlt, rfl, by simp [upd, clr, h1], by simp [upd, clr, h2], by simp [upd, clr, h7], by simp [upd, clr, h8], by simp [upd, clr], _, .inr ⟨1, by simp [upd, clr, hsucc], by rw [hsucc]; rfl⟩, rfl⟩⟩
        · simp (disch := omega) only [go_sem, Nat.reduceEqDiff, Nat.reduceAdd, Nat.reduceSub, Nat.reduceMul, Nat.reduceLeDiff, Nat.reduceLT, Int.reduceLE, Int.reduceLT, Int.reduceEq, reduceCtorEq, decide_true, decide_false, List.append_assoc, List.length_append, Nat.reduceBEq, ne_eq, Option.some.injEq, not_false_eq_true, not_true_eq_false, Int.reduceToNat, Nat.zero_add, Nat.mul_one, Int.toNat_natCast, true_implies, chk_pos, dec_t, dec_f, E_raw, raws, h1, h2, h7, h8, h9, h10, List.length_map, hget, fr12, wrap_i64, t8] at hr
          rw [U_ok A ls[i] k hlen, hmin] at hr
          simp (disch := omega) only [go_sem, Nat.reduceEqDiff, Nat.reduceAdd, Nat.reduceSub, Nat.reduceMul, Nat.reduceLeDiff, Nat.reduceLT, Int.reduceLE, Int.reduceLT, Int.reduceEq, reduceCtorEq, decide_true, decide_false, List.append_assoc, List.length_append, Nat.reduceBEq, ne_eq, Option.some.injEq, not_false_eq_true, not_true_eq_false, Int.reduceToNat, Nat.zero_add, Nat.mul_one, Int.toNat_natCast, true_implies, chk_pos, dec_t, dec_f, E_raw, raws, h1, h2, h7, h8, h9, h10, List.length_map, hget, fr12, wrap_i64, Nat.add_assoc] at hr
          subst hr
          exact ⟨_, _, rfl, .inl ⟨rfl, hlt, rfl, by simp [upd, clr, h1], by simp [upd, clr, h2], by simp [upd, clr, h7], by simp [upd, clr, h8], by simp [upd, clr], _, .inr ⟨v + 1, by simp [upd, clr, hsucc], by rw [hsucc]⟩, rfl⟩⟩
      · simp (disch := omega) only [go_sem, Nat.reduceEqDiff, Nat.reduceAdd, Nat.reduceSub, Nat.reduceMul, Nat.reduceLeDiff, Nat.reduceLT, Int.reduceLE, Int.reduceLT, Int.reduceEq, reduceCtorEq, decide_true, decide_false, List.append_assoc, List.length_append, Nat.reduceBEq, ne_eq, Option.some.injEq, not_false_eq_true, not_true_eq_false, Int.reduceToNat, Nat.zero_add, Nat.mul_one, Int.toNat_natCast, true_implies, chk_pos, dec_t, dec_f, E_raw, raws, h1, h2, h7, h8, h10, List.length_map] at hr
        subst hr
        have : i = ls.length := by omega
        subst this
        rw [List.take_length] at hA
        exact ⟨_, _, rfl, .inr ⟨by simp, rfl, rfl, by simp [upd, clr, h1], by simp [upd, clr, h2], by simp [upd, clr, h7], by simp [upd, clr, h8], X1, hA, rfl⟩⟩)
  obtain ⟨tm', σ', b'⟩ := s'
  dsimp only at hb' h0 h2' h7 h8 hA hσ
  subst hb'; subst hσ
  clear hL
  simp (disch := omega) only [go_sem, Nat.reduceEqDiff, Nat.reduceAdd, Nat.reduceSub, Nat.reduceMul, Nat.reduceLeDiff, Nat.reduceLT, Int.reduceLE, Int.reduceLT, Int.reduceEq, reduceCtorEq, decide_true, decide_false, List.append_assoc, List.length_append, Nat.reduceBEq, ne_eq, Option.some.injEq, not_false_eq_true, not_true_eq_false, Int.reduceToNat, Nat.zero_add, Nat.mul_one, Int.toNat_natCast, true_implies, chk_pos, dec_t, dec_f, E_raw, raws, fr12, h0, h2', h7, h8]
  generalize hL : exec E (.loop godwitlaw01_EncBack_L1) _ = res
  have hAl : (layA k ls).length ≤ 320 := by
    rw [layA_length]
    exact Nat.le_trans (Nat.mul_le_mul (show ls.length ≤ 40 by omega) hk8) (by omega)
  obtain ⟨x, s', rfl, hf⟩ := loop_inv hL
    (fun i s => s.base = σ.length ∧ s.tm 0 = .sl (ls.map vnum) ∧ s.tm 2 = .sl (ms.map bsl) ∧ s.tm 7 = abool true ∧ s.tm 8 = aint k ∧ s.tm 11 = aint i ∧
      (∀ x ∈ ms.take i, x.length ≤ 300) ∧ ∃ X1 X2, Acc2 σ.length (layA k ls ++ layM (ms.take i)) (s.tm 9) X1 X2 ∧ s.σ = σ ++ fr12 X1 X2)
    (fun x s => s.base = σ.length ∧ ((x = .ret ∧ s.tm 6 = abool true ∧ ∃ X1 X2, s.σ = σ ++ fr12 X1 X2) ∨ (x = .exit 2 ∧ s.tm 0 = .sl (ls.map vnum) ∧ s.tm 2 = .sl (ms.map bsl) ∧ s.tm 7 = abool true ∧ s.tm 8 = aint k ∧
      (∀ x ∈ ms, x.length ≤ 300) ∧ ∃ X1 X2, Acc2 σ.length (layA k ls ++ layM ms) (s.tm 9) X1 X2 ∧ s.σ = σ ++ fr12 X1 X2)))
    ms.length ⟨rfl, by simp [upd, clr, h0], by simp [upd, clr, h2'], by simp [upd, clr, h7], by simp [upd, clr, h8], rfl, by simp, X1, .dead 0, by
      show Acc2 σ.length (layA k ls ++ layM (ms.take 0)) (tm' 9) X1 (.dead 0)
      rw [List.take_zero, show layM [] = [] from rfl, List.append_nil]
      rcases hA with ⟨a, b, c⟩ | ⟨v, b, c⟩
      · exact .inl ⟨a, b, rfl⟩
      · exact .inr (.inl ⟨v, b, c, rfl⟩), rfl⟩ (by
      clear hA h0 h2' h7 h8 hL
      rintro i ⟨tm, σ', bs⟩ hi ⟨h0, h1, h2, h7, h8, h11, hall, X1, X2, hA, hσ⟩
      dsimp only at h0 h1 h2 h7 h8 h11 hσ hA
      subst h0; subst hσ
      generalize hr : exec E godwitlaw01_EncBack_L1 _ = r
      rw [godwitlaw01_EncBack_L1] at hr
      by_cases hlt : i < ms.length
      · have hget : (ms.map bsl)[i]? = some (bsl ms[i]) := by rw [List.getElem?_map, List.getElem?_eq_getElem hlt]; rfl
        by_cases hbig : (ms[i].length : Int) > 300
        · simp (disch := omega) only [go_sem, Nat.reduceEqDiff, Nat.reduceAdd, Nat.reduceSub, Nat.reduceMul, Nat.reduceLeDiff, Nat.reduceLT, Int.reduceLE, Int.reduceLT, Int.reduceEq, reduceCtorEq, decide_true, decide_false, List.append_assoc, List.length_append, Nat.reduceBEq, ne_eq, Option.some.injEq, not_false_eq_true, not_true_eq_false, Int.reduceToNat, Nat.zero_add, Nat.mul_one, Int.toNat_natCast, true_implies, chk_pos, dec_t, dec_f, E_raw, raws, h1, h2, h7, h8, h11, List.length_map, hget, fr12, wrap_i64] at hr
          subst hr
          exact ⟨_, _, rfl, .inr ⟨by simp, rfl, .inl ⟨rfl, by simp [upd, clr, h7], X1, X2, rfl⟩⟩⟩
        · have hlen : (layA k ls ++ layM (ms.take i)).length ≤ 100000 := by
            have h3 := layM_length _ hall
            have h4 : (ms.take i).length ≤ 20 := by rw [List.length_take]; omega
            rw [List.length_append]
            omega
          have hsucc : layA k ls ++ layM (ms.take (i + 1)) = (layA k ls ++ layM (ms.take i)) ++ (le ms[i].length 2 ++ ms[i]) := by rw [layM_succ hlt, List.append_assoc]
          have hall' : ∀ x ∈ ms.take (i + 1), x.length ≤ 300 := by
            intro x hx
            rw [← List.take_append_getElem hlt] at hx
            rcases List.mem_append.1 hx with hx | hx
            · exact hall x hx
            · have := List.mem_singleton.1 hx
              subst this; omega
          have hm1 : min ms[i].length 65535 = ms[i].length := Nat.min_eq_left (by omega)
          have hm2 : ms[i].take 65535 = ms[i] := List.take_of_length_le (by omega)
          have hL1 : ∀ τ, callv E (.fn enc_List [] []) [.sl [], bsl ms[i]] τ = some (.own τ.length 0 1 0 (le ms[i].length 2 ++ ms[i]).length, τ ++ [.arr 0 false 1 ((le ms[i].length 2 ++ ms[i]).map abyte)]) := fun τ => by
            rw [List_nil _ (by omega), hm1, hm2]
          have hL2 : ∀ b τ, b.length ≤ 100000 → callv E (.fn enc_List [] []) [bsl b, bsl ms[i]] τ = some (.own τ.length 0 1 0 (b ++ (le ms[i].length 2 ++ ms[i])).length, τ ++ [.arr 0 false 1 ((b ++ (le ms[i].length 2 ++ ms[i])).map abyte)]) := fun b τ hb => by
            rw [List_ok _ _ hb (by omega), hm1, hm2, List.append_assoc]
          generalize layA k ls ++ layM (ms.take i) = A at hA hlen hsucc
          rcases hA with ⟨rfl, h9, rfl⟩ | ⟨v, h9, rfl, rfl⟩ | ⟨v, h9, rfl⟩
          · simp (disch := omega) only [go_sem, Nat.reduceEqDiff, Nat.reduceAdd, Nat.reduceSub, Nat.reduceMul, Nat.reduceLeDiff, Nat.reduceLT, Int.reduceLE, Int.reduceLT, Int.reduceEq, reduceCtorEq, decide_true, decide_false, List.append_assoc, List.length_append, Nat.reduceBEq, ne_eq, Option.some.injEq, not_false_eq_true, not_true_eq_false, Int.reduceToNat, Nat.zero_add, Nat.mul_one, Int.toNat_natCast, true_implies, chk_pos, dec_t, dec_f, E_raw, raws, h1, h2, h7, h8, h9, h11, List.length_map, hget, fr12, wrap_i64] at hr
            rw [hL1] at hr
            simp (disch := omega) only [go_sem, Nat.reduceEqDiff, Nat.reduceAdd, Nat.reduceSub, Nat.reduceMul, Nat.reduceLeDiff, Nat.reduceLT, Int.reduceLE, Int.reduceLT, Int.reduceEq, reduceCtorEq, decide_true, decide_false, List.append_assoc, List.length_append, Nat.reduceBEq, ne_eq, Option.some.injEq, not_false_eq_true, not_true_eq_false, Int.reduceToNat, Nat.zero_add, Nat.mul_one, Int.toNat_natCast, true_implies, chk_pos, dec_t, dec_f, E_raw, raws, h1, h2, h7, h8, h9, h11, List.length_map, hget, fr12, wrap_i64, Nat.add_assoc] at hr
            subst hr
            exact ⟨_, _, rfl, .inl ⟨rfl, hlt, rfl, by simp [upd, clr, h1], by simp [upd, clr, h2], by simp [upd, clr, h7], by simp [upd, clr, h8], by simp [upd, clr], hall', _, _, .inr (.inr ⟨1, by simp [upd, clr, hsucc], by rw [hsucc]; rfl⟩), rfl⟩⟩
          · simp (disch := omega) only [go_sem, Nat.reduceEqDiff, Nat.reduceAdd, Nat.reduceSub, Nat.reduceMul, Nat.reduceLeDiff, Nat.reduceLT, Int.reduceLE, Int.reduceLT, Int.reduceEq, reduceCtorEq, decide_true, decide_false, List.append_assoc, List.length_append, Nat.reduceBEq, ne_eq, Option.some.injEq, not_false_eq_true, not_true_eq_false, Int.reduceToNat, Nat.zero_add, Nat.mul_one, Int.toNat_natCast, true_implies, chk_pos, dec_t, dec_f, E_raw, raws, h1, h2, h7, h8, h9, h11, List.length_map, hget, fr12, wrap_i64, t8] at hr
            rw [hL2 A _ hlen] at hr
            simp (disch := omega) only [go_sem, Nat.reduceEqDiff, Nat.reduceAdd, Nat.reduceSub, Nat.reduceMul, Nat.reduceLeDiff, Nat.reduceLT, Int.reduceLE, Int.reduceLT, Int.reduceEq, reduceCtorEq, decide_true, decide_false, List.append_assoc, List.length_append, Nat.reduceBEq, ne_eq, Option.some.injEq, not_false_eq_true, not_true_eq_false, Int.reduceToNat, Nat.zero_add, Nat.mul_one, Int.toNat_natCast, true_implies, chk_pos, dec_t, dec_f, E_raw, raws, h1, h2, h7, h8, h9, h11, List.length_map, hget, fr12, wrap_i64, Nat.add_assoc] at hr
            subst hr
            exact ⟨_, _, rfl, .inl ⟨rfl, hlt, rfl, by simp [upd, clr, h1], by simp [upd, clr, h2], by simp [upd, clr, h7], by simp [upd, clr, h8], by simp [upd, clr], hall', _, _, .inr (.inr ⟨1, by simp [upd, clr, hsucc], by rw [hsucc]⟩), rfl⟩⟩
          · simp (disch := omega) only [go_sem, Nat.reduceEqDiff, Nat.reduceAdd, Nat.reduceSub, Nat.reduceMul, Nat.reduceLeDiff, Nat.reduceLT, Int.reduceLE, Int.reduceLT, Int.reduceEq, reduceCtorEq, decide_true, decide_false, List.append_assoc, List.length_append, Nat.reduceBEq, ne_eq, Option.some.injEq, not_false_eq_true, not_true_eq_false, Int.reduceToNat, Nat.zero_add, Nat.mul_one, Int.toNat_natCast, true_implies, chk_pos, dec_t, dec_f, E_raw, raws, h1, h2, h7, h8, h9, h11, List.length_map, hget, fr12, wrap_i64, t8] at hr
            rw [hL2 A _ hlen] at hr
            simp (disch := omega) only [go_sem, Nat.reduceEqDiff, Nat.reduceAdd, Nat.reduceSub, Nat.reduceMul, Nat.reduceLeDiff, Nat.reduceLT, Int.reduceLE, Int.reduceLT, Int.reduceEq, reduceCtorEq, decide_true, decide_false, List.append_assoc, List.length_append, Nat.reduceBEq, ne_eq, Option.some.injEq, not_false_eq_true, not_true_eq_false, Int.reduceToNat, Nat.zero_add, Nat.mul_one, Int.toNat_natCast, true_implies, chk_pos, dec_t, dec_f, E_raw, raws, h1, h2, h7, h8, h9, h11, List.length_map, hget, fr12, wrap_i64, Nat.add_assoc] at hr
            subst hr
            exact ⟨_, _, rfl, .inl ⟨rfl, hlt, rfl, by simp [upd, clr, h1], by simp [upd, clr, h2], by simp [upd, clr, h7], by simp [upd, clr, h8], by simp [upd, clr], hall', _, _, .inr (.inr ⟨v + 1, by simp [upd, clr, hsucc], by rw [hsucc]⟩), rfl⟩⟩
      · simp (disch := omega) only [go_sem, Nat.reduceEqDiff, Nat.reduceAdd, Nat.reduceSub, Nat.reduceMul, Nat.reduceLeDiff, Nat.reduceLT, Int.reduceLE, Int.reduceLT, Int.reduceEq, reduceCtorEq, decide_true, decide_false, List.append_assoc, List.length_append, Nat.reduceBEq, ne_eq, Option.some.injEq, not_false_eq_true, not_true_eq_false, Int.reduceToNat, Nat.zero_add, Nat.mul_one, Int.toNat_natCast, true_implies, chk_pos, dec_t, dec_f, E_raw, raws, h1, h2, h7, h8, h11, List.length_map] at hr
        subst hr
        have : i = ms.length := by omega
        subst this
        rw [List.take_length] at hA hall
        exact ⟨_, _, rfl, .inr ⟨by simp, rfl, .inr ⟨rfl, by simp [upd, clr, h1], by simp [upd, clr, h2], by simp [upd, clr, h7], by simp [upd, clr, h8], hall, X1, X2, hA, rfl⟩⟩⟩)
  obtain ⟨tm', σ', b'⟩ := s'
  obtain ⟨hb', hf⟩ := hf
  dsimp only at hb' hf
  subst hb'
  clear hL hA h0 h2' h7 h8
  rcases hf with ⟨rfl, h6, X1, X2, rfl⟩ | ⟨rfl, h0, h2', h7, h8, hall, X1, X2, hA, rfl⟩
  · simp (disch := omega) only [go_sem, Nat.reduceEqDiff, Nat.reduceAdd, Nat.reduceSub, Nat.reduceMul, Nat.reduceLeDiff, Nat.reduceLT, Int.reduceLE, Int.reduceLT, Int.reduceEq, reduceCtorEq, decide_true, decide_false, List.append_assoc, List.length_append, Nat.reduceBEq, ne_eq, Option.some.injEq, not_false_eq_true, not_true_eq_false, Int.reduceToNat, Nat.zero_add, Nat.mul_one, Int.toNat_natCast, true_implies, chk_pos, dec_t, dec_f, E_raw, raws, fr12, h6]
  have hLl : (layA k ls ++ layM ms).length ≤ 100000 := by
    have h3 := layM_length _ hall
    rw [List.length_append]
    omega
  generalize hB : layA k ls ++ layM ms = B at hA hLl
  obtain ⟨Y1, Y2, V', f1, f2, f3, f4, f5, f6⟩ := acc_facts hA hLl
  generalize hV : tm' 9 = V at *
  simp (disch := omega) only [go_sem, Nat.reduceEqDiff, Nat.reduceAdd, Nat.reduceSub, Nat.reduceMul, Nat.reduceLeDiff, Nat.reduceLT, Int.reduceLE, Int.reduceLT, Int.reduceEq, reduceCtorEq, decide_true, decide_false, List.append_assoc, List.length_append, Nat.reduceBEq, ne_eq, Option.some.injEq, not_false_eq_true, not_true_eq_false, Int.reduceToNat, Nat.zero_add, Nat.mul_one, Int.toNat_natCast, true_implies, chk_pos, dec_t, dec_f, E_raw, raws, fr12, h0, h2', h7, h8, hV, f2, f3, New_ok, Nat.add_assoc]
  generalize hL : exec E (.loop godwitlaw01_EncBack_L2) _ = res
  obtain ⟨x, s', rfl, rfl, hb', h0, h2', h7, h8, h9, h12, p, hp, hσ⟩ := loop_inv hL
    (fun i s => s.base = σ.length ∧ s.tm 0 = .sl (ls.map vnum) ∧ s.tm 2 = .sl (ms.map bsl) ∧ s.tm 7 = abool true ∧ s.tm 8 = aint k ∧ s.tm 9 = V ∧ s.tm 12 = .ptr (σ.length + 13) 1 0 ∧ s.tm 13 = aint i ∧
      ∃ p, p = (layA k (ls.take i)).length ∧ s.σ = σ ++ fr15 σ.length Y1 Y2 B p)
    (fun x s => x = .exit 4 ∧ s.base = σ.length ∧ s.tm 0 = .sl (ls.map vnum) ∧ s.tm 2 = .sl (ms.map bsl) ∧ s.tm 7 = abool true ∧ s.tm 8 = aint k ∧ s.tm 9 = V ∧ s.tm 12 = .ptr (σ.length + 13) 1 0 ∧
      ∃ p, p = (layA k ls).length ∧ s.σ = σ ++ fr15 σ.length Y1 Y2 B p)
    ls.length ⟨rfl, by simp [upd, clr, h0], by simp [upd, clr, h2'], by simp [upd, clr, h7], by simp [upd, clr, h8], by simp [upd, clr, hV], by simp [upd, clr], rfl, 0, by simp [layA], by simp [fr15, Nat.add_assoc]⟩ (by
      clear h0 h2' h7 h8 hL hV
      rintro i ⟨tm, σ', bs⟩ hi ⟨h0, h1, h2, h7, h8, h9, h12, h13, p, hp, hσ⟩
      dsimp only at h0 h1 h2 h7 h8 h9 h12 h13 hσ
      subst h0; subst hσ
      generalize hr : exec E godwitlaw01_EncBack_L2 _ = r
      rw [godwitlaw01_EncBack_L2] at hr
      by_cases hlt : i < ls.length
      · have hget : (ls.map vnum)[i]? = some (.atom (.int .u64 ls[i])) := by rw [List.getElem?_map, List.getElem?_eq_getElem hlt]; rfl
        have hv : ls[i] < 18446744073709551616 := hls _ (List.getElem_mem hlt)
        obtain ⟨u1, u2, u3⟩ := u_of (B := B) (v := ls[i]) (post := layA k (ls.drop (i + 1)) ++ layM ms) (by rw [← hB, layA_split hlt]; simp only [List.append_assoc]) hp hk1 hk8
        have hsucc : p + k = (layA k (ls.take (i + 1))).length := by rw [layA_succ hlt, List.length_append, ← hp, le_length]
        have hple : p ≤ B.length := by
          rw [← hB, layA_split hlt, hp]; simp only [List.length_append]; omega
        generalize ls[i] = v at *
        by_cases h88 : k < 8
        · have hpw : 256 ^ k = 2 ^ (8 * k) := by rw [Nat.pow_mul]
          have hlt2 : 2 ^ (8 * k) ≤ 2 ^ 56 := Nat.pow_le_pow_right (by omega) (by omega)
          have hpos : 1 ≤ 2 ^ (8 * k) := Nat.one_le_two_pow
          have w1 : IntKind.u64.wrap (8 * (k : Int)) = ((8 * k : Nat) : Int) := by rw [wrap_u64 (by omega)]; omega
          have w2 : (8 * k).min 64 = 8 * k := Nat.min_eq_left (by omega)
          have w3 : IntKind.u64.wrap (1 * 2 ^ (8 * k)) = ((2 ^ (8 * k) : Nat) : Int) := by
            have : (1 : Int) * 2 ^ (8 * k) = ((2 ^ (8 * k) : Nat) : Int) := by rw [Int.one_mul]; exact (Int.natCast_pow 2 (8 * k)).symm
            rw [this, wrap_u64 (by omega)]
          have w4 : IntKind.u64.wrap (((2 ^ (8 * k) : Nat) : Int) - 1) = ((2 ^ (8 * k) - 1 : Nat) : Int) := by rw [wrap_u64 (by omega)]; omega
          have w5 : IntKind.u64.wrap ((andI 64 (v : Int) ((2 ^ (8 * k) - 1 : Nat) : Int) : Nat) : Int) = ((v % 2 ^ (8 * k) : Nat) : Int) := by
            have := andm (m := 8 * k) hv (by omega)
            change andI 64 _ _ = _ at this
            have h3 := Nat.mod_lt v (show 0 < 2 ^ (8 * k) by omega)
            rw [this, wrap_u64 (by omega)]
          rw [hpw] at u3
          simp (disch := omega) only [go_sem, Nat.reduceEqDiff, Nat.reduceAdd, Nat.reduceSub, Nat.reduceMul, Nat.reduceLeDiff, Nat.reduceLT, Int.reduceLE, Int.reduceLT, Int.reduceEq, reduceCtorEq, decide_true, decide_false, List.append_assoc, List.length_append, Nat.reduceBEq, ne_eq, Option.some.injEq, not_false_eq_true, not_true_eq_false, Int.reduceToNat, Nat.zero_add, Nat.mul_one, Int.toNat_natCast, true_implies, chk_pos, dec_t, dec_f, E_raw, raws, h1, h2, h7, h8, h9, h12, h13, List.length_map, hget, fr15, wrap_i64, w1, w2, w3, w4, w5] at hr
          rw [U_lay 12 13 rfl (B := B) (p := p) (e := 0) ⟨rfl, rfl, rfl⟩ hple (by omega), u1, u2, u3] at hr
          simp (disch := omega) only [go_sem, Nat.reduceEqDiff, Nat.reduceAdd, Nat.reduceSub, Nat.reduceMul, Nat.reduceLeDiff, Nat.reduceLT, Int.reduceLE, Int.reduceLT, Int.reduceEq, reduceCtorEq, decide_true, decide_false, List.append_assoc, List.length_append, Nat.reduceBEq, ne_eq, Option.some.injEq, not_false_eq_true, not_true_eq_false, Int.reduceToNat, Nat.zero_add, Nat.mul_one, Int.toNat_natCast, true_implies, chk_pos, dec_t, dec_f, E_raw, raws, h1, h2, h7, h8, h9, h12, h13, List.length_map, hget, fr15, wrap_i64, bnei_f] at hr
          subst hr
          exact ⟨_, _, rfl, .inl ⟨rfl, hlt, rfl, by simp [upd, clr, h1], by simp [upd, clr, h2], by simp [upd, clr, h7], by simp [upd, clr, h8], by simp [upd, clr, h9], by simp [upd, clr, h12], by simp [upd, clr], p + k, hsucc, rfl⟩⟩
        · have : k = 8 := by omega
          subst this
          have u4 : v % 256 ^ 8 = v := Nat.mod_eq_of_lt (by omega)
          rw [u4] at u3
          simp (disch := omega) only [go_sem, Nat.reduceEqDiff, Nat.reduceAdd, Nat.reduceSub, Nat.reduceMul, Nat.reduceLeDiff, Nat.reduceLT, Int.reduceLE, Int.reduceLT, Int.reduceEq, reduceCtorEq, decide_true, decide_false, List.append_assoc, List.length_append, Nat.reduceBEq, ne_eq, Option.some.injEq, not_false_eq_true, not_true_eq_false, Int.reduceToNat, Nat.zero_add, Nat.mul_one, Int.toNat_natCast, true_implies, chk_pos, dec_t, dec_f, E_raw, raws, h1, h2, h7, h8, h9, h12, h13, List.length_map, hget, fr15, wrap_i64] at hr
          rw [U_lay 12 13 rfl (B := B) (p := p) (e := 0) ⟨rfl, rfl, rfl⟩ hple (by omega), u1, u2, u3] at hr
          simp (disch := omega) only [go_sem, Nat.reduceEqDiff, Nat.reduceAdd, Nat.reduceSub, Nat.reduceMul, Nat.reduceLeDiff, Nat.reduceLT, Int.reduceLE, Int.reduceLT, Int.reduceEq, reduceCtorEq, decide_true, decide_false, List.append_assoc, List.length_append, Nat.reduceBEq, ne_eq, Option.some.injEq, not_false_eq_true, not_true_eq_false, Int.reduceToNat, Nat.zero_add, Nat.mul_one, Int.toNat_natCast, true_implies, chk_pos, dec_t, dec_f, E_raw, raws, h1, h2, h7, h8, h9, h12, h13, List.length_map, hget, fr15, wrap_i64, bnei_f] at hr
          subst hr
          exact ⟨_, _, rfl, .inl ⟨rfl, hlt, rfl, by simp [upd, clr, h1], by simp [upd, clr, h2], by simp [upd, clr, h7], by simp [upd, clr, h8], by simp [upd, clr, h9], by simp [upd, clr, h12], by simp [upd, clr], p + 8, hsucc, rfl⟩⟩
      · simp (disch := omega) only [go_sem, Nat.reduceEqDiff, Nat.reduceAdd, Nat.reduceSub, Nat.reduceMul, Nat.reduceLeDiff, Nat.reduceLT, Int.reduceLE, Int.reduceLT, Int.reduceEq, reduceCtorEq, decide_true, decide_false, List.append_assoc, List.length_append, Nat.reduceBEq, ne_eq, Option.some.injEq, not_false_eq_true, not_true_eq_false, Int.reduceToNat, Nat.zero_add, Nat.mul_one, Int.toNat_natCast, true_implies, chk_pos, dec_t, dec_f, E_raw, raws, h1, h2, h7, h8, h9, h12, h13, List.length_map] at hr
        subst hr
        have : i = ls.length := by omega
        subst this
        rw [List.take_length] at hp
        exact ⟨_, _, rfl, .inr ⟨by simp, rfl, rfl, by simp [upd, clr, h1], by simp [upd, clr, h2], by simp [upd, clr, h7], by simp [upd, clr, h8], by simp [upd, clr, h9], by simp [upd, clr, h12], p, hp, rfl⟩⟩)
  obtain ⟨tm', σ', b'⟩ := s'
  dsimp only at hb' h0 h2' h7 h8 h9 h12 hσ
  subst hb'; subst hσ; subst hp
  clear hL
  simp (disch := omega) only [go_sem, Nat.reduceEqDiff, Nat.reduceAdd, Nat.reduceSub, Nat.reduceMul, Nat.reduceLeDiff, Nat.reduceLT, Int.reduceLE, Int.reduceLT, Int.reduceEq, reduceCtorEq, decide_true, decide_false, List.append_assoc, List.length_append, Nat.reduceBEq, ne_eq, Option.some.injEq, not_false_eq_true, not_true_eq_false, Int.reduceToNat, Nat.zero_add, Nat.mul_one, Int.toNat_natCast, true_implies, chk_pos, dec_t, dec_f, E_raw, raws, fr15, h0, h2', h7, h8, h9, h12]
  generalize hL : exec E (.loop godwitlaw01_EncBack_L3) _ = res
  obtain ⟨x, s', rfl, rfl, hb', h0, h2', h7, h8, h9, h12, p, hp, hσ⟩ := loop_inv hL
    (fun i s => s.base = σ.length ∧ s.tm 0 = .sl (ls.map vnum) ∧ s.tm 2 = .sl (ms.map bsl) ∧ s.tm 7 = abool true ∧ s.tm 8 = aint k ∧ s.tm 9 = V ∧ s.tm 12 = .ptr (σ.length + 13) 1 0 ∧ s.tm 15 = aint i ∧
      ∃ p, p = (layA k ls ++ layM (ms.take i)).length ∧ s.σ = σ ++ fr15 σ.length Y1 Y2 B p)
    (fun x s => x = .exit 6 ∧ s.base = σ.length ∧ s.tm 0 = .sl (ls.map vnum) ∧ s.tm 2 = .sl (ms.map bsl) ∧ s.tm 7 = abool true ∧ s.tm 8 = aint k ∧ s.tm 9 = V ∧ s.tm 12 = .ptr (σ.length + 13) 1 0 ∧
      ∃ p, p = B.length ∧ s.σ = σ ++ fr15 σ.length Y1 Y2 B p)
    ms.length ⟨rfl, by simp [upd, clr, h0], by simp [upd, clr, h2'], by simp [upd, clr, h7], by simp [upd, clr, h8], by simp [upd, clr, h9], by simp [upd, clr, h12], rfl, _, by simp [layM], rfl⟩ (by
      clear h0 h2' h7 h8 hL hV h9 h12
      rintro i ⟨tm, σ', bs⟩ hi ⟨h0, h1, h2, h7, h8, h9, h12, h15, p, hp, hσ⟩
      dsimp only at h0 h1 h2 h7 h8 h9 h12 h15 hσ
      subst h0; subst hσ
      generalize hr : exec E godwitlaw01_EncBack_L3 _ = r
      rw [godwitlaw01_EncBack_L3] at hr
      by_cases hlt : i < ms.length
      · have hget : (ms.map bsl)[i]? = some (bsl ms[i]) := by rw [List.getElem?_map, List.getElem?_eq_getElem hlt]; rfl
        obtain ⟨u1, u2, u3⟩ := l_of (B := B) (x := ms[i]) (post := layM (ms.drop (i + 1))) (by rw [← hB, layM_split hlt]; simp only [List.append_assoc]) hp (hall _ (List.getElem_mem hlt))
        have hsucc : p + 2 + ms[i].length = (layA k ls ++ layM (ms.take (i + 1))).length := by rw [layM_succ hlt, hp]; simp only [List.length_append, le_length]; omega
        have hple : p ≤ B.length := by
          rw [← hB, layM_split hlt, hp]; simp only [List.length_append]; omega
        generalize ms[i] = v at *
        simp (disch := omega) only [go_sem, Nat.reduceEqDiff, Nat.reduceAdd, Nat.reduceSub, Nat.reduceMul, Nat.reduceLeDiff, Nat.reduceLT, Int.reduceLE, Int.reduceLT, Int.reduceEq, reduceCtorEq, decide_true, decide_false, List.append_assoc, List.length_append, Nat.reduceBEq, ne_eq, Option.some.injEq, not_false_eq_true, not_true_eq_false, Int.reduceToNat, Nat.zero_add, Nat.mul_one, Int.toNat_natCast, true_implies, chk_pos, dec_t, dec_f, E_raw, raws, h1, h2, h7, h8, h9, h12, h15, List.length_map, hget, fr15, wrap_i64] at hr
        rw [List_lay 12 13 rfl (B := B) (p := p) (e := 0) ⟨rfl, rfl, rfl⟩ hple (by omega), u1, u2, u3] at hr
        simp (disch := omega) only [go_sem, Nat.reduceEqDiff, Nat.reduceAdd, Nat.reduceSub, Nat.reduceMul, Nat.reduceLeDiff, Nat.reduceLT, Int.reduceLE, Int.reduceLT, Int.reduceEq, reduceCtorEq, decide_true, decide_false, List.append_assoc, List.length_append, Nat.reduceBEq, ne_eq, Option.some.injEq, not_false_eq_true, not_true_eq_false, Int.reduceToNat, Nat.zero_add, Nat.mul_one, Int.toNat_natCast, true_implies, chk_pos, dec_t, dec_f, E_raw, raws, h1, h2, h7, h8, h9, h12, h15, List.length_map, hget, fr15, wrap_i64, bnei_f, beq_self_eq_true, Bool.not_true] at hr
        subst hr
        exact ⟨_, _, rfl, .inl ⟨rfl, hlt, rfl, by simp [upd, clr, h1], by simp [upd, clr, h2], by simp [upd, clr, h7], by simp [upd, clr, h8], by simp [upd, clr, h9], by simp [upd, clr, h12], by simp [upd, clr], _, hsucc, rfl⟩⟩
      · simp (disch := omega) only [go_sem, Nat.reduceEqDiff, Nat.reduceAdd, Nat.reduceSub, Nat.reduceMul, Nat.reduceLeDiff, Nat.reduceLT, Int.reduceLE, Int.reduceLT, Int.reduceEq, reduceCtorEq, decide_true, decide_false, List.append_assoc, List.length_append, Nat.reduceBEq, ne_eq, Option.some.injEq, not_false_eq_true, not_true_eq_false, Int.reduceToNat, Nat.zero_add, Nat.mul_one, Int.toNat_natCast, true_implies, chk_pos, dec_t, dec_f, E_raw, raws, h1, h2, h7, h8, h9, h12, h15, List.length_map] at hr
        subst hr
        have : i = ms.length := by omega
        subst this
        rw [List.take_length, hB] at hp
        exact ⟨_, _, rfl, .inr ⟨by simp, rfl, rfl, by simp [upd, clr, h1], by simp [upd, clr, h2], by simp [upd, clr, h7], by simp [upd, clr, h8], by simp [upd, clr, h9], by simp [upd, clr, h12], p, hp, rfl⟩⟩)
  obtain ⟨tm', σ', b'⟩ := s'
  dsimp only at hb' h0 h2' h7 h8 h9 h12 hσ
  subst hb'; subst hσ; subst hp
  clear hL
  have hmax : ∀ m : Nat, (if (m : Int) - 1 > 0 then (m : Int) - 1 else 0) = ((m - 1 : Nat) : Int) := fun m => by split <;> omega
  simp (disch := omega) only [go_sem, Nat.reduceEqDiff, Nat.reduceAdd, Nat.reduceSub, Nat.reduceMul, Nat.reduceLeDiff, Nat.reduceLT, Int.reduceLE, Int.reduceLT, Int.reduceEq, reduceCtorEq, decide_true, decide_false, List.append_assoc, List.length_append, Nat.reduceBEq, ne_eq, Option.some.injEq, not_false_eq_true, not_true_eq_false, Int.reduceToNat, Nat.zero_add, Nat.mul_one, Int.toNat_natCast, true_implies, chk_pos, dec_t, dec_f, E_raw, raws, fr15, h0, h2', h7, h8, h9, h12, f1, f4, f5, f6, hmax, New_ok, Nat.add_assoc, wrap_i64]
  generalize hL : exec E (.loop godwitlaw01_EncBack_L4) _ = res
  obtain ⟨x, s', rfl, rfl, hb', h0, h2', h7, h8, h9, h12, h16, p, e, hp, hσ⟩ := loop_inv hL
    (fun i s => s.base = σ.length ∧ s.tm 0 = .sl (ls.map vnum) ∧ s.tm 2 = .sl (ms.map bsl) ∧ s.tm 7 = abool true ∧ s.tm 8 = aint k ∧ s.tm 9 = V ∧ s.tm 12 = .ptr (σ.length + 13) 1 0 ∧ s.tm 16 = .ptr (σ.length + 16) 1 0 ∧ s.tm 17 = aint i ∧
      ∃ p e, Sh B p e (layA k (ls.take i)).length ∧ s.σ = σ ++ fr18 σ.length Y1 Y2 B (B.take (B.length - 1)) p e)
    (fun x s => x = .exit 8 ∧ s.base = σ.length ∧ s.tm 0 = .sl (ls.map vnum) ∧ s.tm 2 = .sl (ms.map bsl) ∧ s.tm 7 = abool true ∧ s.tm 8 = aint k ∧ s.tm 9 = V ∧ s.tm 12 = .ptr (σ.length + 13) 1 0 ∧ s.tm 16 = .ptr (σ.length + 16) 1 0 ∧
      ∃ p e, Sh B p e (layA k ls).length ∧ s.σ = σ ++ fr18 σ.length Y1 Y2 B (B.take (B.length - 1)) p e)
    ls.length ⟨rfl, by simp [upd, clr, h0], by simp [upd, clr, h2'], by simp [upd, clr, h7], by simp [upd, clr, h8], by simp [upd, clr, h9], by simp [upd, clr, h12], by simp [upd, clr], rfl, 0, 0, ⟨by omega, .inl ⟨rfl, by simp [layA]⟩⟩, rfl⟩ (by
      clear h0 h2' h7 h8 hL hV h9 h12
      rintro i ⟨tm, σ', bs⟩ hi ⟨h0, h1, h2, h7, h8, h9, h12, h16, h17, p, e, hp, hσ⟩
      dsimp only at h0 h1 h2 h7 h8 h9 h12 h16 h17 hσ
      subst h0; subst hσ
      generalize hr : exec E godwitlaw01_EncBack_L4 _ = r
      rw [godwitlaw01_EncBack_L4] at hr
      by_cases hlt : i < ls.length
      · have hstep := sh_u (B := B) (v := ls[i]) (post := layA k (ls.drop (i + 1)) ++ layM ms) (by rw [← hB, layA_split hlt]; simp only [List.append_assoc]) hk1 hk8 hp
        rw [← layA_succ hlt] at hstep
        simp (disch := omega) only [go_sem, Nat.reduceEqDiff, Nat.reduceAdd, Nat.reduceSub, Nat.reduceMul, Nat.reduceLeDiff, Nat.reduceLT, Int.reduceLE, Int.reduceLT, Int.reduceEq, reduceCtorEq, decide_true, decide_false, List.append_assoc, List.length_append, Nat.reduceBEq, ne_eq, Option.some.injEq, not_false_eq_true, not_true_eq_false, Int.reduceToNat, Nat.zero_add, Nat.mul_one, Int.toNat_natCast, true_implies, chk_pos, dec_t, dec_f, E_raw, raws, h1, h2, h7, h8, h9, h12, h16, h17, List.length_map, fr18, wrap_i64] at hr
        rw [U_lay 15 16 rfl (B := B.take (B.length - 1)) (p := p) (e := e) ⟨rfl, rfl, rfl⟩ (by rw [List.length_take]; have := hp.1; omega) (by rw [List.length_take]; omega)] at hr
        simp (disch := omega) only [go_sem, Nat.reduceEqDiff, Nat.reduceAdd, Nat.reduceSub, Nat.reduceMul, Nat.reduceLeDiff, Nat.reduceLT, Int.reduceLE, Int.reduceLT, Int.reduceEq, reduceCtorEq, decide_true, decide_false, List.append_assoc, List.length_append, Nat.reduceBEq, ne_eq, Option.some.injEq, not_false_eq_true, not_true_eq_false, Int.reduceToNat, Nat.zero_add, Nat.mul_one, Int.toNat_natCast, true_implies, chk_pos, dec_t, dec_f, E_raw, raws, h1, h2, h7, h8, h9, h12, h16, h17, List.length_map, fr18, wrap_i64] at hr
        subst hr
        exact ⟨_, _, rfl, .inl ⟨rfl, hlt, rfl, by simp [upd, clr, h1], by simp [upd, clr, h2], by simp [upd, clr, h7], by simp [upd, clr, h8], by simp [upd, clr, h9], by simp [upd, clr, h12], by simp [upd, clr, h16], by simp [upd, clr], _, _, hstep, rfl⟩⟩
      · simp (disch := omega) only [go_sem, Nat.reduceEqDiff, Nat.reduceAdd, Nat.reduceSub, Nat.reduceMul, Nat.reduceLeDiff, Nat.reduceLT, Int.reduceLE, Int.reduceLT, Int.reduceEq, reduceCtorEq, decide_true, decide_false, List.append_assoc, List.length_append, Nat.reduceBEq, ne_eq, Option.some.injEq, not_false_eq_true, not_true_eq_false, Int.reduceToNat, Nat.zero_add, Nat.mul_one, Int.toNat_natCast, true_implies, chk_pos, dec_t, dec_f, E_raw, raws, h1, h2, h7, h8, h9, h12, h16, h17, List.length_map] at hr
        subst hr
        have : i = ls.length := by omega
        subst this
        rw [List.take_length] at hp
        exact ⟨_, _, rfl, .inr ⟨by simp, rfl, rfl, by simp [upd, clr, h1], by simp [upd, clr, h2], by simp [upd, clr, h7], by simp [upd, clr, h8], by simp [upd, clr, h9], by simp [upd, clr, h12], by simp [upd, clr, h16], p, e, hp, rfl⟩⟩)
  obtain ⟨tm', σ', b'⟩ := s'
  dsimp only at hb' h0 h2' h7 h8 h9 h12 h16 hσ
  subst hb'; subst hσ
  clear hL
  simp (disch := omega) only [go_sem, Nat.reduceEqDiff, Nat.reduceAdd, Nat.reduceSub, Nat.reduceMul, Nat.reduceLeDiff, Nat.reduceLT, Int.reduceLE, Int.reduceLT, Int.reduceEq, reduceCtorEq, decide_true, decide_false, List.append_assoc, List.length_append, Nat.reduceBEq, ne_eq, Option.some.injEq, not_false_eq_true, not_true_eq_false, Int.reduceToNat, Nat.zero_add, Nat.mul_one, Int.toNat_natCast, true_implies, chk_pos, dec_t, dec_f, E_raw, raws, fr18, h0, h2', h7, h8, h9, h12, h16]
  generalize hL : exec E (.loop godwitlaw01_EncBack_L5) _ = res
  obtain ⟨x, s', rfl, rfl, hb', h0, h2', h7, h8, h9, h12, h16, p, e, hp, hσ⟩ := loop_inv hL
    (fun i s => s.base = σ.length ∧ s.tm 0 = .sl (ls.map vnum) ∧ s.tm 2 = .sl (ms.map bsl) ∧ s.tm 7 = abool true ∧ s.tm 8 = aint k ∧ s.tm 9 = V ∧ s.tm 12 = .ptr (σ.length + 13) 1 0 ∧ s.tm 16 = .ptr (σ.length + 16) 1 0 ∧ s.tm 18 = aint i ∧
      ∃ p e, Sh B p e (layA k ls ++ layM (ms.take i)).length ∧ s.σ = σ ++ fr18 σ.length Y1 Y2 B (B.take (B.length - 1)) p e)
    (fun x s => x = .exit 10 ∧ s.base = σ.length ∧ s.tm 0 = .sl (ls.map vnum) ∧ s.tm 2 = .sl (ms.map bsl) ∧ s.tm 7 = abool true ∧ s.tm 8 = aint k ∧ s.tm 9 = V ∧ s.tm 12 = .ptr (σ.length + 13) 1 0 ∧ s.tm 16 = .ptr (σ.length + 16) 1 0 ∧
      ∃ p e, Sh B p e (B).length ∧ s.σ = σ ++ fr18 σ.length Y1 Y2 B (B.take (B.length - 1)) p e)
    ms.length ⟨rfl, by simp [upd, clr, h0], by simp [upd, clr, h2'], by simp [upd, clr, h7], by simp [upd, clr, h8], by simp [upd, clr, h9], by simp [upd, clr, h12], by simp [upd, clr, h16], rfl, p, e, by simpa [layM] using hp, rfl⟩ (by
      clear h0 h2' h7 h8 hL hV h9 h12
      rintro i ⟨tm, σ', bs⟩ hi ⟨h0, h1, h2, h7, h8, h9, h12, h16, h17, p, e, hp, hσ⟩
      dsimp only at h0 h1 h2 h7 h8 h9 h12 h16 h17 hσ
      subst h0; subst hσ
      generalize hr : exec E godwitlaw01_EncBack_L5 _ = r
      rw [godwitlaw01_EncBack_L5] at hr
      by_cases hlt : i < ms.length
      · have hstep := sh_l (B := B) (x := ms[i]) (post := layM (ms.drop (i + 1))) (by rw [← hB, layM_split hlt]; simp only [List.append_assoc]) (hall _ (List.getElem_mem hlt)) hp
        rw [List.append_assoc, ← layM_succ hlt] at hstep
        simp (disch := omega) only [go_sem, Nat.reduceEqDiff, Nat.reduceAdd, Nat.reduceSub, Nat.reduceMul, Nat.reduceLeDiff, Nat.reduceLT, Int.reduceLE, Int.reduceLT, Int.reduceEq, reduceCtorEq, decide_true, decide_false, List.append_assoc, List.length_append, Nat.reduceBEq, ne_eq, Option.some.injEq, not_false_eq_true, not_true_eq_false, Int.reduceToNat, Nat.zero_add, Nat.mul_one, Int.toNat_natCast, true_implies, chk_pos, dec_t, dec_f, E_raw, raws, h1, h2, h7, h8, h9, h12, h16, h17, List.length_map, fr18, wrap_i64] at hr
        rw [List_lay 15 16 rfl (B := B.take (B.length - 1)) (p := p) (e := e) ⟨rfl, rfl, rfl⟩ (by rw [List.length_take]; have := hp.1; omega) (by rw [List.length_take]; omega)] at hr
        simp (disch := omega) only [go_sem, Nat.reduceEqDiff, Nat.reduceAdd, Nat.reduceSub, Nat.reduceMul, Nat.reduceLeDiff, Nat.reduceLT, Int.reduceLE, Int.reduceLT, Int.reduceEq, reduceCtorEq, decide_true, decide_false, List.append_assoc, List.length_append, Nat.reduceBEq, ne_eq, Option.some.injEq, not_false_eq_true, not_true_eq_false, Int.reduceToNat, Nat.zero_add, Nat.mul_one, Int.toNat_natCast, true_implies, chk_pos, dec_t, dec_f, E_raw, raws, h1, h2, h7, h8, h9, h12, h16, h17, List.length_map, fr18, wrap_i64] at hr
        subst hr
        exact ⟨_, _, rfl, .inl ⟨rfl, hlt, rfl, by simp [upd, clr, h1], by simp [upd, clr, h2], by simp [upd, clr, h7], by simp [upd, clr, h8], by simp [upd, clr, h9], by simp [upd, clr, h12], by simp [upd, clr, h16], by simp [upd, clr], _, _, hstep, rfl⟩⟩
      · simp (disch := omega) only [go_sem, Nat.reduceEqDiff, Nat.reduceAdd, Nat.reduceSub, Nat.reduceMul, Nat.reduceLeDiff, Nat.reduceLT, Int.reduceLE, Int.reduceLT, Int.reduceEq, reduceCtorEq, decide_true, decide_false, List.append_assoc, List.length_append, Nat.reduceBEq, ne_eq, Option.some.injEq, not_false_eq_true, not_true_eq_false, Int.reduceToNat, Nat.zero_add, Nat.mul_one, Int.toNat_natCast, true_implies, chk_pos, dec_t, dec_f, E_raw, raws, h1, h2, h7, h8, h9, h12, h16, h17, List.length_map] at hr
        subst hr
        have : i = ms.length := by omega
        subst this
        rw [List.take_length, hB] at hp
        exact ⟨_, _, rfl, .inr ⟨by simp, rfl, rfl, by simp [upd, clr, h1], by simp [upd, clr, h2], by simp [upd, clr, h7], by simp [upd, clr, h8], by simp [upd, clr, h9], by simp [upd, clr, h12], by simp [upd, clr, h16], p, e, hp, rfl⟩⟩)
  obtain ⟨tm', σ', b'⟩ := s'
  dsimp only at hb' h0 h2' h7 h8 h9 h12 h16 hσ
  subst hb'; subst hσ
  clear hL
  have hend : endE B B.length 0 = 0 := by unfold endE; rw [if_pos rfl, if_neg (by omega)]
  have hfin : B.length = 0 ∨ e = 2 := by
    obtain ⟨a, ⟨_, b⟩ | b⟩ := hp
    · exact .inl (by omega)
    · exact .inr b
  simp (disch := omega) only [go_sem, Nat.reduceEqDiff, Nat.reduceAdd, Nat.reduceSub, Nat.reduceMul, Nat.reduceLeDiff, Nat.reduceLT, Int.reduceLE, Int.reduceLT, Int.reduceEq, reduceCtorEq, decide_true, decide_false, List.append_assoc, List.length_append, Nat.reduceBEq, ne_eq, Option.some.injEq, not_false_eq_true, not_true_eq_false, Int.reduceToNat, Nat.zero_add, Nat.mul_one, Int.toNat_natCast, true_implies, chk_pos, dec_t, dec_f, E_raw, raws, fr18, h0, h2', h7, h8, h9, h12, h16, scV_true, scV_false]
  rw [End_lay 12 13 rfl (B := B) (p := B.length) (e := 0) ⟨rfl, rfl, rfl⟩, hend]
  simp (disch := omega) only [go_sem, Nat.reduceEqDiff, Nat.reduceAdd, Nat.reduceSub, Nat.reduceMul, Nat.reduceLeDiff, Nat.reduceLT, Int.reduceLE, Int.reduceLT, Int.reduceEq, reduceCtorEq, decide_true, decide_false, List.append_assoc, List.length_append, Nat.reduceBEq, ne_eq, Option.some.injEq, not_false_eq_true, not_true_eq_false, Int.reduceToNat, Nat.zero_add, Nat.mul_one, Int.toNat_natCast, true_implies, chk_pos, dec_t, dec_f, E_raw, raws, fr18, h0, h2', h7, h8, h9, h12, h16, scV_true, scV_false, beqi_t]
  rw [At_lay 12 13 rfl (B := B) (p := B.length) (e := 0) ⟨rfl, rfl, rfl⟩]
  by_cases hz : B.length = 0
  · simp (disch := omega) only [go_sem, Nat.reduceEqDiff, Nat.reduceAdd, Nat.reduceSub, Nat.reduceMul, Nat.reduceLeDiff, Nat.reduceLT, Int.reduceLE, Int.reduceLT, Int.reduceEq, reduceCtorEq, decide_true, decide_false, List.append_assoc, List.length_append, Nat.reduceBEq, ne_eq, Option.some.injEq, not_false_eq_true, not_true_eq_false, Int.reduceToNat, Nat.zero_add, Nat.mul_one, Int.toNat_natCast, true_implies, chk_pos, dec_t, dec_f, E_raw, raws, fr18, h0, h2', h7, h8, h9, h12, h16, scV_true, scV_false, beqi_t, f1]
  · have he : e = 2 := by omega
    simp (disch := omega) only [go_sem, Nat.reduceEqDiff, Nat.reduceAdd, Nat.reduceSub, Nat.reduceMul, Nat.reduceLeDiff, Nat.reduceLT, Int.reduceLE, Int.reduceLT, Int.reduceEq, reduceCtorEq, decide_true, decide_false, List.append_assoc, List.length_append, Nat.reduceBEq, ne_eq, Option.some.injEq, not_false_eq_true, not_true_eq_false, Int.reduceToNat, Nat.zero_add, Nat.mul_one, Int.toNat_natCast, true_implies, chk_pos, dec_t, dec_f, E_raw, raws, fr18, h0, h2', h7, h8, h9, h12, h16, scV_true, scV_false, beqi_t, beqi_f, f1]
    rw [Err_lay 15 16 rfl (B := B.take (B.length - 1)) (p := p) (e := e) ⟨rfl, rfl, rfl⟩]
    simp (disch := omega) only [go_sem, Nat.reduceEqDiff, Nat.reduceAdd, Nat.reduceSub, Nat.reduceMul, Nat.reduceLeDiff, Nat.reduceLT, Int.reduceLE, Int.reduceLT, Int.reduceEq, reduceCtorEq, decide_true, decide_false, List.append_assoc, List.length_append, Nat.reduceBEq, ne_eq, Option.some.injEq, not_false_eq_true, not_true_eq_false, Int.reduceToNat, Nat.zero_add, Nat.mul_one, Int.toNat_natCast, true_implies, chk_pos, dec_t, dec_f, E_raw, raws, fr18, h0, h2', h7, h8, h9, h12, h16, scV_true, scV_false, beqi_t, f1]
end Go.Proofs.Ytmbleldjdhkkeaa.Fn
