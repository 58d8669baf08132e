/- The functions of the first chapter, reckoned. -/
import Derived.Test.YtmbleldjdhkkeaaChecked
import Derived.Test.YtmbleldjdhkkeaaCode
import Derived.Test.YtmbleldjdhkkeaaFwB
import Derived.Test.YtmbleldjdhkkeaaFwAA
set_option linter.unusedSimpArgs false
set_option linter.unusedVariables false
namespace Go.Proofs.Ytmbleldjdhkkeaa.Fn
open Go Go.Abs
noncomputable def E0 : Env := { fns := compFn Try.prog wrs modes, raw := raws, G := fun _ => none, X := fun _ => none }
theorem E0_X (f : FuncId) : E0.X f = none := rfl
theorem E0_fn {f : FuncId} {A : AFun} (h : compFn Try.prog wrs modes f = some A) : E0.fns f = some A := h
theorem E0_raw (f : FuncId) : E0.raw f = raws f := rfl

/-- bytes.Clone: the bytes, in an array of their own. -/
def cloneG (args : List AVal) (σ : Store) : Option (AVal × Store) :=
  match args with
  | [.sl es] => chk (unif 1 es = true ∧ es.length ≤ maxRoom) (some (.own σ.length 0 1 0 es.length, σ ++ [.arr 0 false 1 es]))
  | _ => none

theorem clone_nil (σ : Store) : callv E0 (.fn bytes_Clone [] []) [anil] σ = some (.own σ.length 0 1 0 0, σ ++ [.arr 0 false 1 []]) := by
  rw [call_fn (E0_X _) (E0_fn bytes_Clone_c), bytes_Clone_A]
  simp (disch := omega) only [go_sem, Nat.reduceEqDiff, Nat.reduceAdd, Nat.reduceSub, Nat.reduceMul, Nat.reduceLeDiff, Nat.reduceLT, Int.reduceLE, Int.reduceLT, Int.reduceEq, reduceCtorEq, decide_true, decide_false, List.append_assoc, List.length_append, Nat.reduceBEq, ne_eq, Option.some.injEq, not_false_eq_true, not_true_eq_false, Int.reduceToNat, Nat.zero_add, Nat.mul_one, Int.toNat_natCast, true_implies, chk_pos, dec_t, dec_f, ]
theorem clone_some (es : List AVal) (h : unif 1 es = true) (hr : es.length ≤ maxRoom) (σ : Store) : callv E0 (.fn bytes_Clone [] []) [.sn es] σ = some (.own σ.length 0 1 0 es.length, σ ++ [.arr 0 false 1 es]) := by
  rw [call_fn (E0_X _) (E0_fn bytes_Clone_c), bytes_Clone_A]
  rw [max_room] at hr
  simp (disch := omega) only [go_sem, Nat.reduceEqDiff, Nat.reduceAdd, Nat.reduceSub, Nat.reduceMul, Nat.reduceLeDiff, Nat.reduceLT, Int.reduceLE, Int.reduceLT, Int.reduceEq, reduceCtorEq, decide_true, decide_false, List.append_assoc, List.length_append, Nat.reduceBEq, ne_eq, Option.some.injEq, not_false_eq_true, not_true_eq_false, Int.reduceToNat, Nat.zero_add, Nat.mul_one, Int.toNat_natCast, true_implies, chk_pos, dec_t, dec_f, h, max_room, Nat.zero_add, Nat.mul_one]

theorem E0_fns : ∀ f A, E0.fns f = some A → compFn Try.prog wrs modes f = some A := fun _ _ h => h
theorem E0_Xs : ∀ f g, E0.X f = some g → OracleOk Try.prog wrs E0.G f g := fun _ _ h => by cases h
theorem clone_oracle : OracleOk Try.prog wrs (fun _ => none) bytes_Clone cloneG := by
  refine oracle_of (E := E0) Try.checked.mixed E0_fns E0_Xs ⟨_, bytes_Clone_c⟩ fun args σ r c w us hg hL => ?_
  unfold cloneG at hg
  split at hg
  · rename_i es
    rw [chk_some] at hg
    obtain ⟨⟨h1, h2⟩, hg⟩ := hg
    injection hg with hg; subst hg
    simp only [SimL] at hL
    obtain ⟨u, us', rfl, hu, rfl⟩ := hL
    rcases sl_cases hu with ⟨h3, rfl⟩ | h3
    · exact ⟨[anil], simL_one h3, clone_nil σ⟩
    · exact ⟨[.sn es], simL_one h3, clone_some es h1 h2 σ⟩
  · cases hg

noncomputable def E : Env := { fns := compFn Try.prog wrs modes, raw := raws, G := fun _ => none, X := fun f => if f = bytes_Clone then some cloneG else none }
theorem E_X (f : FuncId) (h : f ≠ bytes_Clone) : E.X f = none := if_neg h
theorem E_fn {f : FuncId} {A : AFun} (h : compFn Try.prog wrs modes f = some A) : E.fns f = some A := h
theorem E_raw (f : FuncId) : E.raw f = raws f := rfl
theorem E_fns : ∀ f A, E.fns f = some A → compFn Try.prog wrs modes f = some A := fun _ _ h => h
theorem E_Xs : ∀ f g, E.X f = some g → OracleOk Try.prog wrs E.G f g := by
  intro f g h
  simp only [E] at h
  split at h
  · rename_i hf; subst hf; injection h with h; subst h; exact clone_oracle
  · cases h

theorem Clone_ok (l : List UInt8) (h : l.length ≤ maxRoom) (σ : Store) : callv E (.fn bytes_Clone [] []) [bsl l] σ = some (.own σ.length 0 1 0 l.length, σ ++ [.arr 0 false 1 (l.map abyte)]) := by
  rw [call_told (show E.X bytes_Clone = some cloneG from rfl)]
  simp [cloneG, chk, unif_bytes, h]

/-- A number's first k bytes. -/
def le (v : Nat) (k : Nat) : List UInt8 := (List.range k).map fun i => UInt8.ofNat (v / 256 ^ i)
theorem le_succ (v k : Nat) : le v (k + 1) = le v k ++ [UInt8.ofNat (v / 256 ^ k)] := by simp [le, List.range_succ]
theorem le_length (v k : Nat) : (le v k).length = k := by simp [le]

theorem shr_byte (v i : Nat) (h : i < 8) : AVal.atom (.int .u8 (IntKind.u8.wrap ((v : Int).fdiv (2 ^ (Int.toNat (8 * (i : Int))).min 64)))) = abyte (UInt8.ofNat (v / 256 ^ i)) := by
  have e1 : (Int.toNat (8 * (i : Int))).min 64 = 8 * i := by
    show min (8 * (i : Int)).toNat 64 = 8 * i
    omega
  rw [e1, wrap_u8_mod]
  have e2 : (2 : Int) ^ (8 * i) = ((256 ^ i : Nat) : Int) := by
    rw [Int.pow_mul]; norm_cast
  rw [e2, Int.fdiv_eq_ediv_of_nonneg _ (Int.natCast_nonneg _)]
  have e3 : ((v : Int) / ((256 ^ i : Nat) : Int)) % 256 = (((v / 256 ^ i) % 256 : Nat) : Int) := by
    rw [Int.natCast_emod, Int.natCast_ediv]; rfl
  rw [e3]
  generalize v / 256 ^ i = q
  simp [abyte]

theorem U_ok (b : List UInt8) (v : Nat) (n : Int) (hb : b.length ≤ 100000) (σ : Store) : callv E (.fn enc_U [] []) [bsl b, .atom (.int .u64 v), aint n] σ =
    some (.own σ.length 0 1 0 (b ++ le v (min n 8).toNat).length, σ ++ [.arr 0 false 1 ((b ++ le v (min n 8).toNat).map abyte)]) := by
  rw [call_fn (E_X _ (by decide)) (E_fn enc_U_c), enc_U_A]
  simp (disch := omega) only [go_sem, Nat.reduceEqDiff, Nat.reduceAdd, Nat.reduceSub, Nat.reduceMul, Nat.reduceLeDiff, Nat.reduceLT, Int.reduceLE, Int.reduceLT, Int.reduceEq, reduceCtorEq, decide_true, decide_false, List.append_assoc, List.length_append, Nat.reduceBEq, ne_eq, Option.some.injEq, not_false_eq_true, not_true_eq_false, Int.reduceToNat, Nat.zero_add, Nat.mul_one, Int.toNat_natCast, true_implies, chk_pos, dec_t, dec_f, Clone_ok b (by rw [max_room]; omega), E_raw, raws, cop.recv]
  generalize hL : exec E (.loop enc_U_L0) _ = res
  have hm : ((if 8 < n then 8 else n) : Int) = min n 8 := by omega
  rw [hm] at hL
  obtain ⟨x, s', rfl, rfl, hb', ⟨B, hσ⟩, h7⟩ := loop_inv hL
    (fun i s => s.base = σ.length ∧ (∃ B, s.σ = σ ++ [.arr (i + 1) false 1 ((b ++ le v i).map abyte), B, .dead 0]) ∧ s.tm 1 = .atom (.int .u64 v) ∧ s.tm 7 = .own σ.length (i + 1) 1 0 (b.length + i) ∧ s.tm 12 = aint (min n 8) ∧ s.tm 13 = aint i)
    (fun x s => x = .exit 0 ∧ s.base = σ.length ∧ (∃ B, s.σ = σ ++ [.arr ((min n 8).toNat + 1) false 1 ((b ++ le v (min n 8).toNat).map abyte), B, .dead 0]) ∧ s.tm 7 = .own σ.length ((min n 8).toNat + 1) 1 0 (b.length + (min n 8).toNat))
    (min n 8).toNat ⟨rfl, ⟨.dead 0, by simp [le]⟩, rfl, rfl, rfl, rfl⟩ (by
      rintro i ⟨tm, σ', bs⟩ hi ⟨h0, ⟨B, hσ⟩, h1, h7, h12, h13⟩
      dsimp only at h0 hσ h1 h7 h12 h13
      subst h0; subst hσ
      generalize hr : exec E enc_U_L0 _ = r
      rw [enc_U_L0] at hr
      by_cases hlt : (i : Int) < min n 8
      · simp (disch := omega) only [go_sem, Nat.reduceEqDiff, Nat.reduceAdd, Nat.reduceSub, Nat.reduceMul, Nat.reduceLeDiff, Nat.reduceLT, Int.reduceLE, Int.reduceLT, Int.reduceEq, reduceCtorEq, decide_true, decide_false, List.append_assoc, List.length_append, Nat.reduceBEq, ne_eq, Option.some.injEq, not_false_eq_true, not_true_eq_false, Int.reduceToNat, Nat.zero_add, Nat.mul_one, Int.toNat_natCast, true_implies, chk_pos, dec_t, dec_f, h1, h7, h12, h13, wrap_i64, shr_byte v i (by omega), List.length_map, le_length] at hr
        subst hr
        exact ⟨_, _, rfl, .inl ⟨rfl, by omega, rfl, ⟨_, by simp [le_succ]; rfl⟩, h1, by simp [upd]; omega, h12, by simp [upd]⟩⟩
      · simp (disch := omega) only [go_sem, Nat.reduceEqDiff, Nat.reduceAdd, Nat.reduceSub, Nat.reduceMul, Nat.reduceLeDiff, Nat.reduceLT, Int.reduceLE, Int.reduceLT, Int.reduceEq, reduceCtorEq, decide_true, decide_false, List.append_assoc, List.length_append, Nat.reduceBEq, ne_eq, Option.some.injEq, not_false_eq_true, not_true_eq_false, Int.reduceToNat, Nat.zero_add, Nat.mul_one, Int.toNat_natCast, true_implies, chk_pos, dec_t, dec_f, h1, h7, h12, h13] at hr
        subst hr
        have : i = (min n 8).toNat := by omega
        subst this
        exact ⟨_, _, rfl, .inr ⟨by simp, rfl, rfl, ⟨B, rfl⟩, h7⟩⟩)
  obtain ⟨tm', σ', b'⟩ := s'
  dsimp only at hb' hσ h7
  subst hb'; subst hσ
  clear hL
  simp (disch := omega) only [go_sem, Nat.reduceEqDiff, Nat.reduceAdd, Nat.reduceSub, Nat.reduceMul, Nat.reduceLeDiff, Nat.reduceLT, Int.reduceLE, Int.reduceLT, Int.reduceEq, reduceCtorEq, decide_true, decide_false, List.append_assoc, List.length_append, Nat.reduceBEq, ne_eq, Option.some.injEq, not_false_eq_true, not_true_eq_false, Int.reduceToNat, Nat.zero_add, Nat.mul_one, Int.toNat_natCast, true_implies, chk_pos, dec_t, dec_f, h7, List.length_map, le_length, finish_own]

theorem rem_byte (w : Nat) : AVal.atom (.int .u8 (IntKind.u8.wrap ((w : Int).tmod 256))) = abyte (UInt8.ofNat w) := by
  rw [wrap_u8_mod, Int.tmod_eq_emod_of_nonneg (Int.natCast_nonneg _)]
  simp [abyte]
theorem quo_byte (v i : Nat) (hv : v < 18446744073709551616) : AVal.atom (.int .u64 (IntKind.u64.wrap (((v / 256 ^ i : Nat) : Int).tdiv 256))) = .atom (.int .u64 ((v / 256 ^ (i + 1) : Nat) : Int)) := by
  have h1 : ((v / 256 ^ i : Nat) : Int).tdiv 256 = ((v / 256 ^ (i + 1) : Nat) : Int) := by
    rw [Int.tdiv_eq_ediv_of_nonneg (Int.natCast_nonneg _), Nat.pow_succ, ← Nat.div_div_eq_div_mul]
    exact (Int.natCast_ediv _ 256).symm
  have h2 : v / 256 ^ (i + 1) ≤ v := Nat.div_le_self ..
  rw [h1]
  generalize v / 256 ^ (i + 1) = q at h2 ⊢
  rw [wrap_u64 (by omega)]

theorem RU_ok (b : List UInt8) (v : Nat) (n : Int) (hv : v < 18446744073709551616) (hb : b.length ≤ 100000) (σ : Store) : callv E (.fn godwitref01_U [] []) [bsl b, .atom (.int .u64 v), aint n] σ =
    some (.own σ.length 0 1 0 (b ++ le v (min n 8).toNat).length, σ ++ [.arr 0 false 1 ((b ++ le v (min n 8).toNat).map abyte)]) := by
  rw [call_fn (E_X _ (by decide)) (E_fn godwitref01_U_c), godwitref01_U_A]
  simp (disch := omega) only [go_sem, Nat.reduceEqDiff, Nat.reduceAdd, Nat.reduceSub, Nat.reduceMul, Nat.reduceLeDiff, Nat.reduceLT, Int.reduceLE, Int.reduceLT, Int.reduceEq, reduceCtorEq, decide_true, decide_false, List.append_assoc, List.length_append, Nat.reduceBEq, ne_eq, Option.some.injEq, not_false_eq_true, not_true_eq_false, Int.reduceToNat, Nat.zero_add, Nat.mul_one, Int.toNat_natCast, true_implies, chk_pos, dec_t, dec_f, List.length_map]
  generalize hL : exec E (.loop godwitref01_U_L0) _ = res
  obtain ⟨x, s', rfl, rfl, hb', ⟨B, hσ⟩, h7⟩ := loop_inv hL
    (fun i s => s.base = σ.length ∧ (∃ B, s.σ = σ ++ [.arr (i + 2) false 1 ((b ++ le v i).map abyte), .dead 0, B, .dead 0]) ∧ s.tm 1 = .atom (.int .u64 (v / 256 ^ i : Nat)) ∧ s.tm 2 = aint n ∧ s.tm 7 = .own σ.length (i + 2) 1 0 (b.length + i) ∧ s.tm 8 = aint i)
    (fun x s => x = .exit 0 ∧ s.base = σ.length ∧ (∃ B, s.σ = σ ++ [.arr ((min n 8).toNat + 2) false 1 ((b ++ le v (min n 8).toNat).map abyte), .dead 0, B, .dead 0]) ∧ s.tm 7 = .own σ.length ((min n 8).toNat + 2) 1 0 (b.length + (min n 8).toNat))
    (min n 8).toNat ⟨rfl, ⟨.dead 0, by simp [le]⟩, by simp [upd, initTm], rfl, by simp [upd], rfl⟩ (by
      rintro i ⟨tm, σ', bs⟩ hi ⟨h0, ⟨B, hσ⟩, h1, h2, h7, h8⟩
      dsimp only at h0 hσ h1 h2 h7 h8
      subst h0; subst hσ
      generalize hr : exec E godwitref01_U_L0 _ = r
      rw [godwitref01_U_L0] at hr
      by_cases hlt : (i : Int) < min n 8
      · have hn : (i : Int) < n := by omega
        have h8' : (i : Int) < 8 := by omega
        simp (disch := omega) only [go_sem, Nat.reduceEqDiff, Nat.reduceAdd, Nat.reduceSub, Nat.reduceMul, Nat.reduceLeDiff, Nat.reduceLT, Int.reduceLE, Int.reduceLT, Int.reduceEq, reduceCtorEq, decide_true, decide_false, List.append_assoc, List.length_append, Nat.reduceBEq, ne_eq, Option.some.injEq, not_false_eq_true, not_true_eq_false, Int.reduceToNat, Nat.zero_add, Nat.mul_one, Int.toNat_natCast, true_implies, chk_pos, dec_t, dec_f, h1, h2, h7, h8, wrap_i64, rem_byte, quo_byte v i hv, List.length_map, le_length, scV_true] at hr
        subst hr
        exact ⟨_, _, rfl, .inl ⟨rfl, by omega, rfl, ⟨_, by simp [le_succ]; rfl⟩, by simp [upd], by simp [upd, clr, h2], by simp [upd]; omega, by simp [upd]⟩⟩
      · have hi' : i = (min n 8).toNat := by omega
        by_cases hn : (i : Int) < n
        · have h8' : ¬ (i : Int) < 8 := by omega
          simp (disch := omega) only [go_sem, Nat.reduceEqDiff, Nat.reduceAdd, Nat.reduceSub, Nat.reduceMul, Nat.reduceLeDiff, Nat.reduceLT, Int.reduceLE, Int.reduceLT, Int.reduceEq, reduceCtorEq, decide_true, decide_false, List.append_assoc, List.length_append, Nat.reduceBEq, ne_eq, Option.some.injEq, not_false_eq_true, not_true_eq_false, Int.reduceToNat, Nat.zero_add, Nat.mul_one, Int.toNat_natCast, true_implies, chk_pos, dec_t, dec_f, h1, h2, h7, h8, scV_true] at hr
          subst hr
          subst hi'
          exact ⟨_, _, rfl, .inr ⟨by simp, rfl, rfl, ⟨B, rfl⟩, by simp [upd, clr, h7]⟩⟩
        · simp (disch := omega) only [go_sem, Nat.reduceEqDiff, Nat.reduceAdd, Nat.reduceSub, Nat.reduceMul, Nat.reduceLeDiff, Nat.reduceLT, Int.reduceLE, Int.reduceLT, Int.reduceEq, reduceCtorEq, decide_true, decide_false, List.append_assoc, List.length_append, Nat.reduceBEq, ne_eq, Option.some.injEq, not_false_eq_true, not_true_eq_false, Int.reduceToNat, Nat.zero_add, Nat.mul_one, Int.toNat_natCast, true_implies, chk_pos, dec_t, dec_f, h1, h2, h7, h8, scV_true] at hr
          subst hr
          subst hi'
          exact ⟨_, _, rfl, .inr ⟨by simp, rfl, rfl, ⟨B, rfl⟩, by simp [upd, clr, h7]⟩⟩)
  obtain ⟨tm', σ', b'⟩ := s'
  dsimp only at hb' hσ h7
  subst hb'; subst hσ
  clear hL
  simp (disch := omega) only [go_sem, Nat.reduceEqDiff, Nat.reduceAdd, Nat.reduceSub, Nat.reduceMul, Nat.reduceLeDiff, Nat.reduceLT, Int.reduceLE, Int.reduceLT, Int.reduceEq, reduceCtorEq, decide_true, decide_false, List.append_assoc, List.length_append, Nat.reduceBEq, ne_eq, Option.some.injEq, not_false_eq_true, not_true_eq_false, Int.reduceToNat, Nat.zero_add, Nat.mul_one, Int.toNat_natCast, true_implies, chk_pos, dec_t, dec_f, h7, List.length_map, le_length]

theorem List_ok (b l : List UInt8) (hb : b.length ≤ 100000) (hl : l.length ≤ 100000) (σ : Store) : callv E (.fn enc_List [] []) [bsl b, bsl l] σ =
    some (.own σ.length 0 1 0 (b ++ le (min l.length 65535) 2 ++ l.take 65535).length, σ ++ [.arr 0 false 1 ((b ++ le (min l.length 65535) 2 ++ l.take 65535).map abyte)]) := by
  rw [call_fn (E_X _ (by decide)) (E_fn enc_List_c), enc_List_A]
  have hm : (if (65535 : Int) < l.length then (65535 : Int) else l.length) = ((min l.length 65535 : Nat) : Int) := by omega
  have hn : (min (2 : Int) 8).toNat = 2 := by decide
  have ht : (l.map abyte).take (min l.length 65535) = (l.take 65535).map abyte := by
    rw [List.map_take]
    by_cases h : l.length ≤ 65535
    · rw [Nat.min_eq_left h, List.take_of_length_le (by simp), List.take_of_length_le (by simpa using h)]
    · rw [Nat.min_eq_right (by omega)]
  have h2 : (l.take 65535).length ≤ 100000 := by simp; omega
  have h2' : (l.take 65535).length = min 65535 l.length := by simp
  simp (disch := omega) only [go_sem, Nat.reduceEqDiff, Nat.reduceAdd, Nat.reduceSub, Nat.reduceMul, Nat.reduceLeDiff, Nat.reduceLT, Int.reduceLE, Int.reduceLT, Int.reduceEq, reduceCtorEq, decide_true, decide_false, List.append_assoc, List.length_append, Nat.reduceBEq, ne_eq, Option.some.injEq, not_false_eq_true, not_true_eq_false, Int.reduceToNat, Nat.zero_add, Nat.mul_one, Int.toNat_natCast, true_implies, chk_pos, dec_t, dec_f, List.length_map, hm, U_ok, wrap_u64, E_raw, raws, Int.toNat_natCast, Nat.sub_zero, Int.toNat_zero, ht, hn, le_length, h2']
  simp only [List.map_append, List.append_assoc, Nat.add_assoc, Nat.min_comm]

theorem RList_ok (b l : List UInt8) (hb : b.length ≤ 100000) (hl : l.length ≤ 100000) (σ : Store) : callv E (.fn godwitref01_List [] []) [bsl b, bsl l] σ =
    some (.own σ.length 0 1 0 (b ++ le (min l.length 65535) 2 ++ l.take 65535).length, σ ++ [.arr 0 false 1 ((b ++ le (min l.length 65535) 2 ++ l.take 65535).map abyte)]) := by
  rw [call_fn (E_X _ (by decide)) (E_fn godwitref01_List_c), godwitref01_List_A]
  have hm : (if (65535 : Int) < l.length then (65535 : Int) else l.length) = ((min l.length 65535 : Nat) : Int) := by omega
  have hn : (min (2 : Int) 8).toNat = 2 := by decide
  have ht : (l.map abyte).take (min l.length 65535) = (l.take 65535).map abyte := by
    rw [List.map_take]
    by_cases h : l.length ≤ 65535
    · rw [Nat.min_eq_left h, List.take_of_length_le (by simp), List.take_of_length_le (by simpa using h)]
    · rw [Nat.min_eq_right (by omega)]
  have h2 : (l.take 65535).length ≤ 100000 := by simp; omega
  have h2' : (l.take 65535).length = min 65535 l.length := by simp
  simp (disch := omega) only [go_sem, Nat.reduceEqDiff, Nat.reduceAdd, Nat.reduceSub, Nat.reduceMul, Nat.reduceLeDiff, Nat.reduceLT, Int.reduceLE, Int.reduceLT, Int.reduceEq, reduceCtorEq, decide_true, decide_false, List.append_assoc, List.length_append, Nat.reduceBEq, ne_eq, Option.some.injEq, not_false_eq_true, not_true_eq_false, Int.reduceToNat, Nat.zero_add, Nat.mul_one, Int.toNat_natCast, true_implies, chk_pos, dec_t, dec_f, List.length_map, hm, RU_ok, wrap_u64, E_raw, raws, Int.toNat_natCast, Nat.sub_zero, Int.toNat_zero, ht, hn, le_length, h2']
  simp only [List.map_append, List.append_assoc, Nat.add_assoc, Nat.min_comm]

/-! The reader -/
/-- A reader's parts. -/
abbrev rdBox (k : Nat) (B : List UInt8) (p : Nat) (e : Int) : Box := .var 1 [bsl B, aint p, aint e, .fn enc_New_1 [] [.ptr k 1 0, .ptr (k + 2) 1 0]]
structure Rd (σ : Store) (k : Nat) (B : List UInt8) (p : Nat) (e : Int) : Prop where
  b : σ[k]? = some (.var 1 [bsl B])
  r : σ[k + 1]? = some (rdBox k B p e)
  v : σ[k + 2]? = some (.var 1 [.ptr (k + 1) 1 0])
theorem Rd.lt {σ : Store} {k : Nat} {B : List UInt8} {p : Nat} {e : Int} (h : Rd σ k B p e) : k + 2 < σ.length := (List.getElem?_eq_some_iff.1 h.v).1
theorem Rd.set {σ : Store} {k : Nat} {B : List UInt8} {p p' : Nat} {e e' : Int} (h : Rd σ k B p e) : Rd (σ.set (k + 1) (rdBox k B p' e')) k B p' e' := by
  have := h.lt
  exact ⟨by rw [get_outS _ _ _ _ (by omega)]; exact h.b, get_setS _ _ _ (by omega), by rw [get_outS _ _ _ _ (by omega)]; exact h.v⟩
theorem Rd.app {σ : Store} {k : Nat} {B : List UInt8} {p : Nat} {e : Int} (h : Rd σ k B p e) (l : Store) : Rd (σ ++ l) k B p e :=
  ⟨get_out _ _ _ _ h.b, get_out _ _ _ _ h.r, get_out _ _ _ _ h.v⟩
theorem Rd.wf {σ : Store} {k : Nat} {B : List UInt8} {p p' : Nat} {e e' : Int} (h : Rd σ k B p e) : wfL σ.length [bsl B, aint p', aint e', .fn enc_New_1 [] [.ptr k 1 0, .ptr (k + 2) 1 0]] = true := by
  have := h.lt
  simp [wfL, wfV]; omega
theorem Rd.ok {σ : Store} {k : Nat} {B : List UInt8} {p : Nat} {e : Int} (h : Rd σ k B p e) (p' : Nat) (e' : Int) (l : Store) : okTake (σ.set (k + 1) (rdBox k B p' e') ++ l) σ = True := eq_true (okTake_set (h.wf (p' := p') (e' := e')))
theorem Rd.ok0 {σ : Store} {k : Nat} {B : List UInt8} {p : Nat} {e : Int} (h : Rd σ k B p e) (p' : Nat) (e' : Int) : okTake (σ.set (k + 1) (rdBox k B p' e')) σ = True := eq_true (okTake_set0 (h.wf (p' := p') (e' := e')))
theorem Rd.same {σ : Store} {k : Nat} {B : List UInt8} {p : Nat} {e : Int} (h : Rd σ k B p e) : σ.set (k + 1) (rdBox k B p e) = σ := set_same h.r

theorem New_ok (B : List UInt8) (σ : Store) : callv E (.fn enc_New [] []) [bsl B] σ = some (.ptr (σ.length + 1) 1 0, σ ++ [.var 1 [bsl B], rdBox σ.length B 0 0, .var 1 [.ptr (σ.length + 1) 1 0]]) := by
  rw [call_fn (E_X _ (by decide)) (E_fn enc_New_c), enc_New_A]
  simp (disch := omega) only [go_sem, Nat.reduceEqDiff, Nat.reduceAdd, Nat.reduceSub, Nat.reduceMul, Nat.reduceLeDiff, Nat.reduceLT, Int.reduceLE, Int.reduceLT, Int.reduceEq, reduceCtorEq, decide_true, decide_false, List.append_assoc, List.length_append, Nat.reduceBEq, ne_eq, Option.some.injEq, not_false_eq_true, not_true_eq_false, Int.reduceToNat, Nat.zero_add, Nat.mul_one, Int.toNat_natCast, true_implies, chk_pos, dec_t, dec_f, rdBox]
  rfl

theorem Fail_ok {σ : Store} {k : Nat} {B : List UInt8} {p : Nat} {e x : Int} (h : Rd σ k B p e) : callv E (.fn __enc_Reader__Fail [] []) [.ptr (k + 1) 1 0, aint x] σ = some (.tup [], σ.set (k + 1) (rdBox k B p (if e = 0 then x else e))) := by
  rw [call_fn (E_X _ (by decide)) (E_fn __enc_Reader__Fail_c), __enc_Reader__Fail_A]
  have hlt := h.lt
  have hr := h.r
  by_cases he : e = 0
  · subst he
    simp (disch := omega) only [go_sem, Nat.reduceEqDiff, Nat.reduceAdd, Nat.reduceSub, Nat.reduceMul, Nat.reduceLeDiff, Nat.reduceLT, Int.reduceLE, Int.reduceLT, Int.reduceEq, reduceCtorEq, decide_true, decide_false, List.append_assoc, List.length_append, Nat.reduceBEq, ne_eq, Option.some.injEq, not_false_eq_true, not_true_eq_false, Int.reduceToNat, Nat.zero_add, Nat.mul_one, Int.toNat_natCast, true_implies, chk_pos, dec_t, dec_f, hr, scV_true, beq_self_eq_true, rdBox, okTake_set0 (h.wf (p' := p) (e' := x))]
  · simp (disch := omega) only [go_sem, Nat.reduceEqDiff, Nat.reduceAdd, Nat.reduceSub, Nat.reduceMul, Nat.reduceLeDiff, Nat.reduceLT, Int.reduceLE, Int.reduceLT, Int.reduceEq, reduceCtorEq, decide_true, decide_false, List.append_assoc, List.length_append, Nat.reduceBEq, ne_eq, Option.some.injEq, not_false_eq_true, not_true_eq_false, Int.reduceToNat, Nat.zero_add, Nat.mul_one, Int.toNat_natCast, true_implies, chk_pos, dec_t, dec_f, hr, scV_true, beqi_f, he]
    rw [h.same]

/-- What is read next: the error, the bytes, where one is. -/
def nxE (B : List UInt8) (p : Nat) (e : Int) (n : Nat) : Int := if n > B.length - p then (if e = 0 then 2 else e) else e
def nxD (B : List UInt8) (p : Nat) (e : Int) (n : Nat) : List UInt8 := if nxE B p e n = 0 then (B.drop p).take n else []
def nxP (B : List UInt8) (p : Nat) (e : Int) (n : Nat) : Nat := if nxE B p e n = 0 then p + n else p
theorem nxP_le {B : List UInt8} {p n : Nat} {e : Int} (hp : p ≤ B.length) : nxP B p e n ≤ B.length := by
  unfold nxP nxE
  by_cases h : n > B.length - p
  · rw [if_pos h]
    have : ¬ (if e = 0 then (2 : Int) else e) = 0 := by split <;> omega
    rw [if_neg this]; exact hp
  · rw [if_neg h]
    split <;> omega

theorem next_ok {σ : Store} {k : Nat} {B : List UInt8} {p : Nat} {e : Int} (h : Rd σ k B p e) (hp : p ≤ B.length) (hB : B.length ≤ 1000000000) (n : Nat) (hn : n ≤ 1000000) :
    callv E (.fn enc_New_1 [] [.ptr k 1 0, .ptr (k + 2) 1 0]) [aint n] σ = some (bsl (nxD B p e n), σ.set (k + 1) (rdBox k B (nxP B p e n) (nxE B p e n))) := by
  rw [call_fn (E_X _ (by decide)) (E_fn enc_New_1_c), enc_New_1_A]
  have hlt := h.lt
  have hb := h.b
  have hr := h.r
  have hv := h.v
  have hF : ∀ l : Store, callv E (.fn __enc_Reader__Fail [] []) [.ptr (k + 1) 1 0, aint 2] (σ ++ l) = some (.tup [], σ.set (k + 1) (rdBox k B p (if e = 0 then 2 else e)) ++ l) := fun l => by
    rw [Fail_ok (h.app l), List.set_append_left _ _ (by omega)]
  by_cases h1 : n > B.length - p
  · have h1' : (n : Int) > (B.length : Int) - p := by omega
    have he : ¬ (if e = 0 then (2 : Int) else e) = 0 := by split <;> omega
    have e1 : nxE B p e n = if e = 0 then 2 else e := by simp only [nxE]; rw [if_pos h1]
    have e2 : nxD B p e n = [] := by simp only [nxD]; rw [e1, if_neg he]
    have e3 : nxP B p e n = p := by simp only [nxP]; rw [e1, if_neg he]
    rw [e1, e2, e3]
    generalize (if e = 0 then (2 : Int) else e) = e' at hF he ⊢
    simp (disch := omega) only [go_sem, Nat.reduceEqDiff, Nat.reduceAdd, Nat.reduceSub, Nat.reduceMul, Nat.reduceLeDiff, Nat.reduceLT, Int.reduceLE, Int.reduceLT, Int.reduceEq, reduceCtorEq, decide_true, decide_false, List.append_assoc, List.length_append, Nat.reduceBEq, ne_eq, Option.some.injEq, not_false_eq_true, not_true_eq_false, Int.reduceToNat, Nat.zero_add, Nat.mul_one, Int.toNat_natCast, true_implies, chk_pos, dec_t, dec_f, hb, hr, hv, hF, List.getElem?_append_left, List.set_append_left, List.length_set, get_outS, get_setS, get_outL, set_outL, List.set_set, rdBox, wrap_i64, h1', List.length_map, E_raw, raws, bnei_t, okTake_set (h.wf (p' := p) (e' := e'))]
    rfl
  · have h1' : ¬ (n : Int) > (B.length : Int) - p := by omega
    have e1 : nxE B p e n = e := by simp only [nxE]; rw [if_neg h1]
    by_cases he : e = 0
    · subst he
      have e2 : nxD B p 0 n = (B.drop p).take n := by simp only [nxD]; rw [e1, if_pos rfl]
      have e3 : nxP B p 0 n = p + n := by simp only [nxP]; rw [e1, if_pos rfl]
      rw [e1, e2, e3]
      have t1 : ((p : Int) + n - n).toNat = p := by omega
      have t2 : ((p : Int) + n).toNat - p = n := by omega
      have t3 : (p : Int) + n = ((p + n : Nat) : Int) := by omega
      simp (disch := omega) only [go_sem, Nat.reduceEqDiff, Nat.reduceAdd, Nat.reduceSub, Nat.reduceMul, Nat.reduceLeDiff, Nat.reduceLT, Int.reduceLE, Int.reduceLT, Int.reduceEq, reduceCtorEq, decide_true, decide_false, List.append_assoc, List.length_append, Nat.reduceBEq, ne_eq, Option.some.injEq, not_false_eq_true, not_true_eq_false, Int.reduceToNat, Nat.zero_add, Nat.mul_one, Int.toNat_natCast, true_implies, chk_pos, dec_t, dec_f, hb, hr, hv, List.getElem?_append_left, List.set_append_left, List.length_set, get_outS, get_setS, get_outL, set_outL, List.set_set, rdBox, wrap_i64, h1', List.length_map, E_raw, raws, bnei_f, t1, t2]
      rw [t3]
      simp (disch := omega) only [go_sem, Nat.reduceEqDiff, Nat.reduceAdd, Nat.reduceSub, Nat.reduceMul, Nat.reduceLeDiff, Nat.reduceLT, Int.reduceLE, Int.reduceLT, Int.reduceEq, reduceCtorEq, decide_true, decide_false, List.append_assoc, List.length_append, Nat.reduceBEq, ne_eq, Option.some.injEq, not_false_eq_true, not_true_eq_false, Int.reduceToNat, Nat.zero_add, Nat.mul_one, Int.toNat_natCast, true_implies, chk_pos, dec_t, dec_f, okTake_set (h.wf (p' := p + n) (e' := 0)), List.map_take, List.map_drop]
      simp only [bsl, List.map_take, List.map_drop]
    · have e2 : nxD B p e n = [] := by simp only [nxD]; rw [e1, if_neg he]
      have e3 : nxP B p e n = p := by simp only [nxP]; rw [e1, if_neg he]
      rw [e1, e2, e3, h.same]
      simp (disch := omega) only [go_sem, Nat.reduceEqDiff, Nat.reduceAdd, Nat.reduceSub, Nat.reduceMul, Nat.reduceLeDiff, Nat.reduceLT, Int.reduceLE, Int.reduceLT, Int.reduceEq, reduceCtorEq, decide_true, decide_false, List.append_assoc, List.length_append, Nat.reduceBEq, ne_eq, Option.some.injEq, not_false_eq_true, not_true_eq_false, Int.reduceToNat, Nat.zero_add, Nat.mul_one, Int.toNat_natCast, true_implies, chk_pos, dec_t, dec_f, hb, hr, hv, List.getElem?_append_left, List.set_append_left, List.length_set, get_outS, get_setS, get_outL, set_outL, List.set_set, rdBox, wrap_i64, h1', List.length_map, E_raw, raws, bnei_t]
      rfl

/-- The number that bytes are. -/
def num : List UInt8 → Nat
  | [] => 0
  | b :: l => b.toNat + 256 * num l
theorem num_lt : ∀ l : List UInt8, num l < 256 ^ l.length
  | [] => by simp [num]
  | b :: l => by
    have := num_lt l
    have hb := b.toNat_lt
    simp only [num, List.length_cons, Nat.pow_succ]
    omega
theorem num_append : ∀ (l : List UInt8) (b : UInt8), num (l ++ [b]) = num l + b.toNat * 256 ^ l.length
  | [], b => by simp [num]
  | a :: l, b => by
    simp only [List.cons_append, num, num_append l b, List.length_cons, Nat.pow_succ]
    rw [Nat.mul_add, Nat.add_assoc]
    congr 1
    congr 1
    rw [← Nat.mul_assoc, Nat.mul_comm 256 b.toNat, Nat.mul_assoc, Nat.mul_comm 256]

theorem num_lt8 (l : List UInt8) (h : l.length ≤ 8) : num l < 18446744073709551616 := by
  have h1 := num_lt l
  have h3 : 256 ^ l.length ≤ 256 ^ 8 := Nat.pow_le_pow_right (by omega) h
  have h4 : (256 : Nat) ^ 8 = 18446744073709551616 := by decide
  omega
theorem or_byte (l : List UInt8) (b : UInt8) (hl : l.length < 8) : orI 64 (num l : Int) (IntKind.u64.wrap ((b.toNat : Int) * 2 ^ (Int.toNat (8 * (l.length : Int))).min 64)) = num (l ++ [b]) := by
  unfold orI
  have e1 : (Int.toNat (8 * (l.length : Int))).min 64 = 8 * l.length := by
    show min (8 * (l.length : Int)).toNat 64 = 8 * l.length
    omega
  have e2 : (2 : Int) ^ (8 * l.length) = ((256 ^ l.length : Nat) : Int) := by
    rw [Int.pow_mul]; norm_cast
  have e2' : (2 : Nat) ^ (8 * l.length) = 256 ^ l.length := by rw [Nat.pow_mul]
  have hlt := num_lt l
  have hlt2 := num_lt (l ++ [b])
  rw [num_append] at hlt2
  have h8 : 256 ^ (l ++ [b]).length ≤ 256 ^ 8 := Nat.pow_le_pow_right (by omega) (by simp; omega)
  have h8' : (256 : Nat) ^ 8 = 18446744073709551616 := by decide
  rw [e1, e2]
  have e3 : (b.toNat : Int) * ((256 ^ l.length : Nat) : Int) = ((b.toNat * 256 ^ l.length : Nat) : Int) := (Int.natCast_mul ..).symm
  rw [e3, num_append]
  have hor : num l ||| b.toNat * 256 ^ l.length = num l + b.toNat * 256 ^ l.length := by
    have h := Nat.shiftLeft_add_eq_or_of_lt (i := 8 * l.length) (b := num l) (by rw [e2']; exact hlt) b.toNat
    rw [Nat.shiftLeft_eq, e2', Nat.or_comm] at h
    omega
  generalize b.toNat * 256 ^ l.length = y at hlt2 hor ⊢
  generalize num l = x at hlt hlt2 hor ⊢
  rw [wrap_u64 (n := (y : Int)) (by omega)]
  have o1 : (BitVec.ofInt 64 (x : Int)).toNat = x := by simp; omega
  have o2 : (BitVec.ofInt 64 (y : Int)).toNat = y := by simp; omega
  rw [BitVec.toNat_or, o1, o2, hor]

theorem take_succ_byte (l : List UInt8) (i : Nat) (h : i < l.length) : l.take (i + 1) = l.take i ++ [l[i]] := (List.take_append_getElem h).symm

/-- What U answers. -/
def uE (B : List UInt8) (p : Nat) (e : Int) (n : Int) : Int := if n < 1 ∨ n > 8 then (if e = 0 then 1 else e) else nxE B p e n.toNat
def uD (B : List UInt8) (p : Nat) (e : Int) (n : Int) : Nat := if n < 1 ∨ n > 8 then 0 else num (nxD B p e n.toNat)
def uP (B : List UInt8) (p : Nat) (e : Int) (n : Int) : Nat := if n < 1 ∨ n > 8 then p else nxP B p e n.toNat

theorem nxD_length {B : List UInt8} {p n : Nat} {e : Int} : (nxD B p e n).length ≤ n := by
  unfold nxD
  split
  · simp; omega
  · simp

theorem RdU_ok {σ : Store} {k : Nat} {B : List UInt8} {p : Nat} {e : Int} (h : Rd σ k B p e) (hp : p ≤ B.length) (hB : B.length ≤ 1000000000) (n : Int) :
    callv E (.fn __enc_Reader__U [] []) [.ptr (k + 1) 1 0, aint n] σ = some (.atom (.int .u64 (uD B p e n)), σ.set (k + 1) (rdBox k B (uP B p e n) (uE B p e n))) := by
  rw [call_fn (E_X _ (by decide)) (E_fn __enc_Reader__U_c), __enc_Reader__U_A]
  have hlt := h.lt
  have hr := h.r
  by_cases hn : n < 1 ∨ n > 8
  · have e1 : uE B p e n = if e = 0 then 1 else e := by simp only [uE]; rw [if_pos hn]
    have e2 : uD B p e n = 0 := by simp only [uD]; rw [if_pos hn]
    have e3 : uP B p e n = p := by simp only [uP]; rw [if_pos hn]
    have hF : ∀ l : Store, callv E (.fn __enc_Reader__Fail [] []) [.ptr (k + 1) 1 0, aint 1] (σ ++ l) = some (.tup [], σ.set (k + 1) (rdBox k B p (if e = 0 then 1 else e)) ++ l) := fun l => by
      rw [Fail_ok (h.app l), List.set_append_left _ _ (by omega)]
    rw [e1, e2, e3]
    generalize (if e = 0 then (1 : Int) else e) = e' at hF ⊢
    by_cases h1 : n < 1
    · simp (disch := omega) only [go_sem, Nat.reduceEqDiff, Nat.reduceAdd, Nat.reduceSub, Nat.reduceMul, Nat.reduceLeDiff, Nat.reduceLT, Int.reduceLE, Int.reduceLT, Int.reduceEq, reduceCtorEq, decide_true, decide_false, List.append_assoc, List.length_append, Nat.reduceBEq, ne_eq, Option.some.injEq, not_false_eq_true, not_true_eq_false, Int.reduceToNat, Nat.zero_add, Nat.mul_one, Int.toNat_natCast, true_implies, chk_pos, dec_t, dec_f, hr, hF, List.getElem?_append_left, List.set_append_left, List.length_set, get_outS, get_setS, get_outL, set_outL, List.set_set, E_raw, raws, scV_false, okTake_set (h.wf (p' := p) (e' := e'))]
      rfl
    · have h2 : n > 8 := by omega
      simp (disch := omega) only [go_sem, Nat.reduceEqDiff, Nat.reduceAdd, Nat.reduceSub, Nat.reduceMul, Nat.reduceLeDiff, Nat.reduceLT, Int.reduceLE, Int.reduceLT, Int.reduceEq, reduceCtorEq, decide_true, decide_false, List.append_assoc, List.length_append, Nat.reduceBEq, ne_eq, Option.some.injEq, not_false_eq_true, not_true_eq_false, Int.reduceToNat, Nat.zero_add, Nat.mul_one, Int.toNat_natCast, true_implies, chk_pos, dec_t, dec_f, hr, hF, List.getElem?_append_left, List.set_append_left, List.length_set, get_outS, get_setS, get_outL, set_outL, List.set_set, E_raw, raws, scV_false, okTake_set (h.wf (p' := p) (e' := e'))]
      rfl
  · have h1 : ¬ n < 1 := by omega
    have h2 : ¬ n > 8 := by omega
    obtain ⟨m, rfl⟩ := Int.eq_ofNat_of_zero_le (show 0 ≤ n by omega)
    have e1 : uE B p e m = nxE B p e m := by simp only [uE]; rw [if_neg hn]; rfl
    have e2 : uD B p e m = num (nxD B p e m) := by simp only [uD]; rw [if_neg hn]; rfl
    have e3 : uP B p e m = nxP B p e m := by simp only [uP]; rw [if_neg hn]; rfl
    have hN : ∀ l : Store, callv E (.fn enc_New_1 [] [.ptr k 1 0, .ptr (k + 2) 1 0]) [aint m] (σ ++ l) = some (bsl (nxD B p e m), σ.set (k + 1) (rdBox k B (nxP B p e m) (nxE B p e m)) ++ l) := fun l => by
      rw [next_ok (h.app l) hp hB m (by omega), List.set_append_left _ _ (by omega)]
    have hDl := nxD_length (B := B) (p := p) (n := m) (e := e)
    rw [e1, e2, e3]
    generalize nxP B p e m = p' at hN ⊢
    generalize nxE B p e m = e' at hN ⊢
    generalize nxD B p e m = D at hN hDl ⊢
    simp (disch := omega) only [go_sem, Nat.reduceEqDiff, Nat.reduceAdd, Nat.reduceSub, Nat.reduceMul, Nat.reduceLeDiff, Nat.reduceLT, Int.reduceLE, Int.reduceLT, Int.reduceEq, reduceCtorEq, decide_true, decide_false, List.append_assoc, List.length_append, Nat.reduceBEq, ne_eq, Option.some.injEq, not_false_eq_true, not_true_eq_false, Int.reduceToNat, Nat.zero_add, Nat.mul_one, Int.toNat_natCast, true_implies, chk_pos, dec_t, dec_f, hr, hN, List.getElem?_append_left, List.set_append_left, List.length_set, get_outS, get_setS, get_outL, set_outL, List.set_set, E_raw, raws, scV_false, rdBox, List.length_map]
    generalize hL : exec E (.loop __enc_Reader__U_L0) _ = res
    obtain ⟨x, s', rfl, rfl, hb', hσ, h5⟩ := loop_inv hL
      (fun i s => s.base = σ.length ∧ s.σ = σ.set (k + 1) (rdBox k B p' e') ++ [.dead 0, .dead 0] ∧ s.tm 5 = .atom (.int .u64 (num (D.take i))) ∧ s.tm 25 = bsl D ∧ s.tm 26 = aint D.length ∧ s.tm 27 = aint i)
      (fun x s => x = .exit 1 ∧ s.base = σ.length ∧ s.σ = σ.set (k + 1) (rdBox k B p' e') ++ [.dead 0, .dead 0] ∧ s.tm 5 = .atom (.int .u64 (num D)))
      D.length ⟨rfl, rfl, rfl, rfl, rfl, rfl⟩ (by
        rintro i ⟨tm, σ', bs⟩ hi ⟨h0, hσ, h5, h25, h26, h27⟩
        dsimp only at h0 hσ h5 h25 h26 h27
        subst h0; subst hσ
        generalize hr : exec E __enc_Reader__U_L0 _ = r
        rw [__enc_Reader__U_L0] at hr
        by_cases hlt : i < D.length
        · have hob := or_byte (D.take i) D[i] (by simp; omega)
          have htl : (D.take i).length = i := by simp; omega
          rw [htl, ← take_succ_byte D i hlt] at hob
          have hbl := D[i].toNat_lt
          have hnl := num_lt8 (D.take (i + 1)) (by simp; omega)
          simp (disch := omega) only [go_sem, Nat.reduceEqDiff, Nat.reduceAdd, Nat.reduceSub, Nat.reduceMul, Nat.reduceLeDiff, Nat.reduceLT, Int.reduceLE, Int.reduceLT, Int.reduceEq, reduceCtorEq, decide_true, decide_false, List.append_assoc, List.length_append, Nat.reduceBEq, ne_eq, Option.some.injEq, not_false_eq_true, not_true_eq_false, Int.reduceToNat, Nat.zero_add, Nat.mul_one, Int.toNat_natCast, true_implies, chk_pos, dec_t, dec_f, h5, h25, h26, h27, wrap_i64, List.length_map, List.getElem?_map, Int.toNat_natCast, List.getElem?_eq_getElem, wrap_u64, hob] at hr
          subst hr
          exact ⟨_, _, rfl, .inl ⟨rfl, hlt, rfl, rfl, by simp [upd], by simp [upd, h25], by simp [upd, h26], by simp [upd]⟩⟩
        · simp (disch := omega) only [go_sem, Nat.reduceEqDiff, Nat.reduceAdd, Nat.reduceSub, Nat.reduceMul, Nat.reduceLeDiff, Nat.reduceLT, Int.reduceLE, Int.reduceLT, Int.reduceEq, reduceCtorEq, decide_true, decide_false, List.append_assoc, List.length_append, Nat.reduceBEq, ne_eq, Option.some.injEq, not_false_eq_true, not_true_eq_false, Int.reduceToNat, Nat.zero_add, Nat.mul_one, Int.toNat_natCast, true_implies, chk_pos, dec_t, dec_f, h5, h25, h26, h27] at hr
          subst hr
          have : i = D.length := by omega
          subst this
          exact ⟨_, _, rfl, .inr ⟨by simp, rfl, rfl, rfl, by simpa [upd] using h5⟩⟩)
    obtain ⟨tm', σ', b'⟩ := s'
    dsimp only at hb' hσ h5
    subst hb'; subst hσ
    clear hL
    simp (disch := omega) only [go_sem, Nat.reduceEqDiff, Nat.reduceAdd, Nat.reduceSub, Nat.reduceMul, Nat.reduceLeDiff, Nat.reduceLT, Int.reduceLE, Int.reduceLT, Int.reduceEq, reduceCtorEq, decide_true, decide_false, List.append_assoc, List.length_append, Nat.reduceBEq, ne_eq, Option.some.injEq, not_false_eq_true, not_true_eq_false, Int.reduceToNat, Nat.zero_add, Nat.mul_one, Int.toNat_natCast, true_implies, chk_pos, dec_t, dec_f, h5, okTake_set (h.wf (p' := p') (e' := e'))]

/-- What Flag answers: an error more. -/
def flE (B : List UInt8) (p : Nat) (e : Int) : Int := if uD B p e 1 > 1 then (if uE B p e 1 = 0 then 3 else uE B p e 1) else uE B p e 1
theorem uP_le {B : List UInt8} {p : Nat} {e n : Int} (hp : p ≤ B.length) : uP B p e n ≤ B.length := by
  unfold uP
  split
  · exact hp
  · exact nxP_le hp
theorem uD_lt {B : List UInt8} {p : Nat} {e n : Int} : uD B p e n < 18446744073709551616 := by
  unfold uD
  split
  · omega
  · rename_i h
    have h1 := num_lt (nxD B p e n.toNat)
    have h2 := nxD_length (B := B) (p := p) (n := n.toNat) (e := e)
    have h3 : 256 ^ (nxD B p e n.toNat).length ≤ 256 ^ 8 := Nat.pow_le_pow_right (by omega) (by omega)
    have h4 : (256 : Nat) ^ 8 = 18446744073709551616 := by decide
    omega

theorem RdFlag_ok {σ : Store} {k : Nat} {B : List UInt8} {p : Nat} {e : Int} (h : Rd σ k B p e) (hp : p ≤ B.length) (hB : B.length ≤ 1000000000) :
    callv E (.fn __enc_Reader__Flag [] []) [.ptr (k + 1) 1 0] σ = some (abool (decide (uD B p e 1 = 1)), σ.set (k + 1) (rdBox k B (uP B p e 1) (flE B p e))) := by
  rw [call_fn (E_X _ (by decide)) (E_fn __enc_Reader__Flag_c), __enc_Reader__Flag_A]
  have hlt := h.lt
  have hU : ∀ l : Store, callv E (.fn __enc_Reader__U [] []) [.ptr (k + 1) 1 0, aint 1] (σ ++ l) = some (.atom (.int .u64 (uD B p e 1)), σ.set (k + 1) (rdBox k B (uP B p e 1) (uE B p e 1)) ++ l) := fun l => by
    rw [RdU_ok (h.app l) hp hB, List.set_append_left _ _ (by omega)]
  have hF : ∀ (l : Store) (x : Int), callv E (.fn __enc_Reader__Fail [] []) [.ptr (k + 1) 1 0, aint x] (σ.set (k + 1) (rdBox k B (uP B p e 1) (uE B p e 1)) ++ l) = some (.tup [], σ.set (k + 1) (rdBox k B (uP B p e 1) (if uE B p e 1 = 0 then x else uE B p e 1)) ++ l) := fun l x => by
    rw [Fail_ok ((h.set (p' := uP B p e 1) (e' := uE B p e 1)).app l), set_outL _ _ _ _ _ _ (by omega), List.set_set]
  unfold flE
  by_cases h1 : uD B p e 1 > 1
  · have h1' : (uD B p e 1 : Int) > 1 := by omega
    rw [if_pos h1]
    have hb : ((uD B p e 1 : Int) == 1) = decide (uD B p e 1 = 1) := by
      rw [beqi_f (by omega), dec_f (by omega)]
    simp (disch := omega) only [go_sem, Nat.reduceEqDiff, Nat.reduceAdd, Nat.reduceSub, Nat.reduceMul, Nat.reduceLeDiff, Nat.reduceLT, Int.reduceLE, Int.reduceLT, Int.reduceEq, reduceCtorEq, decide_true, decide_false, List.append_assoc, List.length_append, Nat.reduceBEq, ne_eq, Option.some.injEq, not_false_eq_true, not_true_eq_false, Int.reduceToNat, Nat.zero_add, Nat.mul_one, Int.toNat_natCast, true_implies, chk_pos, dec_t, dec_f, hU, hF, E_raw, raws, hb, h.ok]
  · rw [if_neg h1]
    have h1' : ¬ (uD B p e 1 : Int) > 1 := by omega
    have hb : ((uD B p e 1 : Int) == 1) = decide (uD B p e 1 = 1) := by
      by_cases h2 : uD B p e 1 = 1
      · rw [h2]; rfl
      · rw [beqi_f (by omega), dec_f h2]
    simp (disch := omega) only [go_sem, Nat.reduceEqDiff, Nat.reduceAdd, Nat.reduceSub, Nat.reduceMul, Nat.reduceLeDiff, Nat.reduceLT, Int.reduceLE, Int.reduceLT, Int.reduceEq, reduceCtorEq, decide_true, decide_false, List.append_assoc, List.length_append, Nat.reduceBEq, ne_eq, Option.some.injEq, not_false_eq_true, not_true_eq_false, Int.reduceToNat, Nat.zero_add, Nat.mul_one, Int.toNat_natCast, true_implies, chk_pos, dec_t, dec_f, hU, hF, E_raw, raws, hb, h.ok]

/-- What List answers. -/
def liE (B : List UInt8) (p : Nat) (e : Int) (most : Int) : Int := if (uD B p e 2 : Int) > most then (if uE B p e 2 = 0 then 5 else uE B p e 2) else uE B p e 2
theorem RdList_ok {σ : Store} {k : Nat} {B : List UInt8} {p : Nat} {e : Int} (h : Rd σ k B p e) (hp : p ≤ B.length) (hB : B.length ≤ 1000000000) (most : Int) :
    callv E (.fn __enc_Reader__List [] []) [.ptr (k + 1) 1 0, aint most] σ =
      some (bsl (nxD B (uP B p e 2) (liE B p e most) (uD B p e 2)), σ.set (k + 1) (rdBox k B (nxP B (uP B p e 2) (liE B p e most) (uD B p e 2)) (nxE B (uP B p e 2) (liE B p e most) (uD B p e 2)))) := by
  rw [call_fn (E_X _ (by decide)) (E_fn __enc_Reader__List_c), __enc_Reader__List_A]
  have hlt := h.lt
  have hp' : uP B p e 2 ≤ B.length := uP_le hp
  have hd : uD B p e 2 < 65536 := by
    unfold uD
    rw [if_neg (by omega)]
    have h1 := num_lt (nxD B p e (Int.toNat 2))
    have h2 := nxD_length (B := B) (p := p) (n := Int.toNat 2) (e := e)
    have h3 : 256 ^ (nxD B p e (Int.toNat 2)).length ≤ 256 ^ 2 := Nat.pow_le_pow_right (by omega) (by simpa using h2)
    omega
  have hU : ∀ l : Store, callv E (.fn __enc_Reader__U [] []) [.ptr (k + 1) 1 0, aint 2] (σ ++ l) = some (.atom (.int .u64 (uD B p e 2)), σ.set (k + 1) (rdBox k B (uP B p e 2) (uE B p e 2)) ++ l) := fun l => by
    rw [RdU_ok (h.app l) hp hB, List.set_append_left _ _ (by omega)]
  have hF : ∀ (l : Store) (x : Int), callv E (.fn __enc_Reader__Fail [] []) [.ptr (k + 1) 1 0, aint x] (σ.set (k + 1) (rdBox k B (uP B p e 2) (uE B p e 2)) ++ l) = some (.tup [], σ.set (k + 1) (rdBox k B (uP B p e 2) (if uE B p e 2 = 0 then x else uE B p e 2)) ++ l) := fun l x => by
    rw [Fail_ok ((h.set (p' := uP B p e 2) (e' := uE B p e 2)).app l), set_outL _ _ _ _ _ _ (by omega), List.set_set]
  have hN : ∀ (l : Store) (e' : Int), callv E (.fn enc_New_1 [] [.ptr k 1 0, .ptr (k + 2) 1 0]) [aint (uD B p e 2)] (σ.set (k + 1) (rdBox k B (uP B p e 2) e') ++ l) = some (bsl (nxD B (uP B p e 2) e' (uD B p e 2)), σ.set (k + 1) (rdBox k B (nxP B (uP B p e 2) e' (uD B p e 2)) (nxE B (uP B p e 2) e' (uD B p e 2))) ++ l) := fun l e' => by
    rw [next_ok ((h.set (p' := uP B p e 2) (e' := e')).app l) hp' hB _ (by omega), set_outL _ _ _ _ _ _ (by omega), List.set_set]
  have hC : ∀ (l : Store) (D : List UInt8), D.length ≤ 65536 → callv E (.fn bytes_Clone [] []) [bsl D] l = some (.own l.length 0 1 0 D.length, l ++ [.arr 0 false 1 (D.map abyte)]) := fun l D hD => Clone_ok D (by rw [max_room]; omega) l
  unfold liE
  have hDl := fun e' => nxD_length (B := B) (p := uP B p e 2) (n := uD B p e 2) (e := e')
  by_cases h1 : (uD B p e 2 : Int) > most
  · rw [if_pos h1]
    have hDl' := hDl (if uE B p e 2 = 0 then 5 else uE B p e 2)
    simp (disch := omega) only [go_sem, Nat.reduceEqDiff, Nat.reduceAdd, Nat.reduceSub, Nat.reduceMul, Nat.reduceLeDiff, Nat.reduceLT, Int.reduceLE, Int.reduceLT, Int.reduceEq, reduceCtorEq, decide_true, decide_false, List.append_assoc, List.length_append, Nat.reduceBEq, ne_eq, Option.some.injEq, not_false_eq_true, not_true_eq_false, Int.reduceToNat, Nat.zero_add, Nat.mul_one, Int.toNat_natCast, true_implies, chk_pos, dec_t, dec_f, hU, hF, hN, hC, E_raw, raws, wrap_i64, List.getElem?_append_left, List.set_append_left, List.length_set, get_outS, get_setS, get_outL, set_outL, List.set_set, List.length_map, h.ok]
  · rw [if_neg h1]
    have hDl' := hDl (uE B p e 2)
    simp (disch := omega) only [go_sem, Nat.reduceEqDiff, Nat.reduceAdd, Nat.reduceSub, Nat.reduceMul, Nat.reduceLeDiff, Nat.reduceLT, Int.reduceLE, Int.reduceLT, Int.reduceEq, reduceCtorEq, decide_true, decide_false, List.append_assoc, List.length_append, Nat.reduceBEq, ne_eq, Option.some.injEq, not_false_eq_true, not_true_eq_false, Int.reduceToNat, Nat.zero_add, Nat.mul_one, Int.toNat_natCast, true_implies, chk_pos, dec_t, dec_f, hU, hF, hN, hC, E_raw, raws, wrap_i64, List.getElem?_append_left, List.set_append_left, List.length_set, get_outS, get_setS, get_outL, set_outL, List.set_set, List.length_map, h.ok]
end Go.Proofs.Ytmbleldjdhkkeaa.Fn
