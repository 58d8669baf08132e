/- Each operation that changes nothing comes to what the abstract machine says. -/
import Derived.Test.YtmbleldjdhkkeaaFwS
set_option linter.unusedSimpArgs false
set_option linter.unusedVariables false
namespace Go.Abs
open Go.RowKit
variable {P : Program} {wr : FuncId → Bool} {c : Ctx} {w : World} {G : Nat → Option (List AVal)} {s : AState} {a : Act}

/-- It comes to a value, in the same world. -/
def Yld (P : Program) (c : Ctx) (w : World) (x : Sem Next) (v : AVal) : Prop := ∃ u, x.run P w = .ok (.value u) w ∧ SimV c w v u

theorem Yld.v {x : Sem Value} {u : Value} {v : AVal} (h : x.run P w = .ok u w) (hs : SimV c w v u) : Yld P c w (do pure (.value (← x))) v :=
  ⟨u, by rw [Sem.run_bind, h, Result.andThen_ok]; rfl, hs⟩

theorem sim_int {v : Value} {k : IntKind} {n : Int} (h : SimV c w (.atom (.int k n)) v) : v = .int k n := by simp only [SimV] at h; exact h.1
theorem sim_bool {v : Value} {b : Bool} (h : SimV c w (.atom (.bool b)) v) : v = .bool b := by simp only [SimV] at h; exact h.1
theorem sim_atom {v x : Value} (h : SimV c w (.atom x) v) : v = x ∧ atomV x = true := by simpa only [SimV] using h
theorem sim_mk {x : Value} (h : atomV x = true) : SimV c w (.atom x) x := by simp only [SimV]; exact ⟨trivial, h⟩
theorem idx_sim {x : AVal} {v : Value} {n : Int} (h : SimV c w x v) (hi : idx x = some n) : ∃ k, v = .int k n := by
  unfold idx at hi
  split at hi
  · rename_i k m
    injection hi with hi; subst hi
    exact ⟨k, sim_int h⟩
  · cases hi

/-! Operators -/
theorem abin_run {op : BinOp} {x y r : Value} {t : TypeId} (h : abin op x y = some r) (w : World) : (binOp op t x y).run P w = .ok r w ∧ atomV r = true := by
  unfold abin at h
  split at h
  · rename_i k a k' b
    split at h
    · rw [chk_some] at h
      obtain ⟨hb, h⟩ := h
      injection h with h; subst h
      simp only [binOp, Op.shift]
      rw [if_neg (by omega)]
      exact ⟨rfl, rfl⟩
    · rw [chk_some] at h
      obtain ⟨hb, h⟩ := h
      injection h with h; subst h
      simp only [binOp, Op.shift]
      rw [if_neg (by omega)]
      exact ⟨rfl, rfl⟩
    · rename_i h1 h2
      split at h
      · rename_i hk; subst hk
        cases op <;> simp only [chk_some] at h <;> first
          | (injection h with h; subst h; constructor <;> simp [binOp, Op.intArith, Op.intCmp, Op.intBits, atomV, Sem.run_pure]; done)
          | (obtain ⟨hb, h⟩ := h; injection h with h; subst h; constructor <;> simp [binOp, Op.intDiv, atomV, hb, Sem.run_pure]; done)
          | (cases h; done)
          | exact absurd rfl h1
          | exact absurd rfl h2
      · cases h
  · rename_i a b
    cases op <;> simp only at h <;> first
      | (injection h with h; subst h; constructor <;> simp [binOp, Op.stringOp, atomV, Sem.run_pure]; done)
      | (cases h; done)
  · cases h

theorem eqGuard_atom {op : BinOp} {t : TypeId} {x y : Operand} {u v : Value} (h : ∀ cs, u ≠ .agg cs) (h' : u = .nilIface → ∃ z, y = .const z) (w : World) : (eqGuard op t x y u v).run P w = .ok () w := by
  have hc := h'
  cases op <;> first
    | rfl
    | (cases u <;> first
      | exact absurd rfl (h _)
      | rfl
      | (obtain ⟨z, rfl⟩ := hc rfl
         cases v <;> first | rfl | (simp [eqGuard]; done)))

theorem equalIn_bool {t : TypeId} (hu : P.underlying t = some .bool) (d : Nat) (a b : Bool) (w : World) : (Op.equalIn (d + 1) t (.bool a) (.bool b)).run P w = .ok (a == b) w := by
  rw [Op.equalIn]
  simp only [Sem.run_bind, run_underlying hu, Result.andThen_ok]
  rfl
theorem equal_bool {t : TypeId} (hu : P.underlying t = some .bool) (a b : Bool) (w : World) : (Op.equal t (.bool a) (.bool b)).run P w = .ok (a == b) w :=
  equalIn_bool hu 9999 a b w

/-- Is it nil? -/
def nilAns : TypeDesc → Value → Value → Option Bool
  | .pointer _, .pointer p, .pointer none => some p.isNone
  | .slice _, .slice p _ _, .slice none _ _ => some p.isNone
  | .map _ _, .map p, .map none => some p.isNone
  | .func .., .nilFunc, .nilFunc => some true
  | .func .., .func .., .nilFunc => some false
  | .interface _, .nilIface, .nilIface => some true
  | .interface _, .iface .., .nilIface => some false
  | _, _, _ => none
theorem equalIn_nil {t : TypeId} {d : TypeDesc} (hu : P.underlying t = some d) (n : Nat) {u z : Value} {b : Bool} (w : World) (h : nilAns d u z = some b) : (Op.equalIn (n + 1) t u z).run P w = .ok b w := by
  rw [Op.equalIn]
  simp only [Sem.run_bind, run_underlying hu, Result.andThen_ok]
  cases d <;> cases u <;> first
    | (simp only [nilAns] at h; cases h; done)
    | (cases z <;> first
      | (simp only [nilAns] at h; cases h; done)
      | (simp only [nilAns] at h; injection h with h; subst h; rfl)
      | (rename_i p q; cases q <;> first
          | (simp only [nilAns] at h; cases h; done)
          | (cases p <;> simp only [nilAns] at h <;> injection h with h <;> subst h <;> rfl))
      | (rename_i p l1 c1 q l2 c2; cases q <;> first
          | (simp only [nilAns] at h; cases h; done)
          | (cases p <;> simp only [nilAns] at h <;> injection h with h <;> subst h <;> rfl)))

theorem binOp_eql {t : TypeId} {u z : Value} {b : Bool} (h : (Op.equal t u z).run P w = .ok b w) (hi : ∀ k n, u ≠ .int k n) (hf : ∀ k n, u ≠ .float k n) (hc : ∀ k n m, u ≠ .complex k n m) (hs : ∀ x, u ≠ .string x) :
    (binOp .eql t u z).run P w = .ok (.bool b) w ∧ (binOp .neq t u z).run P w = .ok (.bool !b) w := by
  cases u <;> first
    | exact absurd rfl (hi _ _)
    | exact absurd rfl (hf _ _)
    | exact absurd rfl (hc _ _ _)
    | exact absurd rfl (hs _)
    | (constructor <;> simp only [binOp, Sem.run_bind, h, Result.andThen_ok] <;> rfl)
end Go.Abs
