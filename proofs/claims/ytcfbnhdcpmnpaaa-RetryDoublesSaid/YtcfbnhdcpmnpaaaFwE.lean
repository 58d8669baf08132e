/- Equations by which a call of the abstract machine is reckoned: a set of simp's own ('go_sem'). -/
import Derived.Test.YtcfbnhdcpmnpaaaFwL
import Derived.Test.YtcfbnhdcpmnpaaaFwC
set_option linter.unusedSimpArgs false
set_option linter.unusedVariables false
namespace Go.Abs
variable {E : Env}

theorem chk_pos {α : Type} {c : Prop} [Decidable c] (h : c) (x : Option α) : chk c x = x := if_pos h
theorem chk_neg {α : Type} {c : Prop} [Decidable c] (h : ¬ c) (x : Option α) : chk c x = none := if_neg h
@[go_sem] theorem chk_true {α : Type} [Decidable True] (x : Option α) : chk True x = x := if_pos trivial
@[go_sem] theorem chk_false {α : Type} [Decidable False] (x : Option α) : chk False x = none := if_neg id

/-- What a call makes of its body's end. -/
noncomputable def leave (A : AFun) (σ : Store) : Option (AExit × AState) → Option (AVal × Store)
  | some (.normal, s) => (resAll s A.res).bind fun r => finish A.mode σ (resVal r) s.σ
  | some (.ret, s) => (resAll s A.res).bind fun r => finish A.mode σ (resVal r) s.σ
  | _ => none
@[go_sem] theorem leave_normal (c : ACode) (res : List ARes) (nb : Nat) (mode : AMode) (σ : Store) (s : AState) :
    leave ⟨c, res, nb, mode⟩ σ (some (.normal, s)) = (resAll s res).bind fun r => finish mode σ (resVal r) s.σ := rfl
@[go_sem] theorem leave_ret (c : ACode) (res : List ARes) (nb : Nat) (mode : AMode) (σ : Store) (s : AState) :
    leave ⟨c, res, nb, mode⟩ σ (some (.ret, s)) = (resAll s res).bind fun r => finish mode σ (resVal r) s.σ := rfl

theorem call_fn {f : FuncId} {first cap args : List AVal} {σ : Store} {A : AFun} (hX : E.X f = none) (hA : E.fns f = some A) :
    callv E (.fn f first cap) args σ = leave A σ (exec E A.body { tm := initTm (first ++ args ++ cap), σ := σ ++ List.replicate A.nb (.dead 0), base := σ.length }) := by
  rw [callv_eq]
  simp only [callF, hX, hA]
  rfl

@[go_sem] theorem upd_apply (f : Nat → AVal) (i j : Nat) (v : AVal) : upd f i v j = if j = i then v else f j := rfl

theorem get_loc (σ l : Store) (i : Nat) : (σ ++ l)[σ.length + i]? = l[i]? := by
  rw [List.getElem?_append_right (by omega), Nat.add_sub_cancel_left]
theorem get_loc0 (σ l : Store) : (σ ++ l)[σ.length]? = l[0]? := get_loc σ l 0
theorem set_loc (σ l : Store) (i : Nat) (b : Box) : (σ ++ l).set (σ.length + i) b = σ ++ l.set i b := by
  rw [List.set_append_right _ _ (by omega), Nat.add_sub_cancel_left]
theorem set_loc0 (σ l : Store) (b : Box) : (σ ++ l).set σ.length b = σ ++ l.set 0 b := set_loc σ l 0 b
attribute [go_sem] get_loc get_loc0 set_loc set_loc0 Nat.add_zero
/-- A box of the caller's. -/
theorem get_out (σ l : Store) (i : Nat) (B : Box) (h : σ[i]? = some B) : (σ ++ l)[i]? = some B := by
  rw [List.getElem?_append_left (List.getElem?_eq_some_iff.1 h).1]; exact h
theorem set_out (σ l : Store) (i : Nat) (b : Box) (h : i < σ.length) : (σ ++ l).set i b = σ.set i b ++ l := List.set_append_left _ _ h

@[go_sem] theorem okTake_append (σ l : Store) : okTake (σ ++ l) σ := by
  intro i B h hi
  rw [List.getElem?_append_left hi] at h
  exact .inl h
@[go_sem] theorem okTake_refl (σ : Store) : okTake σ σ := fun _ _ h _ => .inl h
@[go_sem] theorem take_loc (σ l : Store) : (σ ++ l).take σ.length = σ := List.take_left
@[go_sem] theorem lt_self_add (n k : Nat) : (n + k < n) = False := by simp
@[go_sem] theorem lt_self (n : Nat) : (n < n) = False := by simp

section
variable (G : Nat → Option (List AVal)) (c : CallF) (raw : FuncId → Bool)
noncomputable def stepK (d : Option Nat) (op : AOp) (fl : Bool) (av : List Nat) (r : GOps) (s : AState) : Option (AVal × Store) → Option AState
  | some (v, σ) => @chk _ (flagOk G s op fl av σ) (Classical.propDecidable _) (runG G c raw r ({ s with σ := σ }.put d v))
  | none => none
theorem stepK_none (d : Option Nat) (op : AOp) (fl : Bool) (av : List Nat) (r : GOps) (s : AState) : stepK G c raw d op fl av r s none = none := rfl
theorem stepK_some (d : Option Nat) (op : AOp) (fl : Bool) (av : List Nat) (r : GOps) (s : AState) (v : AVal) (σ : Store) :
    stepK G c raw d op fl av r s (some (v, σ)) = @chk _ (flagOk G s op fl av σ) (Classical.propDecidable _) (runG G c raw r ({ s with σ := σ }.put d v)) := rfl
theorem runG_one' (d : Option Nat) (op : AOp) (fl : Bool) (av : List Nat) (r : GOps) (s : AState) :
    runG G c raw (.one d op fl av r) s = stepK G c raw d op fl av r s (stepOp G c raw s op) := by
  conv => lhs; unfold runG stepF
  cases h : stepOp G c raw s op with
  | none => rfl
  | some x =>
    obtain ⟨v, σ⟩ := x
    simp only [stepK, Option.bind_some, chk]
    split
    · simp only [Option.bind_some]
    · simp only [Option.bind_none]
def runK (d : Option Nat) (s : AState) (k : AState → Option AState) : Option (AVal × Store) → Option AState
  | some (v, σ) => k ({ s with σ := σ }.put d v)
  | none => none
@[go_sem] theorem runG_nil (s : AState) : runG G c raw .nil s = some s := rfl
/-- An operation without a flag. -/
@[go_sem] theorem runG_one (d : Option Nat) (op : AOp) (r : GOps) (s : AState) :
    runG G c raw (.one d op false [] r) s = runK d s (runG G c raw r) (stepOp G c raw s op) := by
  rw [runG_one']
  cases stepOp G c raw s op with
  | none => rfl
  | some x =>
    obtain ⟨v, σ⟩ := x
    rw [stepK_some]
    unfold chk
    rw [if_pos]
    · rfl
    · unfold flagOk
      split
      · exact ⟨fun h => (by cases h), fun k hk => absurd hk (List.not_mem_nil)⟩
      · intro h; cases h
/-- One that must change nothing, or read no box. -/
@[go_sem] theorem runG_flag (d : Option Nat) (op : AOp) (av : List Nat) (r : GOps) (s : AState) :
    runG G c raw (.one d op true av r) s = stepK G c raw d op true av r s (stepOp G c raw s op) := runG_one' ..
@[go_sem] theorem runG_av (d : Option Nat) (op : AOp) (k : Nat) (av : List Nat) (r : GOps) (s : AState) :
    runG G c raw (.one d op false (k :: av) r) s = stepK G c raw d op false (k :: av) r s (stepOp G c raw s op) := runG_one' ..
@[go_sem] theorem runK_some (d : Option Nat) (s : AState) (k : AState → Option AState) (v : AVal) (σ : Store) : runK d s k (some (v, σ)) = k ({ s with σ := σ }.put d v) := rfl
@[go_sem] theorem runK_none (d : Option Nat) (s : AState) (k : AState → Option AState) : runK d s k none = none := rfl
/-- Half of '&&', '||'. -/
def scK (d lo hi : Nat) (s : AState) (k : AState → Option AState) : Option (AVal × Store) → Option AState
  | some (v, σ) => k { s with tm := upd (clr lo hi s.tm) d v, σ := σ }
  | none => none
/-- the state behind a half -/
def scS (x : AOpd) (G : Nat → Option (List AVal)) (s : AState) : AVal × Store := (ev G s x, s.σ)
noncomputable def scV (s : AState) (want : Bool) (sub : GOps) (x y : AOpd) : AVal → Option (AVal × Store)
  | .atom (.bool t) => if t = want then (runG G c raw sub s).map (scS (if want then x else y) G) else some (ev G s (if want then y else x), s.σ)
  | _ => none
@[go_sem] theorem runG_sc (d lo hi g : Nat) (want : Bool) (sub : GOps) (x y : AOpd) (r : GOps) (s : AState) :
    runG G c raw (.sc d lo hi g want sub x y r) s = scK d lo hi s (runG G c raw r) (scV G c raw s want sub x y (s.tm g)) := by
  conv => lhs; unfold runG
  show Option.bind (scV G c raw s want sub x y (s.tm g)) _ = _
  cases scV G c raw s want sub x y (s.tm g) <;> rfl
@[go_sem] theorem scV_true (s : AState) (sub : GOps) (x y : AOpd) (t : Bool) :
    scV G c raw s true sub x y (.atom (.bool t)) = if t = true then (runG G c raw sub s).map (scS x G) else some (ev G s y, s.σ) := rfl
@[go_sem] theorem scV_false (s : AState) (sub : GOps) (x y : AOpd) (t : Bool) :
    scV G c raw s false sub x y (.atom (.bool t)) = if t = true then some (ev G s x, s.σ) else (runG G c raw sub s).map (scS y G) := by
  show (if t = false then _ else _) = _
  cases t <;> rfl
@[go_sem] theorem scS_mk (x : AOpd) (tm : Nat → AVal) (σ : Store) (b : Nat) : scS x G ⟨tm, σ, b⟩ = (ev G ⟨tm, σ, b⟩ x, σ) := rfl
@[go_sem] theorem scK_mk (d lo hi : Nat) (tm : Nat → AVal) (σ σ' : Store) (b : Nat) (k : AState → Option AState) (v : AVal) :
    scK d lo hi ⟨tm, σ, b⟩ k (some (v, σ')) = k ⟨upd (clr lo hi tm) d v, σ', b⟩ := rfl
@[go_sem] theorem scK_none (d lo hi : Nat) (s : AState) (k : AState → Option AState) : scK d lo hi s k none = none := rfl
end
@[go_sem] theorem clr_apply (lo hi t : Nat) (tm : Nat → AVal) : clr lo hi tm t = if lo ≤ t ∧ t < hi then .any else tm t := rfl
@[go_sem] theorem put_some (tm : Nat → AVal) (σ : Store) (b : Nat) (d : Nat) (v : AVal) : AState.put ⟨tm, σ, b⟩ (some d) v = ⟨upd tm d v, σ, b⟩ := rfl
@[go_sem] theorem put_none (tm : Nat → AVal) (σ : Store) (b : Nat) (v : AVal) : AState.put ⟨tm, σ, b⟩ none v = ⟨tm, σ, b⟩ := rfl
/-- Two ways that part in a truth value alone. -/
@[go_sem] theorem ite_abool (p : Prop) [Decidable p] (a b : Bool) (σ : Store) : (if p then some (abool a, σ) else some (abool b, σ)) = some (abool (if p then a else b), σ) := by split <;> rfl
@[go_sem] theorem ite_abool2 (b a : Bool) : (if b = true then a else false) = (b && a) := by cases b <;> rfl
@[go_sem] theorem ite_abool3 (b a : Bool) : (if b = true then true else a) = (b || a) := by cases b <;> rfl
@[go_sem] theorem flagOk_same (G : Nat → Option (List AVal)) (s : AState) (f : AOpd) (k : Nat) (args : List AOpd) (fl : Bool) (av : List Nat) : flagOk G s (.call k f args) fl av s.σ = True := by
  simp [flagOk, AOp.isE]
@[go_sem] theorem flagOk_call (G : Nat → Option (List AVal)) (tm : Nat → AVal) (σ : Store) (b : Nat) (f : AOpd) (k : Nat) (args : List AOpd) (fl : Bool) (av : List Nat) :
    flagOk G ⟨tm, σ, b⟩ (.call k f args) fl av σ = True := by
  simp [flagOk, AOp.isE]
@[go_sem] theorem flagOk_ld (G : Nat → Option (List AVal)) (s : AState) (g : Bool) (n : Nat) (x : AOpd) (fl : Bool) (av : List Nat) (σ' : Store) :
    flagOk G s (.ld g n x) fl av σ' = ((fl = true → foot G s (.ld g n x) = none) ∧ (∀ k ∈ av, foot G s (.ld g n x) ≠ some (s.base + k))) := rfl
@[go_sem] theorem flagOk_b2s (G : Nat → Option (List AVal)) (s : AState) (x : AOpd) (fl : Bool) (av : List Nat) (σ' : Store) :
    flagOk G s (.b2s x) fl av σ' = ((fl = true → foot G s (.b2s x) = none) ∧ (∀ k ∈ av, foot G s (.b2s x) ≠ some (s.base + k))) := rfl
@[go_sem] theorem flagOk_lookup (G : Nat → Option (List AVal)) (s : AState) (z : AVal) (o : Bool) (x y : AOpd) (fl : Bool) (av : List Nat) (σ' : Store) :
    flagOk G s (.lookup z o x y) fl av σ' = ((fl = true → foot G s (.lookup z o x y) = none) ∧ (∀ k ∈ av, foot G s (.lookup z o x y) ≠ some (s.base + k))) := rfl
attribute [go_sem] stepK_some stepK_none

attribute [go_sem] exec_skip exec_seq exec_region exec_block exec_exit exec_ret thenX_normal thenX_exit thenX_ret blockX_normal blockX_ret blockX_exit
  Option.map_some Option.map_none Option.bind_some Option.bind_none
  stepOp AOp.isE eop cop ev evo lay getC setC initTm resOf resAll resVal finish frz frzV frz.frzT frzL mark markV markL mark.markT markArgs frzArgs cont
  abin aun idx bnds foldA min2A max2A eqVs byteOf bytesOf wfV wfL pureL oneL foot Box.ver eop.fillA cop.fillP cop.recell
  AVal.cells_agg AVal.cells_atom AVal.cells_sl
  if_true if_false Bool.false_eq_true reduceIte and_self and_true true_and Bool.true_and Bool.and_true Bool.false_and Bool.and_false Bool.true_or Bool.or_true Bool.false_or Bool.or_false Bool.not_true Bool.not_false
  List.replicate List.nil_append List.append_nil List.cons_append List.getD_cons_zero List.getD_cons_succ List.getElem?_cons_zero List.getElem?_cons_succ List.set_cons_zero List.set_cons_succ
  List.map_cons List.map_nil List.length_cons List.length_nil List.take_succ_cons List.take_zero List.drop_succ_cons List.drop_zero List.getElem?_nil List.getD_nil
  List.forall_mem_cons List.not_mem_nil false_implies implies_true forall_const
noncomputable def condV (E : Env) (a b : ACode) (s : AState) : AVal → Option (AExit × AState)
  | .atom (.bool t) => if t = true then exec E a s else exec E b s
  | _ => none
@[go_sem] theorem exec_condV (c : AOpd) (a b : ACode) (s : AState) : exec E (.cond c a b) s = condV E a b s (ev E.G s c) := exec_cond c a b s
@[go_sem] theorem condV_true (a b : ACode) (s : AState) : condV E a b s (.atom (.bool true)) = exec E a s := rfl
@[go_sem] theorem condV_false (a b : ACode) (s : AState) : condV E a b s (.atom (.bool false)) = exec E b s := rfl
theorem condV_bool (a b : ACode) (s : AState) (t : Bool) : condV E a b s (.atom (.bool t)) = if t = true then exec E a s else exec E b s := rfl
section
variable (v : Value) (cs first cap es : List AVal) (b ver sz off len i n : Nat) (t : TypeId) (x : AVal)
@[go_sem] theorem oneA_atom : oneA (.atom v) = true := rfl
@[go_sem] theorem oneA_sl : oneA (.sl n es) = true := rfl
@[go_sem] theorem oneA_own : oneA (.own b ver sz off len) = true := rfl
@[go_sem] theorem oneA_ptr : oneA (.ptr b ver off) = true := rfl
@[go_sem] theorem oneA_ep : oneA (.ep b ver i off) = true := rfl
@[go_sem] theorem oneA_fp : oneA (.fp cs) = true := rfl
@[go_sem] theorem oneA_fn (f : FuncId) : oneA (.fn f first cap) = true := rfl
@[go_sem] theorem oneA_yld : oneA (.yld b ver) = true := rfl
@[go_sem] theorem oneA_mp : oneA (.mp b ver) = true := rfl
@[go_sem] theorem oneA_ifc : oneA (.ifc t x) = true := rfl
@[go_sem] theorem pureV_atom : pureV (.atom v) = true := by simp [pureV]
@[go_sem] theorem pureV_sl : pureV (.sl n es) = true := by simp [pureV]
@[go_sem] theorem pureV_fp : pureV (.fp cs) = true := by simp [pureV]
@[go_sem] theorem pureV_agg : pureV (.agg cs) = pureL cs := by simp [pureV]
@[go_sem] theorem pureV_ifc : pureV (.ifc t x) = pureV x := by simp [pureV]
end
@[go_sem] theorem AVal.cells_own (b v k o l : Nat) : (AVal.own b v k o l).cells = [.own b v k o l] := rfl
@[go_sem] theorem AVal.cells_ptr (b v o : Nat) : (AVal.ptr b v o).cells = [.ptr b v o] := rfl
@[go_sem] theorem AVal.cells_fn (f : FuncId) (x y : List AVal) : (AVal.fn f x y).cells = [.fn f x y] := rfl
@[go_sem] theorem AVal.cells_mp (b v : Nat) : (AVal.mp b v).cells = [.mp b v] := rfl
@[go_sem] theorem AVal.cells_ifc (t : TypeId) (x : AVal) : (AVal.ifc t x).cells = [.ifc t x] := rfl
end Go.Abs
