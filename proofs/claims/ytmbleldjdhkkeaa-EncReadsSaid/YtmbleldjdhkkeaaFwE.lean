/- Equations by which a call of the abstract machine is reckoned: a set of simp's own ('go_sem'). -/
import Derived.Test.YtmbleldjdhkkeaaFwL
import Derived.Test.YtmbleldjdhkkeaaFwC
set_option linter.unusedSimpArgs false
set_option linter.unusedVariables false
namespace Go.Abs
variable {E : Env}

theorem chk_pos {α : Type} {c : Prop} [Decidable c] (h : c) (x : Option α) : chk c x = x := if_pos h
theorem chk_neg {α : Type} {c : Prop} [Decidable c] (h : ¬ c) (x : Option α) : chk c x = none := if_neg h
@[go_sem] theorem chk_true {α : Type} [Decidable True] (x : Option α) : chk True x = x := if_pos trivial
@[go_sem] theorem chk_false {α : Type} [Decidable False] (x : Option α) : chk False x = none := if_neg id

/-- What a call makes of its body's end. -/
noncomputable def leave (res : List ARes) (mode : AMode) (σ : Store) : Option (AExit × AState) → Option (AVal × Store)
  | some (.normal, s) => (resAll s res).bind fun r => finish mode σ (resVal r) s.σ
  | some (.ret, s) => (resAll s res).bind fun r => finish mode σ (resVal r) s.σ
  | _ => none
@[go_sem] theorem leave_normal (res : List ARes) (mode : AMode) (σ : Store) (s : AState) :
    leave res mode σ (some (.normal, s)) = (resAll s res).bind fun r => finish mode σ (resVal r) s.σ := rfl
@[go_sem] theorem leave_ret (res : List ARes) (mode : AMode) (σ : Store) (s : AState) :
    leave res mode σ (some (.ret, s)) = (resAll s res).bind fun r => finish mode σ (resVal r) s.σ := rfl

theorem call_fn {f : FuncId} {first cap args : List AVal} {σ : Store} {A : AFun} (hX : E.X f = none) (hA : E.fns f = some A) :
    callv E (.fn f first cap) args σ = leave A.res A.mode σ (exec E A.body { tm := initTm (first ++ args ++ cap), σ := σ ++ List.replicate A.nb (.dead 0), base := σ.length }) := by
  rw [callv_eq]
  simp only [callF, hX, hA]
  rfl

theorem call_told {f : FuncId} {first cap args : List AVal} {σ : Store} {g : List AVal → Store → Option (AVal × Store)} (hX : E.X f = some g) : callv E (.fn f first cap) args σ = g (first ++ args ++ cap) σ := by
  rw [callv_eq]
  simp only [callF, hX]
theorem upd_apply (f : Nat → AVal) (i j : Nat) (v : AVal) : upd f i v j = if j = i then v else f j := rfl
@[go_sem] theorem upd_b (f : Nat → AVal) (i j : Nat) (v : AVal) : upd f i v j = bif j == i then v else f j := by
  simp only [upd]
  by_cases h : j = i
  · simp [h]
  · have : (j == i) = false := by simpa using h
    rw [this, if_neg h]; rfl
attribute [go_sem] cond_true cond_false

theorem get_loc (σ l : Store) (i : Nat) : (σ ++ l)[σ.length + i]? = l[i]? := by
  rw [List.getElem?_append_right (by omega), Nat.add_sub_cancel_left]
theorem get_loc0 (σ l : Store) : (σ ++ l)[σ.length]? = l[0]? := get_loc σ l 0
theorem set_loc (σ l : Store) (i : Nat) (b : Box) : (σ ++ l).set (σ.length + i) b = σ ++ l.set i b := by
  rw [List.set_append_right _ _ (by omega), Nat.add_sub_cancel_left]
theorem set_loc0 (σ l : Store) (b : Box) : (σ ++ l).set σ.length b = σ ++ l.set 0 b := set_loc σ l 0 b
attribute [go_sem] get_loc get_loc0 set_loc set_loc0 Nat.add_zero
/-- A box of the caller's. -/
theorem get_out (σ l : Store) (i : Nat) (B : Box) (h : σ[i]? = some B) : (σ ++ l)[i]? = some B := by
  rw [List.getElem?_append_left (List.getElem?_eq_some_iff.1 h).1]; exact h
theorem set_out (σ l : Store) (i : Nat) (b : Box) (h : i < σ.length) : (σ ++ l).set i b = σ.set i b ++ l := List.set_append_left _ _ h

@[go_sem] theorem okTake_append (σ l : Store) : okTake (σ ++ l) σ := by
  intro i B h hi
  rw [List.getElem?_append_left hi] at h
  exact .inl h
@[go_sem] theorem okTake_refl (σ : Store) : okTake σ σ := fun _ _ h _ => .inl h
@[go_sem] theorem take_loc (σ l : Store) : (σ ++ l).take σ.length = σ := List.take_left
@[go_sem] theorem take_loc2 (σ l : Store) (k : Nat) : (σ ++ l).take (σ.length + k) = σ ++ l.take k := List.take_length_add_append ..
@[go_sem] theorem lt_self_add (n k : Nat) : (n + k < n) = False := by simp
@[go_sem] theorem lt_self (n : Nat) : (n < n) = False := by simp

section
variable (G : Nat → Option (List AVal)) (c : CallF) (raw : FuncId → Bool)
noncomputable def stepK (d : Option Nat) (op : AOp) (fl : Bool) (av : List Nat) (r : GOps) (s : AState) : Option (AVal × Store) → Option AState
  | some (v, σ) => @chk _ (flagOk G s op fl av σ) (Classical.propDecidable _) (runG G c raw r ({ s with σ := σ }.put d v))
  | none => none
theorem stepK_none (d : Option Nat) (op : AOp) (fl : Bool) (av : List Nat) (r : GOps) (s : AState) : stepK G c raw d op fl av r s none = none := rfl
theorem stepK_some (d : Option Nat) (op : AOp) (fl : Bool) (av : List Nat) (r : GOps) (s : AState) (v : AVal) (σ : Store) :
    stepK G c raw d op fl av r s (some (v, σ)) = @chk _ (flagOk G s op fl av σ) (Classical.propDecidable _) (runG G c raw r ({ s with σ := σ }.put d v)) := rfl
theorem runG_one' (d : Option Nat) (op : AOp) (fl : Bool) (av : List Nat) (r : GOps) (s : AState) :
    runG G c raw (.one d op fl av r) s = stepK G c raw d op fl av r s (stepOp G c raw s op) := by
  conv => lhs; unfold runG stepF
  cases h : stepOp G c raw s op with
  | none => rfl
  | some x =>
    obtain ⟨v, σ⟩ := x
    simp only [stepK, Option.bind_some, chk]
    split
    · simp only [Option.bind_some]
    · simp only [Option.bind_none]
def runK (d : Option Nat) (s : AState) (k : AState → Option AState) : Option (AVal × Store) → Option AState
  | some (v, σ) => k ({ s with σ := σ }.put d v)
  | none => none
@[go_sem] theorem runG_nil (s : AState) : runG G c raw .nil s = some s := rfl
/-- An operation without a flag. -/
@[go_sem] theorem runG_one (d : Option Nat) (op : AOp) (r : GOps) (s : AState) :
    runG G c raw (.one d op false [] r) s = runK d s (runG G c raw r) (stepOp G c raw s op) := by
  rw [runG_one']
  cases stepOp G c raw s op with
  | none => rfl
  | some x =>
    obtain ⟨v, σ⟩ := x
    rw [stepK_some]
    unfold chk
    rw [if_pos]
    · rfl
    · unfold flagOk
      split
      · exact ⟨fun h => (by cases h), fun k hk => absurd hk (List.not_mem_nil)⟩
      · intro h; cases h
/-- One that must change nothing, or read no box. -/
@[go_sem] theorem runG_flag (d : Option Nat) (op : AOp) (av : List Nat) (r : GOps) (s : AState) :
    runG G c raw (.one d op true av r) s = stepK G c raw d op true av r s (stepOp G c raw s op) := runG_one' ..
@[go_sem] theorem runG_av (d : Option Nat) (op : AOp) (k : Nat) (av : List Nat) (r : GOps) (s : AState) :
    runG G c raw (.one d op false (k :: av) r) s = stepK G c raw d op false (k :: av) r s (stepOp G c raw s op) := runG_one' ..
@[go_sem] theorem runK_some (d : Option Nat) (s : AState) (k : AState → Option AState) (v : AVal) (σ : Store) : runK d s k (some (v, σ)) = k ({ s with σ := σ }.put d v) := rfl
@[go_sem] theorem runK_none (d : Option Nat) (s : AState) (k : AState → Option AState) : runK d s k none = none := rfl
/-- Half of '&&', '||'. -/
def scK (d lo hi : Nat) (s : AState) (k : AState → Option AState) : Option (AVal × Store) → Option AState
  | some (v, σ) => k { s with tm := upd (clr lo hi s.tm) d v, σ := σ }
  | none => none
/-- the state behind a half -/
def scS (x : AOpd) (G : Nat → Option (List AVal)) (s : AState) : AVal × Store := (ev G s x, s.σ)
noncomputable def scV (s : AState) (want : Bool) (sub : GOps) (x y : AOpd) : AVal → Option (AVal × Store)
  | .atom (.bool t) => if t = want then (runG G c raw sub s).map (scS (if want then x else y) G) else some (ev G s (if want then y else x), s.σ)
  | _ => none
@[go_sem] theorem runG_sc (d lo hi g : Nat) (want : Bool) (sub : GOps) (x y : AOpd) (r : GOps) (s : AState) :
    runG G c raw (.sc d lo hi g want sub x y r) s = scK d lo hi s (runG G c raw r) (scV G c raw s want sub x y (s.tm g)) := by
  conv => lhs; unfold runG
  show Option.bind (scV G c raw s want sub x y (s.tm g)) _ = _
  cases scV G c raw s want sub x y (s.tm g) <;> rfl
@[go_sem] theorem scV_true (s : AState) (sub : GOps) (x y : AOpd) (t : Bool) :
    scV G c raw s true sub x y (.atom (.bool t)) = if t = true then (runG G c raw sub s).map (scS x G) else some (ev G s y, s.σ) := rfl
@[go_sem] theorem scV_false (s : AState) (sub : GOps) (x y : AOpd) (t : Bool) :
    scV G c raw s false sub x y (.atom (.bool t)) = if t = true then some (ev G s x, s.σ) else (runG G c raw sub s).map (scS y G) := by
  show (if t = false then _ else _) = _
  cases t <;> rfl
@[go_sem] theorem scS_mk (x : AOpd) (tm : Nat → AVal) (σ : Store) (b : Nat) : scS x G ⟨tm, σ, b⟩ = (ev G ⟨tm, σ, b⟩ x, σ) := rfl
@[go_sem] theorem scK_mk (d lo hi : Nat) (tm : Nat → AVal) (σ σ' : Store) (b : Nat) (k : AState → Option AState) (v : AVal) :
    scK d lo hi ⟨tm, σ, b⟩ k (some (v, σ')) = k ⟨upd (clr lo hi tm) d v, σ', b⟩ := rfl
@[go_sem] theorem scK_none (d lo hi : Nat) (s : AState) (k : AState → Option AState) : scK d lo hi s k none = none := rfl
end
@[go_sem] theorem clr_apply (lo hi t : Nat) (tm : Nat → AVal) : clr lo hi tm t = bif decide (lo ≤ t) && decide (t < hi) then .any else tm t := by
  simp only [clr]
  by_cases h : lo ≤ t <;> by_cases h' : t < hi <;> simp [h, h']
@[go_sem] theorem put_some (tm : Nat → AVal) (σ : Store) (b : Nat) (d : Nat) (v : AVal) : AState.put ⟨tm, σ, b⟩ (some d) v = ⟨upd tm d v, σ, b⟩ := rfl
@[go_sem] theorem put_none (tm : Nat → AVal) (σ : Store) (b : Nat) (v : AVal) : AState.put ⟨tm, σ, b⟩ none v = ⟨tm, σ, b⟩ := rfl
/-- Two ways that part in a truth value alone. -/
@[go_sem] theorem ite_abool (p : Prop) [Decidable p] (a b : Bool) (σ : Store) : (if p then some (abool a, σ) else some (abool b, σ)) = some (abool (if p then a else b), σ) := by split <;> rfl
@[go_sem] theorem ite_abool2 (b a : Bool) : (if b = true then a else false) = (b && a) := by cases b <;> rfl
@[go_sem] theorem ite_abool3 (b a : Bool) : (if b = true then true else a) = (b || a) := by cases b <;> rfl
theorem sameBut_refl : ∀ (k : Nat) (σ : Store), sameBut k σ σ = True
  | 0, [] => by simp [sameBut]
  | 0, _ :: _ => by simp [sameBut]
  | k + 1, [] => by simp [sameBut]
  | k + 1, _ :: l => by simp [sameBut, sameBut_refl k l]
attribute [go_sem] sameBut_refl
@[go_sem] theorem sameBut_0 (a b : Box) (l l' : Store) : sameBut 0 (a :: l) (b :: l') = (l = l') := by simp [sameBut]
@[go_sem] theorem sameBut_s (k : Nat) (a b : Box) (l l' : Store) : sameBut (k + 1) (a :: l) (b :: l') = (a = b ∧ sameBut k l l') := by simp [sameBut]
theorem sameBut_app : ∀ (σ l l' : Store) (k : Nat), sameBut (σ.length + k) (σ ++ l) (σ ++ l') = sameBut k l l'
  | [], l, l', k => by simp
  | a :: σ, l, l', k => by
    rw [List.length_cons, show σ.length + 1 + k = (σ.length + k) + 1 by omega]
    simp only [List.cons_append, sameBut_s, true_and]
    exact sameBut_app σ l l' k
attribute [go_sem] sameBut_app
@[go_sem] theorem sameBut_app0 (σ l l' : Store) : sameBut σ.length (σ ++ l) (σ ++ l') = sameBut 0 l l' := sameBut_app σ l l' 0
@[go_sem] theorem flagOk_call (G : Nat → Option (List AVal)) (s : AState) (f : AOpd) (k : Nat) (args : List AOpd) (fl : Bool) (av : List Nat) (σ' : Store) :
    flagOk G s (.call k f args) fl av σ' = (fl = true → sameBut (s.base + k) σ' s.σ) := by
  simp [flagOk, AOp.isE]
@[go_sem] theorem flagOk_ld (G : Nat → Option (List AVal)) (s : AState) (g : Bool) (n : Nat) (x : AOpd) (fl : Bool) (av : List Nat) (σ' : Store) :
    flagOk G s (.ld g n x) fl av σ' = ((fl = true → foot G s (.ld g n x) = none) ∧ (∀ k ∈ av, foot G s (.ld g n x) ≠ some (s.base + k))) := rfl
@[go_sem] theorem flagOk_b2s (G : Nat → Option (List AVal)) (s : AState) (x : AOpd) (fl : Bool) (av : List Nat) (σ' : Store) :
    flagOk G s (.b2s x) fl av σ' = ((fl = true → foot G s (.b2s x) = none) ∧ (∀ k ∈ av, foot G s (.b2s x) ≠ some (s.base + k))) := rfl
@[go_sem] theorem flagOk_lookup (G : Nat → Option (List AVal)) (s : AState) (z : AVal) (o : Bool) (x y : AOpd) (fl : Bool) (av : List Nat) (σ' : Store) :
    flagOk G s (.lookup z o x y) fl av σ' = ((fl = true → foot G s (.lookup z o x y) = none) ∧ (∀ k ∈ av, foot G s (.lookup z o x y) ≠ some (s.base + k))) := rfl
attribute [go_sem] stepK_some stepK_none

attribute [go_sem] exec_skip exec_seq exec_region exec_block exec_exit exec_ret thenX_normal thenX_exit thenX_ret blockX_normal blockX_ret blockX_exit
  Option.map_some Option.map_none Option.bind_some Option.bind_none
  initTm resAll resVal wfV wfL pureL oneL eop.fillA cop.fillP
  frz.frzT frzL markL mark.markT markArgs frzArgs foldA eqVs setC
  AVal.cells_agg AVal.cells_atom AVal.cells_sl
  if_true if_false Bool.false_eq_true reduceIte and_self and_true true_and and_false false_and or_true true_or or_false false_or Bool.true_and Bool.and_true Bool.false_and Bool.and_false Bool.true_or Bool.or_true Bool.false_or Bool.or_false Bool.not_true Bool.not_false
  List.replicate List.nil_append List.append_nil List.cons_append List.getD_cons_zero List.getD_cons_succ List.getElem?_cons_zero List.getElem?_cons_succ List.set_cons_zero List.set_cons_succ
  List.map_cons List.map_nil List.length_cons List.length_nil List.take_succ_cons List.take_zero List.drop_succ_cons List.drop_zero List.getElem?_nil List.getD_nil
  List.forall_mem_cons List.not_mem_nil false_implies implies_true forall_const

/-! The operations, one by one -/
section
variable (G : Nat → Option (List AVal)) (c : CallF) (raw : FuncId → Bool) (s : AState)
def retE (σ : Store) : Option AVal → Option (AVal × Store)
  | some v => some (v, σ)
  | none => none
@[go_sem] theorem retE_some (σ : Store) (v : AVal) : retE σ (some v) = some (v, σ) := rfl
@[go_sem] theorem retE_none (σ : Store) : retE σ none = none := rfl
theorem stepE {o : AOp} (h : o.isE = true) : stepOp G c raw s o = retE s.σ (eop G s o) := by
  unfold stepOp
  rw [if_pos h]
  cases eop G s o <;> rfl
theorem stepC {o : AOp} (h : o.isE = false) : stepOp G c raw s o = cop G c raw s o := by
  unfold stepOp
  rw [if_neg (by simp [h])]
theorem stepEV {o : AOp} {v : Option AVal} (h : o.isE = true) (hv : eop G s o = v) : stepOp G c raw s o = retE s.σ v := by rw [stepE G c raw s h, hv]

@[go_sem] theorem ev_t (tm : Nat → AVal) (σ : Store) (b n : Nat) : ev G ⟨tm, σ, b⟩ (.t n) = tm n := rfl
@[go_sem] theorem ev_c (s : AState) (v : AVal) : ev G s (.c v) = v := rfl
def gV : Option (List AVal) → AVal
  | some cs => .fp cs
  | none => .any
@[go_sem] theorem gV_some (cs : List AVal) : gV (some cs) = .fp cs := rfl
@[go_sem] theorem ev_g (s : AState) (n : Nat) : ev G s (.g n) = gV (G n) := by
  show (match G n with | some cs => AVal.fp cs | none => AVal.any) = gV (G n)
  cases G n <;> rfl
@[go_sem] theorem evo_none (s : AState) : evo G s none = none := rfl
@[go_sem] theorem evo_some (s : AState) (x : AOpd) : evo G s (some x) = some (ev G s x) := rfl

@[go_sem] theorem step_mv (x : AOpd) : stepOp G c raw s (.mv x) = some (ev G s x, s.σ) := stepE G c raw s rfl
def pickV (a b : AVal) : AVal → Option AVal
  | .atom (.bool t) => some (if t = true then a else b)
  | _ => none
@[go_sem] theorem pickV_bool (a b : AVal) (t : Bool) : pickV a b (.atom (.bool t)) = some (if t = true then a else b) := rfl
@[go_sem] theorem step_pick (x a b : AOpd) : stepOp G c raw s (.pick x a b) = retE s.σ (pickV (ev G s a) (ev G s b) (ev G s x)) := stepEV G c raw s rfl rfl

@[go_sem] theorem getC_t (sz off : Nat) (cs : List AVal) : getC true sz cs off = chk (off + sz ≤ cs.length) (some (.agg ((cs.drop off).take sz))) := rfl
@[go_sem] theorem getC_f (sz off : Nat) (cs : List AVal) : getC false sz cs off = cs[off]? := rfl
def ldP (g : Bool) (n ver off : Nat) : Option Box → Option AVal
  | some (.var v cs) => chk (v = ver) (getC g n cs off)
  | _ => none
@[go_sem] theorem ldP_var (g : Bool) (n ver off v : Nat) (cs : List AVal) : ldP g n ver off (some (.var v cs)) = chk (v = ver) (getC g n cs off) := rfl
def ldE (g : Bool) (n off : Nat) : Option AVal → Option AVal
  | some e => getC g n e.cells off
  | none => none
@[go_sem] theorem ldE_some (g : Bool) (n off : Nat) (e : AVal) : ldE g n off (some e) = getC g n e.cells off := rfl
def ldA (g : Bool) (n ver i off : Nat) : Option Box → Option AVal
  | some (.arr v _ _ es) => chk (v = ver) (ldE g n off (es[i]?))
  | _ => none
@[go_sem] theorem ldA_arr (g : Bool) (n ver i off v : Nat) (fz : Bool) (k : Nat) (es : List AVal) : ldA g n ver i off (some (.arr v fz k es)) = chk (v = ver) (ldE g n off (es[i]?)) := rfl
def ldV (g : Bool) (n : Nat) (σ : Store) : AVal → Option AVal
  | .ptr b ver off => ldP g n ver off (σ[b]?)
  | .ep b ver i off => ldA g n ver i off (σ[b]?)
  | .fp cs => getC g n cs 0
  | _ => none
@[go_sem] theorem ldV_ptr (g : Bool) (n : Nat) (σ : Store) (b ver off : Nat) : ldV g n σ (.ptr b ver off) = ldP g n ver off (σ[b]?) := rfl
@[go_sem] theorem ldV_ep (g : Bool) (n : Nat) (σ : Store) (b ver i off : Nat) : ldV g n σ (.ep b ver i off) = ldA g n ver i off (σ[b]?) := rfl
@[go_sem] theorem ldV_fp (g : Bool) (n : Nat) (σ : Store) (cs : List AVal) : ldV g n σ (.fp cs) = getC g n cs 0 := rfl
@[go_sem] theorem step_ld (g : Bool) (n : Nat) (x : AOpd) : stepOp G c raw s (.ld g n x) = retE s.σ (ldV g n s.σ (ev G s x)) := by
  refine stepEV G c raw s rfl ?_
  simp only [eop]
  cases ev G s x <;> first | rfl | skip
  rename_i b ver i off
  simp only [ldV]
  cases hb : s.σ[b]? with
  | none => rfl
  | some B =>
    cases B <;> first | rfl | skip
    rename_i v fz k es
    simp only [ldA]
    congr 1
    cases es[i]? <;> rfl

def nilcV : AVal → Option AVal
  | .ptr b ver off => some (.ptr b ver off)
  | .ep b ver i off => some (.ep b ver i off)
  | .fp cs => some (.fp cs)
  | .fn f first cap => some (.fn f first cap)
  | .yld b v => some (.yld b v)
  | _ => none
@[go_sem] theorem nilcV_ptr (b ver off : Nat) : nilcV (.ptr b ver off) = some (.ptr b ver off) := rfl
@[go_sem] theorem nilcV_ep (b ver i off : Nat) : nilcV (.ep b ver i off) = some (.ep b ver i off) := rfl
@[go_sem] theorem nilcV_fp (cs : List AVal) : nilcV (.fp cs) = some (.fp cs) := rfl
@[go_sem] theorem nilcV_fn (f : FuncId) (x y : List AVal) : nilcV (.fn f x y) = some (.fn f x y) := rfl
@[go_sem] theorem nilcV_yld (b v : Nat) : nilcV (.yld b v) = some (.yld b v) := rfl
@[go_sem] theorem step_nilc (x : AOpd) : stepOp G c raw s (.nilc x) = retE s.σ (nilcV (ev G s x)) := stepEV G c raw s rfl rfl

def binV (op : BinOp) : AVal → AVal → Option AVal
  | .atom a, .atom b => (abin op a b).map .atom
  | _, _ => none
@[go_sem] theorem binV_atom (op : BinOp) (a b : Value) : binV op (.atom a) (.atom b) = (abin op a b).map .atom := rfl
@[go_sem] theorem step_bin (op : BinOp) (x y : AOpd) : stepOp G c raw s (.bin op x y) = retE s.σ (binV op (ev G s x) (ev G s y)) := stepEV G c raw s rfl rfl
def andI (n : Nat) (a b : Int) : Nat := (BitVec.ofInt n a &&& BitVec.ofInt n b).toNat
def orI (n : Nat) (a b : Int) : Nat := (BitVec.ofInt n a ||| BitVec.ofInt n b).toNat
def xorI (n : Nat) (a b : Int) : Nat := (BitVec.ofInt n a ^^^ BitVec.ofInt n b).toNat
section
variable (k k' : IntKind) (a b : Int) (x y : ByteArray)
@[go_sem] theorem abin_add : abin .add (.int k a) (.int k b) = some (.int k (k.wrap (a + b))) := by simp [abin]
@[go_sem] theorem abin_sub : abin .sub (.int k a) (.int k b) = some (.int k (k.wrap (a - b))) := by simp [abin]
@[go_sem] theorem abin_mul : abin .mul (.int k a) (.int k b) = some (.int k (k.wrap (a * b))) := by simp [abin]
@[go_sem] theorem abin_quo : abin .quo (.int k a) (.int k b) = chk (b ≠ 0) (some (.int k (k.wrap (a.tdiv b)))) := by simp [abin]
@[go_sem] theorem abin_rem : abin .rem (.int k a) (.int k b) = chk (b ≠ 0) (some (.int k (a.tmod b))) := by simp [abin]
@[go_sem] theorem abin_and : abin .and (.int k a) (.int k b) = some (.int k (k.wrap (andI k.bits a b : Nat))) := by simp [abin, andI]
@[go_sem] theorem abin_or : abin .or (.int k a) (.int k b) = some (.int k (k.wrap (orI k.bits a b : Nat))) := by simp [abin, orI]
@[go_sem] theorem abin_xor : abin .xor (.int k a) (.int k b) = some (.int k (k.wrap (xorI k.bits a b : Nat))) := by simp [abin, xorI]
@[go_sem] theorem abin_eql : abin .eql (.int k a) (.int k b) = some (.bool (a == b)) := by simp [abin]
@[go_sem] theorem abin_neq : abin .neq (.int k a) (.int k b) = some (.bool (a != b)) := by simp [abin]
@[go_sem] theorem abin_lss : abin .lss (.int k a) (.int k b) = some (.bool (decide (a < b))) := by simp [abin]
@[go_sem] theorem abin_leq : abin .leq (.int k a) (.int k b) = some (.bool (decide (a ≤ b))) := by simp [abin]
@[go_sem] theorem abin_gtr : abin .gtr (.int k a) (.int k b) = some (.bool (decide (a > b))) := by simp [abin]
@[go_sem] theorem abin_geq : abin .geq (.int k a) (.int k b) = some (.bool (decide (a ≥ b))) := by simp [abin]
@[go_sem] theorem abin_shl : abin .shl (.int k a) (.int k' b) = chk (0 ≤ b) (some (.int k (k.wrap (a * 2 ^ (Nat.min b.toNat k.bits))))) := rfl
@[go_sem] theorem abin_shr : abin .shr (.int k a) (.int k' b) = chk (0 ≤ b) (some (.int k (a.fdiv (2 ^ (Nat.min b.toNat k.bits))))) := rfl
@[go_sem] theorem abin_seql : abin .eql (.string x) (.string y) = some (.bool (x.toList == y.toList)) := rfl
@[go_sem] theorem abin_sneq : abin .neq (.string x) (.string y) = some (.bool (!(x.toList == y.toList))) := rfl
@[go_sem] theorem abin_slss : abin .lss (.string x) (.string y) = some (.bool (Op.bytesLess x.toList y.toList)) := rfl
@[go_sem] theorem bits_i64 : IntKind.i64.bits = 64 := rfl
@[go_sem] theorem bits_u64 : IntKind.u64.bits = 64 := rfl
@[go_sem] theorem bits_u8 : IntKind.u8.bits = 8 := rfl
@[go_sem] theorem bits_u32 : IntKind.u32.bits = 32 := rfl
@[go_sem] theorem bits_i32 : IntKind.i32.bits = 32 := rfl
end
def beqV (neg : Bool) : AVal → AVal → Option AVal
  | .atom (.bool a), .atom (.bool b) => some (abool (if neg then !(a == b) else a == b))
  | _, _ => none
@[go_sem] theorem beqV_f (a b : Bool) : beqV false (.atom (.bool a)) (.atom (.bool b)) = some (abool (a == b)) := rfl
@[go_sem] theorem beqV_t (a b : Bool) : beqV true (.atom (.bool a)) (.atom (.bool b)) = some (abool (!(a == b))) := rfl
@[go_sem] theorem step_beq (neg : Bool) (x y : AOpd) : stepOp G c raw s (.beq neg x y) = retE s.σ (beqV neg (ev G s x) (ev G s y)) := stepEV G c raw s rfl rfl
def isnilV (k : ANil) (neg : Bool) (v : AVal) : Option AVal :=
    match k, v with
    | .ptr, .atom (.pointer none) | .sl, .atom (.slice none 0 0) | .map, .atom (.map none) | .fn, .atom .nilFunc | .ifc, .atom .nilIface => some (abool (!neg))
    | .ptr, .ptr .. | .ptr, .ep .. | .ptr, .fp _ | .sl, .sl (_ :: _) | .sl, .sn _ | .map, .mp .. | .fn, .fn .. | .fn, .yld .. | .ifc, .ifc .. => some (abool neg)
    | _, _ => none
section
variable (neg : Bool) (b ver i off : Nat) (cs : List AVal) (v : AVal) (t : TypeId)
@[go_sem] theorem isnilV_pn : isnilV .ptr neg (.atom (.pointer none)) = some (abool (!neg)) := rfl
@[go_sem] theorem isnilV_pp : isnilV .ptr neg (.ptr b ver off) = some (abool neg) := rfl
@[go_sem] theorem isnilV_pe : isnilV .ptr neg (.ep b ver i off) = some (abool neg) := rfl
@[go_sem] theorem isnilV_pf : isnilV .ptr neg (.fp cs) = some (abool neg) := rfl
@[go_sem] theorem isnilV_sn : isnilV .sl neg anil = some (abool (!neg)) := rfl
@[go_sem] theorem isnilV_sc : isnilV .sl neg (.sl (v :: cs)) = some (abool neg) := rfl
@[go_sem] theorem isnilV_ss : isnilV .sl neg (.sn cs) = some (abool neg) := rfl
@[go_sem] theorem isnilV_mn : isnilV .map neg (.atom (.map none)) = some (abool (!neg)) := rfl
@[go_sem] theorem isnilV_mp : isnilV .map neg (.mp b ver) = some (abool neg) := rfl
@[go_sem] theorem isnilV_fn : isnilV .fn neg (.atom .nilFunc) = some (abool (!neg)) := rfl
@[go_sem] theorem isnilV_ff (f : FuncId) (x y : List AVal) : isnilV .fn neg (.fn f x y) = some (abool neg) := rfl
@[go_sem] theorem isnilV_in : isnilV .ifc neg (.atom .nilIface) = some (abool (!neg)) := rfl
@[go_sem] theorem isnilV_ii : isnilV .ifc neg (.ifc t v) = some (abool neg) := rfl
end
@[go_sem] theorem step_isnil (k : ANil) (neg : Bool) (x : AOpd) : stepOp G c raw s (.isnil k neg x) = retE s.σ (isnilV k neg (ev G s x)) := stepEV G c raw s rfl rfl
def eqaggV (neg : Bool) : AVal → AVal → Option AVal
  | .agg a, .agg b => (eqVs a b).map fun t => abool (if neg = true then !t else t)
  | _, _ => none
@[go_sem] theorem eqaggV_agg (neg : Bool) (a b : List AVal) : eqaggV neg (.agg a) (.agg b) = (eqVs a b).map fun t => abool (if neg = true then !t else t) := rfl
@[go_sem] theorem step_eqagg (neg : Bool) (x y : AOpd) : stepOp G c raw s (.eqagg neg x y) = retE s.σ (eqaggV neg (ev G s x) (ev G s y)) := stepEV G c raw s rfl rfl
def unV (op : UnOp) : AVal → Option AVal
  | .atom a => (aun op a).map .atom
  | _ => none
@[go_sem] theorem unV_not (b : Bool) : unV .not (.atom (.bool b)) = some (abool !b) := rfl
@[go_sem] theorem unV_neg (k : IntKind) (n : Int) : unV .neg (.atom (.int k n)) = some (.atom (.int k (k.wrap (0 - n)))) := rfl
@[go_sem] theorem step_un (op : UnOp) (x : AOpd) : stepOp G c raw s (.un op x) = retE s.σ (unV op (ev G s x)) := stepEV G c raw s rfl rfl
def i2iV (k : IntKind) : AVal → Option AVal
  | .atom (.int _ n) => some (.atom (.int k (k.wrap n)))
  | _ => none
@[go_sem] theorem i2iV_int (k k' : IntKind) (n : Int) : i2iV k (.atom (.int k' n)) = some (.atom (.int k (k.wrap n))) := rfl
@[go_sem] theorem step_i2i (k : IntKind) (x : AOpd) : stepOp G c raw s (.i2i k x) = retE s.σ (i2iV k (ev G s x)) := stepEV G c raw s rfl rfl

def contB (ver off len : Nat) : Option Box → Option (List AVal)
  | some (.arr v _ _ es) => chk (v = ver ∧ off + len ≤ es.length) (some ((es.drop off).take len))
  | _ => none
@[go_sem] theorem contB_arr (ver off len v : Nat) (fz : Bool) (k : Nat) (es : List AVal) : contB ver off len (some (.arr v fz k es)) = chk (v = ver ∧ off + len ≤ es.length) (some ((es.drop off).take len)) := rfl
@[go_sem] theorem cont_own (σ : Store) (b ver k off len : Nat) : cont σ (.own b ver k off len) = contB ver off len (σ[b]?) := by
  simp only [cont]
  cases hb : σ[b]? with
  | none => rfl
  | some B => cases B <;> rfl
@[go_sem] theorem cont_sl (σ : Store) (es : List AVal) : cont σ (.sl es) = some es := rfl
@[go_sem] theorem cont_nil (σ : Store) : cont σ anil = some [] := rfl
def b2sV : Option (List AVal) → Option AVal
  | some es => (bytesOf es).map astr
  | none => none
@[go_sem] theorem b2sV_some (es : List AVal) : b2sV (some es) = (bytesOf es).map astr := rfl
@[go_sem] theorem bytesOf_nil : bytesOf [] = some [] := rfl
@[go_sem] theorem bytesOf_cons (e : AVal) (es : List AVal) : bytesOf (e :: es) = match byteOf e, bytesOf es with | some b, some bs => some (b :: bs) | _, _ => none := rfl
@[go_sem] theorem step_b2s (x : AOpd) : stepOp G c raw s (.b2s x) = retE s.σ (b2sV (cont s.σ (ev G s x))) := by
  refine stepEV G c raw s rfl ?_
  simp only [eop]
  cases cont s.σ (ev G s x) <;> rfl
def s2sV : AVal → Option AVal
  | .atom (.string b) => some (.atom (.string b))
  | _ => none
@[go_sem] theorem s2sV_str (b : ByteArray) : s2sV (.atom (.string b)) = some (.atom (.string b)) := rfl
@[go_sem] theorem step_s2s (x : AOpd) : stepOp G c raw s (.s2s x) = retE s.σ (s2sV (ev G s x)) := stepEV G c raw s rfl rfl
def fldV (g : Bool) (off sz : Nat) : AVal → Option AVal
  | .agg cs => getC g sz cs off
  | _ => none
@[go_sem] theorem fldV_agg (g : Bool) (off sz : Nat) (cs : List AVal) : fldV g off sz (.agg cs) = getC g sz cs off := rfl
@[go_sem] theorem step_fld (g : Bool) (off sz : Nat) (x : AOpd) : stepOp G c raw s (.fld g off sz x) = retE s.σ (fldV g off sz (ev G s x)) := stepEV G c raw s rfl rfl
def faV (off : Nat) : AVal → Option AVal
  | .ptr b ver o => some (.ptr b ver (o + off))
  | .ep b ver i o => some (.ep b ver i (o + off))
  | .fp cs => some (.fp (cs.drop off))
  | _ => none
@[go_sem] theorem faV_ptr (off b ver o : Nat) : faV off (.ptr b ver o) = some (.ptr b ver (o + off)) := rfl
@[go_sem] theorem faV_ep (off b ver i o : Nat) : faV off (.ep b ver i o) = some (.ep b ver i (o + off)) := rfl
@[go_sem] theorem faV_fp (off : Nat) (cs : List AVal) : faV off (.fp cs) = some (.fp (cs.drop off)) := rfl
@[go_sem] theorem step_fa (off : Nat) (x : AOpd) : stepOp G c raw s (.fa off x) = retE s.σ (faV off (ev G s x)) := stepEV G c raw s rfl rfl
@[go_sem] theorem idx_int (k : IntKind) (n : Int) : idx (.atom (.int k n)) = some n := rfl
def iaE (sz : Nat) : Option AVal → Option AVal
  | some e => chk (e.cells.length = sz) (some (.fp e.cells))
  | none => none
@[go_sem] theorem iaE_some (sz : Nat) (e : AVal) : iaE sz (some e) = chk (e.cells.length = sz) (some (.fp e.cells)) := rfl
def iaV (sz : Nat) : AVal → Option Int → Option AVal
  | .sl es, some n => chk (0 ≤ n ∧ n < es.length) (iaE sz (es[n.toNat]?))
  | .own b ver k off len, some n => chk (k = sz ∧ 0 ≤ n ∧ n < len) (some (.ep b ver (off + n.toNat) 0))
  | _, _ => none
@[go_sem] theorem iaV_sl (sz : Nat) (es : List AVal) (n : Int) : iaV sz (.sl es) (some n) = chk (0 ≤ n ∧ n < es.length) (iaE sz (es[n.toNat]?)) := rfl
@[go_sem] theorem iaV_own (sz b ver k off len : Nat) (n : Int) : iaV sz (.own b ver k off len) (some n) = chk (k = sz ∧ 0 ≤ n ∧ n < len) (some (.ep b ver (off + n.toNat) 0)) := rfl
@[go_sem] theorem step_ia (sz : Nat) (x i : AOpd) : stepOp G c raw s (.ia sz x i) = retE s.σ (iaV sz (ev G s x) (idx (ev G s i))) := by
  refine stepEV G c raw s rfl ?_
  simp only [eop]
  cases ev G s x <;> cases idx (ev G s i) <;> first | rfl | skip
  rename_i es n
  simp only [iaV]
  congr 1
  cases es[n.toNat]? <;> rfl
def iaaV (n sz : Nat) : AVal → Option Int → Option AVal
  | .ptr b ver o, some k => chk (0 ≤ k ∧ k < n) (some (.ptr b ver (o + k.toNat * sz)))
  | .ep b ver j o, some k => chk (0 ≤ k ∧ k < n) (some (.ep b ver j (o + k.toNat * sz)))
  | .fp cs, some k => chk (0 ≤ k ∧ k < n) (some (.fp (cs.drop (k.toNat * sz))))
  | _, _ => none
@[go_sem] theorem iaaV_ptr (n sz b ver o : Nat) (k : Int) : iaaV n sz (.ptr b ver o) (some k) = chk (0 ≤ k ∧ k < n) (some (.ptr b ver (o + k.toNat * sz))) := rfl
@[go_sem] theorem iaaV_ep (n sz b ver j o : Nat) (k : Int) : iaaV n sz (.ep b ver j o) (some k) = chk (0 ≤ k ∧ k < n) (some (.ep b ver j (o + k.toNat * sz))) := rfl
@[go_sem] theorem iaaV_fp (n sz : Nat) (cs : List AVal) (k : Int) : iaaV n sz (.fp cs) (some k) = chk (0 ≤ k ∧ k < n) (some (.fp (cs.drop (k.toNat * sz)))) := rfl
@[go_sem] theorem step_iaa (n sz : Nat) (x i : AOpd) : stepOp G c raw s (.iaa n sz x i) = retE s.σ (iaaV n sz (ev G s x) (idx (ev G s i))) := stepEV G c raw s rfl rfl
def ixaV (g : Bool) (n sz : Nat) : AVal → Option Int → Option AVal
  | .agg cs, some k => chk (0 ≤ k ∧ k < n) (getC g sz cs (k.toNat * sz))
  | _, _ => none
@[go_sem] theorem ixaV_agg (g : Bool) (n sz : Nat) (cs : List AVal) (k : Int) : ixaV g n sz (.agg cs) (some k) = chk (0 ≤ k ∧ k < n) (getC g sz cs (k.toNat * sz)) := rfl
@[go_sem] theorem step_ixa (g : Bool) (n sz : Nat) (x i : AOpd) : stepOp G c raw s (.ixa g n sz x i) = retE s.σ (ixaV g n sz (ev G s x) (idx (ev G s i))) := stepEV G c raw s rfl rfl
/-- A slice's bounds. -/
def bndX (len : Nat) : Option Int → Option Int → Option Int → Option (Nat × Nat)
  | some l, some h, some m => chk (0 ≤ l ∧ l ≤ h ∧ h ≤ m ∧ m ≤ len) (some (l.toNat, h.toNat))
  | _, _, _ => none
@[go_sem] theorem bndX_some (len : Nat) (l h m : Int) : bndX len (some l) (some h) (some m) = chk (0 ≤ l ∧ l ≤ h ∧ h ≤ m ∧ m ≤ len) (some (l.toNat, h.toNat)) := rfl
def ob (d : Int) : Option AVal → Option Int
  | none => some d
  | some v => idx v
@[go_sem] theorem ob_none (d : Int) : ob d none = some d := rfl
@[go_sem] theorem ob_some (d : Int) (v : AVal) : ob d (some v) = idx v := rfl
@[go_sem] theorem bnds_x (len : Nat) (l h m : Option AVal) : bnds len l h m = bndX len (ob 0 l) (ob len h) (ob len m) := by
  unfold bnds
  cases l <;> cases h <;> cases m <;> simp only [ob] <;> first | rfl | (split <;> simp_all [bndX])
def slcM (es : List AVal) : Option (Nat × Nat) → Option AVal
  | some (l, h) => some (.sl ((es.drop l).take (h - l)))
  | none => none
@[go_sem] theorem slcM_some (es : List AVal) (l h : Nat) : slcM es (some (l, h)) = some (.sl ((es.drop l).take (h - l))) := rfl
def slcO (b ver k off : Nat) : Option (Nat × Nat) → Option AVal
  | some (l, h) => some (.own b ver k (off + l) (h - l))
  | none => none
@[go_sem] theorem slcO_some (b ver k off l h : Nat) : slcO b ver k off (some (l, h)) = some (.own b ver k (off + l) (h - l)) := rfl
def slcV (sz : Nat) (l h m : Option AVal) : AVal → Option AVal
  | .sl es => chk (unif sz es = true) (slcM es (bnds es.length l h m))
  | .own b ver k off len => chk (k = sz) (slcO b ver k off (bnds len l h m))
  | .atom (.slice none 0 0) => (bnds 0 l h m).map fun _ => anil
  | _ => none
@[go_sem] theorem slcV_sl (sz : Nat) (l h m : Option AVal) (es : List AVal) : slcV sz l h m (.sl es) = chk (unif sz es = true) (slcM es (bnds es.length l h m)) := rfl
@[go_sem] theorem slcV_own (sz : Nat) (l h m : Option AVal) (b ver k off len : Nat) : slcV sz l h m (.own b ver k off len) = chk (k = sz) (slcO b ver k off (bnds len l h m)) := rfl
@[go_sem] theorem slcV_nil (sz : Nat) (l h m : Option AVal) : slcV sz l h m anil = (bnds 0 l h m).map fun _ => anil := rfl
@[go_sem] theorem step_slc (sz : Nat) (x : AOpd) (l h m : Option AOpd) : stepOp G c raw s (.slc sz x l h m) = retE s.σ (slcV sz (evo G s l) (evo G s h) (evo G s m) (ev G s x)) := by
  refine stepEV G c raw s rfl ?_
  simp only [eop]
  cases ev G s x <;> first | rfl | skip
  · rename_i v; cases v <;> first | rfl | skip
    rename_i p a b; cases p <;> first | rfl | skip
    cases a <;> cases b <;> rfl
  · simp only [slcV]
    congr 1
    cases bnds _ (evo G s l) (evo G s h) (evo G s m) <;> rfl
  · simp only [slcV]
    congr 1
    cases bnds _ (evo G s l) (evo G s h) (evo G s m) <;> rfl
def extV (i : Nat) : AVal → Option AVal
  | .tup vs => vs[i]?
  | _ => none
@[go_sem] theorem extV_tup (i : Nat) (vs : List AVal) : extV i (.tup vs) = vs[i]? := rfl
@[go_sem] theorem step_ext (x : AOpd) (i : Nat) : stepOp G c raw s (.ext x i) = retE s.σ (extV i (ev G s x)) := stepEV G c raw s rfl rfl
@[go_sem] theorem step_bld (z : List AVal) (ps : List (Nat × Nat × AOpd)) : stepOp G c raw s (.bld z ps) = retE s.σ ((eop.fillA z (ps.map fun p => (p.1, p.2.1, ev G s p.2.2))).map .agg) := stepEV G c raw s rfl rfl
@[go_sem] theorem step_mkfn (f : FuncId) (x y : List AOpd) : stepOp G c raw s (.mkfn f x y) = some (.fn f (x.map (ev G s)) (y.map (ev G s)), s.σ) := stepE G c raw s rfl
@[go_sem] theorem step_mkif (t : TypeId) (x : AOpd) : stepOp G c raw s (.mkif t x) = some (.ifc t (ev G s x), s.σ) := stepE G c raw s rfl
def lenV : AVal → Option AVal
  | .atom (.slice none 0 0) => some (aint 0)
  | .sl es => some (aint es.length)
  | .own _ _ _ _ len => some (aint len)
  | _ => none
@[go_sem] theorem lenV_nil : lenV anil = some (aint 0) := rfl
@[go_sem] theorem lenV_sl (es : List AVal) : lenV (.sl es) = some (aint es.length) := rfl
@[go_sem] theorem lenV_own (b ver k off len : Nat) : lenV (.own b ver k off len) = some (aint len) := rfl
@[go_sem] theorem step_len (x : AOpd) : stepOp G c raw s (.len x) = retE s.σ (lenV (ev G s x)) := stepEV G c raw s rfl rfl
def lenSV : AVal → Option AVal
  | .atom (.string b) => some (aint b.size)
  | _ => none
@[go_sem] theorem lenSV_str (b : ByteArray) : lenSV (.atom (.string b)) = some (aint b.size) := rfl
@[go_sem] theorem step_lenS (x : AOpd) : stepOp G c raw s (.lenS x) = retE s.σ (lenSV (ev G s x)) := stepEV G c raw s rfl rfl
def minV : List AVal → Option AVal
  | .atom v :: r => (foldA min2A v r).map .atom
  | _ => none
@[go_sem] theorem minV_cons (v : Value) (r : List AVal) : minV (.atom v :: r) = (foldA min2A v r).map .atom := rfl
def maxV : List AVal → Option AVal
  | .atom v :: r => (foldA max2A v r).map .atom
  | _ => none
@[go_sem] theorem maxV_cons (v : Value) (r : List AVal) : maxV (.atom v :: r) = (foldA max2A v r).map .atom := rfl
@[go_sem] theorem min2A_int (k k' : IntKind) (x y : Int) : min2A (.int k x) (.int k' y) = some (.int k (if y < x then y else x)) := rfl
@[go_sem] theorem max2A_int (k k' : IntKind) (x y : Int) : max2A (.int k x) (.int k' y) = some (.int k (if y > x then y else x)) := rfl
@[go_sem] theorem step_min (xs : List AOpd) : stepOp G c raw s (.min xs) = retE s.σ (minV (xs.map (ev G s))) := stepEV G c raw s rfl rfl
@[go_sem] theorem step_max (xs : List AOpd) : stepOp G c raw s (.max xs) = retE s.σ (maxV (xs.map (ev G s))) := stepEV G c raw s rfl rfl

/-! those that change something -/
@[go_sem] theorem ver_var (v : Nat) (cs : List AVal) : (Box.var v cs).ver = v := rfl
@[go_sem] theorem ver_arr (v : Nat) (fz : Bool) (k : Nat) (es : List AVal) : (Box.arr v fz k es).ver = v := rfl
@[go_sem] theorem ver_map (v : Nat) (es : List (AVal × AVal)) : (Box.map v es).ver = v := rfl
@[go_sem] theorem ver_loop (v : Nat) (st : LoopState) (p : Option ACode) (tm : Nat → AVal) (b : Nat) (ps : List Nat) (x y : ACode) : (Box.loop v st p tm b ps x y).ver = v := rfl
@[go_sem] theorem ver_dead (v : Nat) : (Box.dead v).ver = v := rfl
def layK (i : Nat) (σ : Store) (f : Nat → Box) (r : Nat → Nat → AVal) : Option Box → Option (AVal × Store)
  | some B => some (r i (B.ver + 1), σ.set i (f (B.ver + 1)))
  | none => none
@[go_sem] theorem layK_some (i : Nat) (σ : Store) (f : Nat → Box) (r : Nat → Nat → AVal) (B : Box) : layK i σ f r (some B) = some (r i (B.ver + 1), σ.set i (f (B.ver + 1))) := rfl
@[go_sem] theorem lay_k (s : AState) (site : Nat) (f : Nat → Box) (r : Nat → Nat → AVal) : lay s site f r = layK (s.base + site) s.σ f r (s.σ[s.base + site]?) := by
  unfold lay layK
  cases s.σ[s.base + site]? <;> rfl
def s2bV (s : AState) (site : Nat) : AVal → Option (AVal × Store)
  | .atom (.string b) => lay s site (fun v => .arr v false 1 (b.toList.map abyte)) (fun b' v => .own b' v 1 0 b.size)
  | _ => none
@[go_sem] theorem s2bV_str (s : AState) (site : Nat) (b : ByteArray) : s2bV s site (.atom (.string b)) = lay s site (fun v => .arr v false 1 (b.toList.map abyte)) (fun b' v => .own b' v 1 0 b.size) := rfl
@[go_sem] theorem step_s2b (site : Nat) (x : AOpd) : stepOp G c raw s (.s2b site x) = s2bV s site (ev G s x) := by rw [stepC G c raw s rfl]; rfl
@[go_sem] theorem step_alloc (site : Nat) (z : AVal) : stepOp G c raw s (.alloc site z) = lay s site (fun v => .var v z.cells) (fun b v => .ptr b v 0) := by rw [stepC G c raw s rfl]; rfl
@[go_sem] theorem step_box (site : Nat) (x : AOpd) : stepOp G c raw s (.box site x) = chk (oneL (ev G s x).cells = true) (lay s site (fun v => .var v (ev G s x).cells) (fun b v => .ptr b v 0)) := by rw [stepC G c raw s rfl]; rfl
def bslV (s : AState) (site k n : Nat) (σ : Store) : Option (List AVal) → Option (AVal × Store)
  | some es => lay { s with σ := σ } site (fun v => .arr v false k es) (fun b v => .own b v k 0 n)
  | none => none
@[go_sem] theorem bslV_some (tm : Nat → AVal) (σ0 : Store) (b site k n : Nat) (σ : Store) (es : List AVal) : bslV ⟨tm, σ0, b⟩ site k n σ (some es) = lay ⟨tm, σ, b⟩ site (fun v => .arr v false k es) (fun b v => .own b v k 0 n) := rfl
@[go_sem] theorem step_bsl (site : Nat) (z : AVal) (n : Nat) (ps : List (Nat × AOpd)) : stepOp G c raw s (.bsl site z n ps) = bslV s site z.cells.length n (markArgs s.σ (ps.map fun p => ev G s p.2)) (cop.fillP z.cells.length (List.replicate n z) (ps.map fun p => (p.1, frz s.σ (ev G s p.2)))) := by
  rw [stepC G c raw s rfl]
  simp only [cop]
  cases cop.fillP z.cells.length (List.replicate n z) (ps.map fun p => (p.1, frz s.σ (ev G s p.2))) <;> rfl
def slc0V (s : AState) (site sz : Nat) : AVal → Option (AVal × Store)
  | .sl _ | .own .. | .atom (.slice none 0 0) => lay s site (fun v => .arr v false sz []) (fun b v => .own b v sz 0 0)
  | _ => none
@[go_sem] theorem slc0V_sl (s : AState) (site sz : Nat) (es : List AVal) : slc0V s site sz (.sl es) = lay s site (fun v => .arr v false sz []) (fun b v => .own b v sz 0 0) := rfl
@[go_sem] theorem slc0V_own (s : AState) (site sz b v k o l : Nat) : slc0V s site sz (.own b v k o l) = lay s site (fun v => .arr v false sz []) (fun b v => .own b v sz 0 0) := rfl
@[go_sem] theorem slc0V_nil (s : AState) (site sz : Nat) : slc0V s site sz anil = lay s site (fun v => .arr v false sz []) (fun b v => .own b v sz 0 0) := rfl
@[go_sem] theorem step_slc0 (site sz : Nat) (x : AOpd) : stepOp G c raw s (.slc0 site sz x) = slc0V s site sz (ev G s x) := by rw [stepC G c raw s rfl]; rfl
@[go_sem] theorem step_nown (site sz : Nat) : stepOp G c raw s (.nown site sz) = lay s site (fun v => .arr v false sz []) (fun b v => .own b v sz 0 0) := by rw [stepC G c raw s rfl]; rfl
def mkslV (s : AState) (site bytes : Nat) (z : AVal) : Option Int → Option Int → Option (AVal × Store)
  | some l, some m => chk (0 ≤ l ∧ l ≤ m ∧ m * bytes ≤ maxRoom ∧ m ≤ maxRoom) (lay s site (fun v => .arr v false z.cells.length (List.replicate l.toNat z)) (fun b v => .own b v z.cells.length 0 l.toNat))
  | _, _ => none
@[go_sem] theorem mkslV_some (s : AState) (site bytes : Nat) (z : AVal) (l m : Int) : mkslV s site bytes z (some l) (some m) = chk (0 ≤ l ∧ l ≤ m ∧ m * bytes ≤ maxRoom ∧ m ≤ maxRoom) (lay s site (fun v => .arr v false z.cells.length (List.replicate l.toNat z)) (fun b v => .own b v z.cells.length 0 l.toNat)) := rfl
@[go_sem] theorem step_mksl (site bytes : Nat) (z : AVal) (x y : AOpd) : stepOp G c raw s (.mksl site bytes z x y) = mkslV s site bytes z (idx (ev G s x)) (idx (ev G s y)) := by
  rw [stepC G c raw s rfl]
  simp only [cop]
  cases idx (ev G s x) <;> cases idx (ev G s y) <;> rfl
@[go_sem] theorem step_mkmap (site : Nat) : stepOp G c raw s (.mkmap site) = lay s site (fun v => .map v []) (fun b v => .mp b v) := by rw [stepC G c raw s rfl]; rfl
def stP (sz ver off b : Nat) (σ : Store) (cs' : List AVal) : Option Box → Option (AVal × Store)
  | some (.var v cs) => chk (v = ver ∧ off + sz ≤ cs.length) (some (.tup [], σ.set b (.var v (setC cs off cs'))))
  | _ => none
@[go_sem] theorem stP_var (sz ver off b : Nat) (σ : Store) (cs' : List AVal) (v : Nat) (cs : List AVal) : stP sz ver off b σ cs' (some (.var v cs)) = chk (v = ver ∧ off + sz ≤ cs.length) (some (.tup [], σ.set b (.var v (setC cs off cs')))) := rfl
def stE (sz off b i v k : Nat) (σ : Store) (cs' es : List AVal) : Option AVal → Option (AVal × Store)
  | some e => chk (off + sz ≤ e.cells.length ∧ pureL cs' = true) (some (.tup [], σ.set b (.arr v false k (es.set i (cop.recell e (setC e.cells off cs'))))))
  | none => none
@[go_sem] theorem stE_some (sz off b i v k : Nat) (σ : Store) (cs' es : List AVal) (e : AVal) : stE sz off b i v k σ cs' es (some e) = chk (off + sz ≤ e.cells.length ∧ pureL cs' = true) (some (.tup [], σ.set b (.arr v false k (es.set i (cop.recell e (setC e.cells off cs')))))) := rfl
def stA (sz ver i off b : Nat) (σ : Store) (cs' : List AVal) : Option Box → Option (AVal × Store)
  | some (.arr v false k es) => chk (v = ver) (stE sz off b i v k σ cs' es (es[i]?))
  | _ => none
@[go_sem] theorem stA_arr (sz ver i off b : Nat) (σ : Store) (cs' : List AVal) (v k : Nat) (es : List AVal) : stA sz ver i off b σ cs' (some (.arr v false k es)) = chk (v = ver) (stE sz off b i v k σ cs' es (es[i]?)) := rfl
@[go_sem] theorem recell_agg (cs cs' : List AVal) : cop.recell (.agg cs) cs' = .agg cs' := rfl
@[go_sem] theorem recell_atom (v : Value) (x : AVal) : cop.recell (.atom v) [x] = x := rfl
@[go_sem] theorem recell_sl (es : List AVal) (x : AVal) : cop.recell (.sl es) [x] = x := rfl
def stV (sz : Nat) (σ : Store) (cs' : List AVal) : AVal → Option (AVal × Store)
  | .ptr b ver off => stP sz ver off b σ cs' (σ[b]?)
  | .ep b ver i off => stA sz ver i off b σ cs' (σ[b]?)
  | _ => none
@[go_sem] theorem stV_ptr (sz : Nat) (σ : Store) (cs' : List AVal) (b ver off : Nat) : stV sz σ cs' (.ptr b ver off) = stP sz ver off b σ cs' (σ[b]?) := rfl
@[go_sem] theorem stV_ep (sz : Nat) (σ : Store) (cs' : List AVal) (b ver i off : Nat) : stV sz σ cs' (.ep b ver i off) = stA sz ver i off b σ cs' (σ[b]?) := rfl
@[go_sem] theorem step_st (sz : Nat) (a x : AOpd) : stepOp G c raw s (.st sz a x) = chk ((ev G s x).cells.length = sz ∧ oneL (ev G s x).cells = true) (stV sz s.σ (ev G s x).cells (ev G s a)) := by
  rw [stepC G c raw s rfl]
  simp only [cop]
  congr 1
  cases ev G s a <;> first | rfl | skip
  rename_i b ver i off
  simp only [stV]
  cases hb : s.σ[b]? with
  | none => rfl
  | some B =>
    cases B <;> first | rfl | skip
    rename_i v fz k es
    cases fz <;> first | rfl | skip
    simp only [stA]
    congr 1
    cases es[i]? <;> rfl
def ysV (sz : Nat) (σ : Store) : AVal → Option (List AVal)
  | .atom (.string b) => chk (sz = 1) (some (b.toList.map abyte))
  | .sl es => chk (unif sz es = true) (some es)
  | .sn es => chk (unif sz es = true) (some es)
  | .own b ver k off len => chk (k = sz) (cont σ (.own b ver k off len))
  | v => cont σ v
@[go_sem] theorem ysV_str (sz : Nat) (σ : Store) (b : ByteArray) : ysV sz σ (.atom (.string b)) = chk (sz = 1) (some (b.toList.map abyte)) := rfl
@[go_sem] theorem ysV_sl (sz : Nat) (σ : Store) (es : List AVal) : ysV sz σ (.sl es) = chk (unif sz es = true) (some es) := rfl
@[go_sem] theorem ysV_sn (sz : Nat) (σ : Store) (es : List AVal) : ysV sz σ (.sn es) = chk (unif sz es = true) (some es) := rfl
@[go_sem] theorem ysV_own (sz : Nat) (σ : Store) (b ver k off len : Nat) : ysV sz σ (.own b ver k off len) = chk (k = sz) (cont σ (.own b ver k off len)) := rfl
@[go_sem] theorem ysV_nil (sz : Nat) (σ : Store) : ysV sz σ anil = some [] := rfl
def appB (ver k off len sz bytes b : Nat) (σ : Store) (ys : List AVal) : Option Box → Option (AVal × Store)
  | some (.arr v false _ es) =>
    chk (v = ver ∧ k = sz ∧ off = 0 ∧ len = es.length ∧ (es.length + ys.length) * bytes ≤ maxRoom ∧ es.length + ys.length ≤ maxRoom)
      (some (.own b (ver + 1) sz 0 (es.length + ys.length), σ.set b (.arr (ver + 1) false sz (es ++ ys))))
  | _ => none
@[go_sem] theorem appB_arr (ver k off len sz bytes b : Nat) (σ : Store) (ys : List AVal) (v k' : Nat) (es : List AVal) : appB ver k off len sz bytes b σ ys (some (.arr v false k' es)) =
    chk (v = ver ∧ k = sz ∧ off = 0 ∧ len = es.length ∧ (es.length + ys.length) * bytes ≤ 70368744177664 ∧ es.length + ys.length ≤ 70368744177664)
      (some (.own b (ver + 1) sz 0 (es.length + ys.length), σ.set b (.arr (ver + 1) false sz (es ++ ys)))) := rfl
def appN (s : AState) (site bytes sz : Nat) (ys : List AVal) : Option (AVal × Store) :=
  if ys = [] then some (anil, s.σ) else lay s site (fun v => .arr v false sz ys) (fun b v => .own b v sz 0 ys.length)
@[go_sem] theorem appN_cons (s : AState) (site bytes sz : Nat) (y : AVal) (ys : List AVal) : appN s site bytes sz (y :: ys) = lay s site (fun v => .arr v false sz (y :: ys)) (fun b v => .own b v sz 0 (ys.length + 1)) := rfl
@[go_sem] theorem appN_nil (s : AState) (site bytes sz : Nat) : appN s site bytes sz [] = some (anil, s.σ) := rfl
def appV (s : AState) (site bytes sz : Nat) (ys : List AVal) : AVal → Option (AVal × Store)
  | .atom (.slice none 0 0) => chk (ys.length * bytes ≤ maxRoom ∧ ys.length ≤ maxRoom) (appN s site bytes sz ys)
  | .own b ver k off len => appB ver k off len sz bytes b s.σ ys (s.σ[b]?)
  | _ => none
@[go_sem] theorem appV_nil (s : AState) (site bytes sz : Nat) (ys : List AVal) : appV s site bytes sz ys anil = chk (ys.length * bytes ≤ 70368744177664 ∧ ys.length ≤ 70368744177664) (appN s site bytes sz ys) := rfl
@[go_sem] theorem appV_own (s : AState) (site bytes sz : Nat) (ys : List AVal) (b ver k off len : Nat) : appV s site bytes sz ys (.own b ver k off len) = appB ver k off len sz bytes b s.σ ys (s.σ[b]?) := rfl
def appY (s : AState) (site bytes sz : Nat) (x : AVal) : Option (List AVal) → Option (AVal × Store)
  | some ys => appV s site bytes sz ys x
  | none => none
@[go_sem] theorem appY_some (s : AState) (site bytes sz : Nat) (x : AVal) (ys : List AVal) : appY s site bytes sz x (some ys) = appV s site bytes sz ys x := rfl
@[go_sem] theorem step_app (site bytes sz : Nat) (x y : AOpd) : stepOp G c raw s (.app site bytes sz x y) = appY s site bytes sz (ev G s x) (ysV sz s.σ (ev G s y)) := by
  rw [stepC G c raw s rfl]
  have e : cop G c raw s (.app site bytes sz x y) = (match ysV sz s.σ (ev G s y) with
    | some ys => (match ev G s x with
       | .atom (.slice none 0 0) =>
         chk (ys.length * bytes ≤ maxRoom ∧ ys.length ≤ maxRoom)
           (if ys = [] then some (anil, s.σ) else lay s site (fun v => .arr v false sz ys) (fun b v => .own b v sz 0 ys.length))
       | .own b ver k off len => (match s.σ[b]? with
         | some (.arr v false _ es) =>
           chk (v = ver ∧ k = sz ∧ off = 0 ∧ len = es.length ∧ (es.length + ys.length) * bytes ≤ maxRoom ∧ es.length + ys.length ≤ maxRoom)
             (some (.own b (ver + 1) sz 0 (es.length + ys.length), s.σ.set b (.arr (ver + 1) false sz (es ++ ys))))
         | _ => none)
       | _ => none)
    | none => none) := rfl
  rw [e]
  cases ysV sz s.σ (ev G s y) with
  | none => rfl
  | some ys =>
    simp only [appY]
    cases ev G s x <;> rfl
def rawV : AVal → Bool
  | .fn k _ _ => raw k
  | _ => false
@[go_sem] theorem rawV_fn (f : FuncId) (x y : List AVal) : rawV raw (.fn f x y) = raw f := rfl
@[go_sem] theorem rawV_yld (b v : Nat) : rawV raw (.yld b v) = false := rfl
def recvK (s : AState) (site : Nat) : Option (AVal × Store) → Option (AVal × Store)
  | some (r, σ') => cop.recv s site (r, σ')
  | none => none
@[go_sem] theorem recvK_some (s : AState) (site : Nat) (r : AVal) (σ' : Store) : recvK s site (some (r, σ')) = cop.recv s site (r, σ') := rfl
@[go_sem] theorem recvK_none (s : AState) (site : Nat) : recvK s site none = none := rfl
def callA (c : CallF) (s : AState) (site : Nat) (fv : AVal) (σ : Store) : Option (List AVal) → Option (AVal × Store)
  | some as' => recvK s site (c fv as' σ)
  | none => none
@[go_sem] theorem callA_some (c : CallF) (s : AState) (site : Nat) (fv : AVal) (σ : Store) (as' : List AVal) : callA c s site fv σ (some as') = recvK s site (c fv as' σ) := rfl
def callB (c : CallF) (s : AState) (site : Nat) (fv : AVal) (as' : List AVal) : Bool → Option (AVal × Store)
  | true => recvK s site (c fv as' s.σ)
  | false => callA c s site fv (markArgs s.σ as') (frzArgs s.σ as')
@[go_sem] theorem callB_t (c : CallF) (s : AState) (site : Nat) (fv : AVal) (as' : List AVal) : callB c s site fv as' true = recvK s site (c fv as' s.σ) := rfl
@[go_sem] theorem callB_f (c : CallF) (s : AState) (site : Nat) (fv : AVal) (as' : List AVal) : callB c s site fv as' false = callA c s site fv (markArgs s.σ as') (frzArgs s.σ as') := rfl
@[go_sem] theorem step_call (site : Nat) (f : AOpd) (args : List AOpd) : stepOp G c raw s (.call site f args) = callB c s site (ev G s f) (args.map (ev G s)) (rawV raw (ev G s f)) := by
  rw [stepC G c raw s rfl]
  have e : cop G c raw s (.call site f args) = (match rawV raw (ev G s f) with
    | true => (c (ev G s f) (args.map (ev G s)) s.σ).bind (cop.recv s site)
    | false => (match frzArgs s.σ (args.map (ev G s)) with
      | some as' => (c (ev G s f) as' (markArgs s.σ (args.map (ev G s)))).bind (cop.recv s site)
      | none => none)) := rfl
  rw [e]
  cases rawV raw (ev G s f) with
  | true =>
    simp only [callB]
    cases c (ev G s f) (args.map (ev G s)) s.σ <;> rfl
  | false =>
    simp only [callB]
    cases frzArgs s.σ (args.map (ev G s)) with
    | none => rfl
    | some as' =>
      simp only [callA]
      cases c (ev G s f) as' (markArgs s.σ (args.map (ev G s))) <;> rfl
section
variable (tm : Nat → AVal) (σ σ' : Store) (base site : Nat)
@[go_sem] theorem recv_atom (v : Value) : cop.recv s site (.atom v, σ') = some (.atom v, σ') := rfl
@[go_sem] theorem recv_agg (cs : List AVal) : cop.recv s site (.agg cs, σ') = some (.agg cs, σ') := rfl
@[go_sem] theorem recv_tup (vs : List AVal) : cop.recv s site (.tup vs, σ') = some (.tup vs, σ') := rfl
@[go_sem] theorem recv_sl (es : List AVal) : cop.recv s site (.sl es, σ') = some (.sl es, σ') := rfl
@[go_sem] theorem recv_ptr (b v o : Nat) : cop.recv s site (.ptr b v o, σ') = some (.ptr b v o, σ') := rfl
@[go_sem] theorem recv_ep (b v i o : Nat) : cop.recv s site (.ep b v i o, σ') = some (.ep b v i o, σ') := rfl
@[go_sem] theorem recv_fp (cs : List AVal) : cop.recv s site (.fp cs, σ') = some (.fp cs, σ') := rfl
@[go_sem] theorem recv_fn (f : FuncId) (x y : List AVal) : cop.recv s site (.fn f x y, σ') = some (.fn f x y, σ') := rfl
@[go_sem] theorem recv_mp (b v : Nat) : cop.recv s site (.mp b v, σ') = some (.mp b v, σ') := rfl
@[go_sem] theorem recv_ifc (t : TypeId) (v : AVal) : cop.recv s site (.ifc t v, σ') = some (.ifc t v, σ') := rfl
def recvO (i n ver sz off len : Nat) (σ' : Store) : Option Box → Option Box → Option (AVal × Store)
  | some (.arr v false k es), some B => chk (v = ver ∧ k = sz ∧ σ'.length = n + 1 ∧ i < n) (some (.own i (B.ver + 1) sz off len, (σ'.take n).set i (.arr (B.ver + 1) false k es)))
  | _, _ => none
@[go_sem] theorem recvO_some (i n ver sz off len : Nat) (σ' : Store) (v k : Nat) (es : List AVal) (B : Box) : recvO i n ver sz off len σ' (some (.arr v false k es)) (some B) = chk (v = ver ∧ k = sz ∧ σ'.length = n + 1 ∧ i < n) (some (.own i (B.ver + 1) sz off len, (σ'.take n).set i (.arr (B.ver + 1) false k es))) := rfl
@[go_sem] theorem recv_own (b ver sz off len : Nat) : cop.recv ⟨tm, σ, base⟩ site (.own b ver sz off len, σ') = if b = σ.length then recvO (base + site) σ.length ver sz off len σ' (σ'[b]?) (σ'[base + site]?) else some (.own b ver sz off len, σ') := by
  simp only [cop.recv]
  split
  · cases σ'[b]? with
    | none => rfl
    | some X =>
      cases X <;> rfl
  · rfl
end

/-! what is written no more -/
section
variable (σ : Store)
@[go_sem] theorem frz_agg (cs : List AVal) : frz σ (.agg cs) = (frzL σ cs).map .agg := rfl
@[go_sem] theorem frz_tup (vs : List AVal) : frz σ (.tup vs) = (frz.frzT σ vs).map .tup := rfl
@[go_sem] theorem frz_atom (v : Value) : frz σ (.atom v) = frzV σ (.atom v) := rfl
@[go_sem] theorem frz_sl (es : List AVal) : frz σ (.sl es) = some (.sl es) := rfl
@[go_sem] theorem frz_own (b v k o l : Nat) : frz σ (.own b v k o l) = frzV σ (.own b v k o l) := rfl
@[go_sem] theorem frz_ptr (b v o : Nat) : frz σ (.ptr b v o) = some (.ptr b v o) := rfl
@[go_sem] theorem frz_ep (b v i o : Nat) : frz σ (.ep b v i o) = some (.ep b v i o) := rfl
@[go_sem] theorem frz_fp (cs : List AVal) : frz σ (.fp cs) = some (.fp cs) := rfl
@[go_sem] theorem frz_fn (f : FuncId) (x y : List AVal) : frz σ (.fn f x y) = some (.fn f x y) := rfl
@[go_sem] theorem frz_yld (b v : Nat) : frz σ (.yld b v) = some (.yld b v) := rfl
@[go_sem] theorem frz_mp (b v : Nat) : frz σ (.mp b v) = some (.mp b v) := rfl
@[go_sem] theorem frz_ifc (t : TypeId) (x : AVal) : frz σ (.ifc t x) = some (.ifc t x) := rfl
@[go_sem] theorem frzV_int (k : IntKind) (n : Int) : frzV σ (.atom (.int k n)) = some (.atom (.int k n)) := rfl
@[go_sem] theorem frzV_bool (b : Bool) : frzV σ (.atom (.bool b)) = some (.atom (.bool b)) := rfl
@[go_sem] theorem frzV_str (b : ByteArray) : frzV σ (.atom (.string b)) = some (.atom (.string b)) := rfl
@[go_sem] theorem frzV_nil : frzV σ anil = some (.sl []) := rfl
@[go_sem] theorem frzV_pnil : frzV σ (.atom (.pointer none)) = some (.atom (.pointer none)) := rfl
@[go_sem] theorem frzV_mnil : frzV σ (.atom (.map none)) = some (.atom (.map none)) := rfl
@[go_sem] theorem frzV_fnil : frzV σ (.atom .nilFunc) = some (.atom .nilFunc) := rfl
@[go_sem] theorem frzV_inil : frzV σ (.atom .nilIface) = some (.atom .nilIface) := rfl
@[go_sem] theorem frzV_sl (es : List AVal) : frzV σ (.sl es) = some (.sl es) := rfl
@[go_sem] theorem frzV_own (b v k o l : Nat) : frzV σ (.own b v k o l) = (contB v o l (σ[b]?)).map .sl := by
  simp only [frzV, cont_own]
@[go_sem] theorem frzV_ptr (b v o : Nat) : frzV σ (.ptr b v o) = some (.ptr b v o) := rfl
@[go_sem] theorem frzV_fp (cs : List AVal) : frzV σ (.fp cs) = some (.fp cs) := rfl
@[go_sem] theorem frzV_fn (f : FuncId) (x y : List AVal) : frzV σ (.fn f x y) = some (.fn f x y) := rfl
@[go_sem] theorem frzV_mp (b v : Nat) : frzV σ (.mp b v) = some (.mp b v) := rfl
@[go_sem] theorem frzV_ifc (t : TypeId) (x : AVal) : frzV σ (.ifc t x) = some (.ifc t x) := rfl
def markB (σ : Store) (b : Nat) : Option Box → Store
  | some (.arr v _ sz es) => σ.set b (.arr v true sz es)
  | _ => σ
@[go_sem] theorem markB_arr (b v : Nat) (fz : Bool) (sz : Nat) (es : List AVal) : markB σ b (some (.arr v fz sz es)) = σ.set b (.arr v true sz es) := rfl
@[go_sem] theorem markV_own (b v k o l : Nat) : markV σ (.own b v k o l) = markB σ b (σ[b]?) := by
  simp only [markV]
  cases σ[b]? with
  | none => rfl
  | some B => cases B <;> rfl
@[go_sem] theorem markV_atom (v : Value) : markV σ (.atom v) = σ := rfl
@[go_sem] theorem markV_sl (es : List AVal) : markV σ (.sl es) = σ := rfl
@[go_sem] theorem markV_ptr (b v o : Nat) : markV σ (.ptr b v o) = σ := rfl
@[go_sem] theorem markV_fp (cs : List AVal) : markV σ (.fp cs) = σ := rfl
@[go_sem] theorem markV_fn (f : FuncId) (x y : List AVal) : markV σ (.fn f x y) = σ := rfl
@[go_sem] theorem markV_mp (b v : Nat) : markV σ (.mp b v) = σ := rfl
@[go_sem] theorem markV_ifc (t : TypeId) (x : AVal) : markV σ (.ifc t x) = σ := rfl
@[go_sem] theorem mark_agg (cs : List AVal) : mark σ (.agg cs) = markL σ cs := rfl
@[go_sem] theorem mark_tup (vs : List AVal) : mark σ (.tup vs) = mark.markT σ vs := rfl
@[go_sem] theorem mark_atom (v : Value) : mark σ (.atom v) = σ := rfl
@[go_sem] theorem mark_sl (es : List AVal) : mark σ (.sl es) = σ := rfl
@[go_sem] theorem mark_own (b v k o l : Nat) : mark σ (.own b v k o l) = markB σ b (σ[b]?) := markV_own σ b v k o l
@[go_sem] theorem mark_ptr (b v o : Nat) : mark σ (.ptr b v o) = σ := rfl
@[go_sem] theorem mark_ep (b v i o : Nat) : mark σ (.ep b v i o) = σ := rfl
@[go_sem] theorem mark_fp (cs : List AVal) : mark σ (.fp cs) = σ := rfl
@[go_sem] theorem mark_fn (f : FuncId) (x y : List AVal) : mark σ (.fn f x y) = σ := rfl
@[go_sem] theorem mark_yld (b v : Nat) : mark σ (.yld b v) = σ := rfl
@[go_sem] theorem mark_mp (b v : Nat) : mark σ (.mp b v) = σ := rfl
@[go_sem] theorem mark_ifc (t : TypeId) (x : AVal) : mark σ (.ifc t x) = σ := rfl
end

/-! what is handed back -/
@[go_sem] theorem resOf_tmp (tm : Nat → AVal) (σ : Store) (b t : Nat) : resOf ⟨tm, σ, b⟩ (.tmp t) = some (tm t) := rfl
def resC (g : Bool) (sz : Nat) (σ : Store) : AVal → Option AVal
  | .ptr b ver off => ldP g sz ver off (σ[b]?)
  | _ => none
@[go_sem] theorem resC_ptr (g : Bool) (sz : Nat) (σ : Store) (b ver off : Nat) : resC g sz σ (.ptr b ver off) = ldP g sz ver off (σ[b]?) := rfl
@[go_sem] theorem resOf_cell (tm : Nat → AVal) (σ : Store) (b a : Nat) (g : Bool) (sz : Nat) : resOf ⟨tm, σ, b⟩ (.cell a g sz) = resC g sz σ (tm a) := by
  simp only [resOf]
  cases tm a <;> rfl
open Classical in
noncomputable def finF (σ : Store) (r : AVal) (σ' : Store) : Option AVal → Option (AVal × Store)
  | some r' => chk (wfV σ.length r' = true ∧ okTake (mark σ' r) σ) (some (r', (mark σ' r).take σ.length))
  | none => none
open Classical in
@[go_sem] theorem finF_some (σ : Store) (r : AVal) (σ' : Store) (r' : AVal) : finF σ r σ' (some r') = chk (wfV σ.length r' = true ∧ okTake (mark σ' r) σ) (some (r', (mark σ' r).take σ.length)) := rfl
@[go_sem] theorem finish_frozen (σ : Store) (r : AVal) (σ' : Store) : finish .frozen σ r σ' = finF σ r σ' (frz σ' r) := by
  simp only [finish]
  cases frz σ' r <;> rfl
open Classical in
noncomputable def finO (σ σ' : Store) (ver sz off len : Nat) : Option Box → Option (AVal × Store)
  | some (.arr v false k es) => chk (v = ver ∧ k = sz ∧ off = 0 ∧ len = es.length ∧ okTake σ' σ) (some (.own σ.length 0 sz 0 len, σ'.take σ.length ++ [.arr 0 false sz es]))
  | _ => none
open Classical in
@[go_sem] theorem finO_arr (σ σ' : Store) (ver sz off len v k : Nat) (es : List AVal) : finO σ σ' ver sz off len (some (.arr v false k es)) = chk (v = ver ∧ k = sz ∧ off = 0 ∧ len = es.length ∧ okTake σ' σ) (some (.own σ.length 0 sz 0 len, σ'.take σ.length ++ [.arr 0 false sz es])) := rfl
@[go_sem] theorem finish_own (σ : Store) (b ver sz off len : Nat) (σ' : Store) : finish .own σ (.own b ver sz off len) σ' =
    if b < σ.length then @chk _ (okTake σ' σ) (Classical.propDecidable _) (some (.own b ver sz off len, σ'.take σ.length)) else finO σ σ' ver sz off len (σ'[b]?) := by
  simp only [finish]
  split
  · rfl
  · cases σ'[b]? with
    | none => rfl
    | some B =>
      cases B <;> rfl
@[go_sem] theorem finish_own_atom (σ : Store) (v : Value) (σ' : Store) : finish .own σ (.atom v) σ' = finF σ (.atom v) σ' (frz σ' (.atom v)) := by
  simp only [finish]
  cases frz σ' (.atom v) <;> rfl
@[go_sem] theorem finish_own_sl (σ : Store) (es : List AVal) (σ' : Store) : finish .own σ (.sl es) σ' = finF σ (.sl es) σ' (some (.sl es)) := rfl
@[go_sem] theorem finish_own_tup (σ : Store) (vs : List AVal) (σ' : Store) : finish .own σ (.tup vs) σ' = finF σ (.tup vs) σ' (frz σ' (.tup vs)) := by
  simp only [finish]
  cases frz σ' (.tup vs) <;> rfl
@[go_sem] theorem finish_own_agg (σ : Store) (vs : List AVal) (σ' : Store) : finish .own σ (.agg vs) σ' = finF σ (.agg vs) σ' (frz σ' (.agg vs)) := by
  simp only [finish]
  cases frz σ' (.agg vs) <;> rfl
@[go_sem] theorem finish_esc_ptr (σ : Store) (b v o : Nat) (σ' : Store) : finish .escape σ (.ptr b v o) σ' = some (.ptr b v o, σ') := rfl
@[go_sem] theorem finish_esc_fn (σ : Store) (f : FuncId) (x y : List AVal) (σ' : Store) : finish .escape σ (.fn f x y) σ' = some (.fn f x y, σ') := rfl
@[go_sem] theorem finish_esc_atom (σ : Store) (v : Value) (σ' : Store) : finish .escape σ (.atom v) σ' = some (.atom v, σ') := rfl
@[go_sem] theorem finish_esc_agg (σ : Store) (cs : List AVal) (σ' : Store) : finish .escape σ (.agg cs) σ' = some (.agg cs, σ') := rfl
@[go_sem] theorem finish_esc_mp (σ : Store) (b v : Nat) (σ' : Store) : finish .escape σ (.mp b v) σ' = some (.mp b v, σ') := rfl

/-! which box is read -/
def footV : AVal → Option Nat
  | .ptr b _ _ | .ep b _ _ _ => some b
  | _ => none
@[go_sem] theorem footV_ptr (b v o : Nat) : footV (.ptr b v o) = some b := rfl
@[go_sem] theorem footV_ep (b v i o : Nat) : footV (.ep b v i o) = some b := rfl
@[go_sem] theorem footV_fp (cs : List AVal) : footV (.fp cs) = none := rfl
@[go_sem] theorem foot_ld (g : Bool) (n : Nat) (x : AOpd) : foot G s (.ld g n x) = footV (ev G s x) := by
  simp only [foot]
  cases ev G s x <;> rfl
def footO : AVal → Option Nat
  | .own b _ _ _ _ => some b
  | _ => none
@[go_sem] theorem footO_own (b v k o l : Nat) : footO (.own b v k o l) = some b := rfl
@[go_sem] theorem footO_sl (es : List AVal) : footO (.sl es) = none := rfl
@[go_sem] theorem footO_nil : footO anil = none := rfl
@[go_sem] theorem foot_b2s (x : AOpd) : foot G s (.b2s x) = footO (ev G s x) := by
  simp only [foot]
  cases ev G s x <;> rfl
def footM : AVal → Option Nat
  | .mp b _ => some b
  | _ => none
@[go_sem] theorem footM_mp (b v : Nat) : footM (.mp b v) = some b := rfl
@[go_sem] theorem foot_lookup (z : AVal) (ok : Bool) (x y : AOpd) : foot G s (.lookup z ok x y) = footM (ev G s x) := by
  simp only [foot]
  cases ev G s x <;> rfl
end
noncomputable def condV (E : Env) (a b : ACode) (s : AState) : AVal → Option (AExit × AState)
  | .atom (.bool t) => if t = true then exec E a s else exec E b s
  | _ => none
@[go_sem] theorem exec_condV (c : AOpd) (a b : ACode) (s : AState) : exec E (.cond c a b) s = condV E a b s (ev E.G s c) := exec_cond c a b s
@[go_sem] theorem condV_true (a b : ACode) (s : AState) : condV E a b s (.atom (.bool true)) = exec E a s := rfl
@[go_sem] theorem condV_false (a b : ACode) (s : AState) : condV E a b s (.atom (.bool false)) = exec E b s := rfl
theorem condV_bool (a b : ACode) (s : AState) (t : Bool) : condV E a b s (.atom (.bool t)) = if t = true then exec E a s else exec E b s := rfl
section
variable (v : Value) (cs first cap es : List AVal) (b ver sz off len i n : Nat) (t : TypeId) (x : AVal)
@[go_sem] theorem oneA_atom : oneA (.atom v) = true := rfl
@[go_sem] theorem oneA_sl : oneA (.sl es) = true := rfl
@[go_sem] theorem oneA_sn : oneA (.sn es) = true := rfl
@[go_sem] theorem oneA_own : oneA (.own b ver sz off len) = true := rfl
@[go_sem] theorem oneA_ptr : oneA (.ptr b ver off) = true := rfl
@[go_sem] theorem oneA_ep : oneA (.ep b ver i off) = true := rfl
@[go_sem] theorem oneA_fp : oneA (.fp cs) = true := rfl
@[go_sem] theorem oneA_fn (f : FuncId) : oneA (.fn f first cap) = true := rfl
@[go_sem] theorem oneA_yld : oneA (.yld b ver) = true := rfl
@[go_sem] theorem oneA_mp : oneA (.mp b ver) = true := rfl
@[go_sem] theorem oneA_ifc : oneA (.ifc t x) = true := rfl
@[go_sem] theorem pureV_atom : pureV (.atom v) = true := by simp [pureV]
@[go_sem] theorem pureV_sl : pureV (.sl es) = true := by simp [pureV]
@[go_sem] theorem pureV_fp : pureV (.fp cs) = true := by simp [pureV]
@[go_sem] theorem pureV_agg : pureV (.agg cs) = pureL cs := by simp [pureV]
@[go_sem] theorem pureV_ifc : pureV (.ifc t x) = pureV x := by simp [pureV]
end
@[go_sem] theorem AVal.cells_own (b v k o l : Nat) : (AVal.own b v k o l).cells = [.own b v k o l] := rfl
@[go_sem] theorem AVal.cells_ptr (b v o : Nat) : (AVal.ptr b v o).cells = [.ptr b v o] := rfl
@[go_sem] theorem AVal.cells_fn (f : FuncId) (x y : List AVal) : (AVal.fn f x y).cells = [.fn f x y] := rfl
@[go_sem] theorem AVal.cells_mp (b v : Nat) : (AVal.mp b v).cells = [.mp b v] := rfl
@[go_sem] theorem AVal.cells_ifc (t : TypeId) (x : AVal) : (AVal.ifc t x).cells = [.ifc t x] := rfl
end Go.Abs
