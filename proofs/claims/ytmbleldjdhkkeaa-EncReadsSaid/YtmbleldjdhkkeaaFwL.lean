/- The abstract machine without a count of rounds: what it comes to, and its equations. -/
import Derived.Test.YtmbleldjdhkkeaaFwA
set_option linter.unusedSimpArgs false
set_option linter.unusedVariables false
namespace Go.Abs

section lim
variable {α : Type}
theorem limO_some {f : Nat → Option α} (hf : ∀ n r, f n = some r → f (n + 1) = some r) {r : α} : limO f = some r ↔ ∃ n, f n = some r := by
  have up : ∀ n k r, f n = some r → f (n + k) = some r := by
    intro n k
    induction k with
    | zero => intro r h; exact h
    | succ k ih => intro r h; exact hf _ _ (ih r h)
  constructor
  · intro h
    unfold limO at h
    split at h
    · exact ⟨_, h⟩
    · cases h
  · rintro ⟨n, hn⟩
    unfold limO
    have h : ∃ n r, f n = some r := ⟨n, r, hn⟩
    rw [dif_pos h]
    obtain ⟨r', hr'⟩ := h.choose_spec
    have a := up _ n _ hr'
    have b := up n h.choose _ hn
    rw [Nat.add_comm] at b
    rw [a] at b
    rw [hr', b]
end lim

def Le {α β : Type} (f g : α → Option β) : Prop := ∀ x r, f x = some r → g x = some r
abbrev CallF := AVal → List AVal → Store → Option (AVal × Store)
abbrev ExecF := ACode → AState → Option (AExit × AState)
def LeC (f g : CallF) : Prop := ∀ v a σ r, f v a σ = some r → g v a σ = some r
def LeE (f g : ExecF) : Prop := ∀ c s r, f c s = some r → g c s = some r

section mono
variable {G : Nat → Option (List AVal)} {c c' : CallF} {raw : FuncId → Bool}

theorem cop_noncall {s : AState} {o : AOp} (h : ∀ site f args, o ≠ .call site f args) : cop G c raw s o = cop G c' raw s o := by
  cases o <;> first | rfl | exact absurd rfl (h _ _ _)

theorem cop_mono (hc : LeC c c') {s : AState} {o : AOp} {r : AVal × Store} (h : cop G c raw s o = some r) : cop G c' raw s o = some r := by
  by_cases hn : ∃ site f args, o = .call site f args
  · obtain ⟨site, f, args, rfl⟩ := hn
    unfold cop at h ⊢
    try dsimp only at h ⊢
    split at h
    · rename_i hr
      rw [Option.bind_eq_some_iff] at h ⊢
      obtain ⟨a, ha, hb⟩ := h
      exact ⟨a, hc _ _ _ _ ha, hb⟩
    · rename_i hr
      split at h
      · rename_i as' hf
        try rw [hf]
        try dsimp only
        rw [Option.bind_eq_some_iff] at h ⊢
        obtain ⟨a, ha, hb⟩ := h
        exact ⟨a, hc _ _ _ _ ha, hb⟩
      · cases h
  · rw [← cop_noncall (c := c)]
    · exact h
    · intro site f args e; exact hn ⟨_, _, _, e⟩

theorem stepOp_mono (hc : LeC c c') {s : AState} {o : AOp} {r : AVal × Store} (h : stepOp G c raw s o = some r) : stepOp G c' raw s o = some r := by
  unfold stepOp at h ⊢
  split at h
  · rename_i he; rw [if_pos he]; exact h
  · rename_i he; rw [if_neg he]; exact cop_mono hc h

theorem stepF_mono (hc : LeC c c') {s : AState} {o : AOp} {fl : Bool} {av : List Nat} {r : AVal × Store} (h : stepF G c raw s o fl av = some r) : stepF G c' raw s o fl av = some r := by
  unfold stepF at h ⊢
  rw [Option.bind_eq_some_iff] at h ⊢
  obtain ⟨a, ha, hb⟩ := h
  exact ⟨a, stepOp_mono hc ha, hb⟩

theorem runG_mono (hc : LeC c c') : ∀ (l : GOps) {s s' : AState}, runG G c raw l s = some s' → runG G c' raw l s = some s' := by
  intro l
  induction l with
  | nil => intro s s' h; exact h
  | one d op fl av r ih =>
    intro s s' h
    unfold runG at h ⊢
    rw [Option.bind_eq_some_iff] at h ⊢
    obtain ⟨a, ha, hb⟩ := h
    exact ⟨a, stepF_mono hc ha, ih hb⟩
  | sc d lo hi g want sub x y r ihs ih =>
    intro s s' h
    unfold runG at h ⊢
    rw [Option.bind_eq_some_iff] at h ⊢
    obtain ⟨z, hz, hb⟩ := h
    refine ⟨z, ?_, ih hb⟩
    split at hz
    · rename_i t ht
      try rw [ht]
      try dsimp only
      split at hz
      · rename_i hw
        rw [if_pos hw]
        rw [Option.map_eq_some_iff] at hz ⊢
        obtain ⟨a, ha, e⟩ := hz
        exact ⟨a, ihs ha, e⟩
      · rename_i hw
        rw [if_neg hw]
        exact hz
    · cases hz
end mono

/-! Chains -/
section cont
variable {G : Nat → Option (List AVal)} {raw : FuncId → Bool} {cs : Nat → CallF} {c : CallF}

theorem chainC (hm : ∀ n, LeC (cs n) (cs (n + 1))) (n k : Nat) : LeC (cs n) (cs (n + k)) := by
  induction k with
  | zero => intro v a σ r h; exact h
  | succ k ih => intro v a σ r h; exact hm _ _ _ _ _ (ih _ _ _ _ h)

theorem chainCle (hm : ∀ n, LeC (cs n) (cs (n + 1))) {n m : Nat} (h : n ≤ m) : LeC (cs n) (cs m) := by
  obtain ⟨k, rfl⟩ := Nat.exists_eq_add_of_le h
  exact chainC hm n k

theorem cop_cont (hc : ∀ v a σ r, c v a σ = some r → ∃ n, cs n v a σ = some r) {s : AState} {o : AOp} {r : AVal × Store} (h : cop G c raw s o = some r) :
    ∃ n, cop G (cs n) raw s o = some r := by
  by_cases hn : ∃ site f args, o = .call site f args
  · obtain ⟨site, f, args, rfl⟩ := hn
    unfold cop at h ⊢
    try dsimp only at h ⊢
    split at h
    · rename_i hr
      rw [Option.bind_eq_some_iff] at h
      obtain ⟨a, ha, hb⟩ := h
      obtain ⟨n, hn⟩ := hc _ _ _ _ ha
      exact ⟨n, by rw [hn]; exact hb⟩
    · rename_i hr
      split at h
      · rename_i as' hf
        rw [Option.bind_eq_some_iff] at h
        obtain ⟨a, ha, hb⟩ := h
        obtain ⟨n, hn⟩ := hc _ _ _ _ ha
        exact ⟨n, by rw [hn]; exact hb⟩
      · cases h
  · refine ⟨0, ?_⟩
    rw [← cop_noncall (c := c)]
    · exact h
    · intro site f args e; exact hn ⟨_, _, _, e⟩

theorem stepOp_cont (hc : ∀ v a σ r, c v a σ = some r → ∃ n, cs n v a σ = some r) {s : AState} {o : AOp} {r : AVal × Store} (h : stepOp G c raw s o = some r) :
    ∃ n, stepOp G (cs n) raw s o = some r := by
  unfold stepOp at h
  split at h
  · rename_i he; exact ⟨0, by unfold stepOp; rw [if_pos he]; exact h⟩
  · rename_i he
    obtain ⟨n, hn⟩ := cop_cont hc h
    exact ⟨n, by unfold stepOp; rw [if_neg he]; exact hn⟩

theorem stepF_cont (hc : ∀ v a σ r, c v a σ = some r → ∃ n, cs n v a σ = some r) {s : AState} {o : AOp} {fl : Bool} {av : List Nat} {r : AVal × Store} (h : stepF G c raw s o fl av = some r) :
    ∃ n, stepF G (cs n) raw s o fl av = some r := by
  unfold stepF at h
  rw [Option.bind_eq_some_iff] at h
  obtain ⟨a, ha, hb⟩ := h
  obtain ⟨n, hn⟩ := stepOp_cont hc ha
  exact ⟨n, by unfold stepF; rw [hn]; exact hb⟩

theorem runG_cont (hm : ∀ n, LeC (cs n) (cs (n + 1))) (hc : ∀ v a σ r, c v a σ = some r → ∃ n, cs n v a σ = some r) :
    ∀ (l : GOps) {s s' : AState}, runG G c raw l s = some s' → ∃ n, runG G (cs n) raw l s = some s' := by
  intro l
  induction l with
  | nil => intro s s' h; exact ⟨0, h⟩
  | one d op fl av r ih =>
    intro s s' h
    unfold runG at h
    rw [Option.bind_eq_some_iff] at h
    obtain ⟨a, ha, hb⟩ := h
    obtain ⟨n, hn⟩ := stepF_cont hc ha
    obtain ⟨m, hm'⟩ := ih hb
    refine ⟨max n m, ?_⟩
    unfold runG
    rw [stepF_mono (chainCle hm (Nat.le_max_left n m)) hn]
    exact runG_mono (chainCle hm (Nat.le_max_right n m)) _ hm'
  | sc d lo hi g want sub x y r ihs ih =>
    intro s s' h
    unfold runG at h
    rw [Option.bind_eq_some_iff] at h
    obtain ⟨z, hz, hb⟩ := h
    obtain ⟨m, hm'⟩ := ih hb
    split at hz
    · rename_i t ht
      split at hz
      · rename_i hw
        rw [Option.map_eq_some_iff] at hz
        obtain ⟨a, ha, e⟩ := hz
        obtain ⟨n, hn⟩ := ihs ha
        refine ⟨max n m, ?_⟩
        unfold runG
        rw [ht]
        dsimp only
        rw [if_pos hw, runG_mono (chainCle hm (Nat.le_max_left n m)) _ hn]
        simp only [Option.map_some, e, Option.bind_some]
        exact runG_mono (chainCle hm (Nat.le_max_right n m)) _ hm'
      · rename_i hw
        refine ⟨m, ?_⟩
        unfold runG
        rw [ht]
        dsimp only
        rw [if_neg hw, hz]
        exact hm'
    · cases hz
end cont

section eqs
variable {E : Env}

theorem execF_mono {e e' : ExecF} {c c' : CallF} (he : LeE e e') (hc : LeC c c') : LeE (execF E e c) (execF E e' c') := by
  intro a s r h
  cases a with
  | skip => exact h
  | region ops =>
    simp only [execF, Option.map_eq_some_iff] at h ⊢
    obtain ⟨x, hx, hr⟩ := h
    exact ⟨x, runG_mono hc _ hx, hr⟩
  | seq a b =>
    simp only [execF, Option.bind_eq_some_iff] at h ⊢
    obtain ⟨⟨x, s'⟩, hx, hr⟩ := h
    refine ⟨_, he _ _ _ hx, ?_⟩
    cases x <;> first | exact he _ _ _ hr | exact hr
  | cond o a b =>
    simp only [execF] at h ⊢
    split at h
    · rename_i t ht
      try rw [ht]
      try dsimp only
      cases t
      · simp only [Bool.false_eq_true, if_false] at h ⊢; exact he _ _ _ h
      · simp only [if_true] at h ⊢; exact he _ _ _ h
    · cases h
  | block id b =>
    simp only [execF, Option.map_eq_some_iff] at h ⊢
    obtain ⟨x, hx, hr⟩ := h
    exact ⟨x, he _ _ _ hx, hr⟩
  | loop b =>
    simp only [execF, Option.bind_eq_some_iff] at h ⊢
    obtain ⟨⟨x, s'⟩, hx, hr⟩ := h
    refine ⟨_, he _ _ _ hx, ?_⟩
    cases x <;> first | exact he _ _ _ hr | exact hr
  | rangeFunc site f ps assign body =>
    simp only [execF] at h ⊢
    split at h
    · rename_i B hB
      try rw [hB]
      try dsimp only
      split at h
      · rename_i v σ2 hcall
        rw [hc _ _ _ _ hcall]
        try dsimp only
        split at h
        · rename_i v' st pend _ _ _ _ _ h1
          try rw [h1]
          try dsimp only
          rw [chk_some] at h ⊢
          refine ⟨h.1, ?_⟩
          cases pend with
          | none => exact h.2
          | some x => exact he _ _ _ h.2
        · cases h
      · cases h
    · cases h
  | exit id => exact h
  | ret => exact h

theorem callF_mono {e e' : ExecF} (he : LeE e e') : LeC (callF E e) (callF E e') := by
  intro v a σ r h
  cases v with
  | fn f first cap =>
    simp only [callF] at h ⊢
    split at h
    · rename_i g hg; try rw [hg]
      exact h
    · rename_i hg
      try rw [hg]
      try dsimp only
      split at h
      · rename_i A hA
        try rw [hA]
        try dsimp only
        split at h
        · rename_i s hs; rw [he _ _ _ hs]; exact h
        · rename_i s hs; rw [he _ _ _ hs]; exact h
        · cases h
      · cases h
  | yld l ver =>
    simp only [callF] at h ⊢
    split at h
    · rename_i v tm base ps assign body hl
      try rw [hl]
      try dsimp only
      rw [chk_some] at h ⊢
      refine ⟨h.1, ?_⟩
      have h := h.2
      split at h
      · rename_i s1 h1
        rw [he _ _ _ h1]
        dsimp only
        split at h
        · rename_i v1 pend1 tm1 base1 ps1 assign1 body1 hbox
          rw [chk_some] at h ⊢
          refine ⟨h.1, ?_⟩
          have h := h.2
          split at h
          · rename_i x s2 h2
            rw [he _ _ _ h2]
            exact h
          · cases h
        · cases h
      · cases h
    · cases h
  | _ => simp only [callF] at h; cases h

theorem N_mono (n : Nat) : LeE (execN E n) (execN E (n + 1)) ∧ LeC (callN E n) (callN E (n + 1)) := by
  induction n with
  | zero =>
    constructor
    · intro c s r h; simp only [execN] at h; cases h
    · intro v a σ r h; simp only [callN] at h; cases h
  | succ n ih =>
    constructor
    · intro c s r h
      rw [execN] at h ⊢
      exact execF_mono ih.1 ih.2 _ _ _ h
    · intro v a σ r h
      rw [callN] at h ⊢
      exact callF_mono ih.1 _ _ _ _ h

theorem exec_some {c : ACode} {s : AState} {r : AExit × AState} : exec E c s = some r ↔ ∃ n, execN E n c s = some r :=
  limO_some fun n r h => (N_mono n).1 _ _ _ h
theorem callv_some {v : AVal} {a : List AVal} {σ : Store} {r : AVal × Store} : callv E v a σ = some r ↔ ∃ n, callN E n v a σ = some r :=
  limO_some fun n r h => (N_mono n).2 _ _ _ _ h

theorem execN_le {n m : Nat} (h : n ≤ m) : LeE (execN E n) (execN E m) := by
  obtain ⟨k, rfl⟩ := Nat.exists_eq_add_of_le h
  clear h
  induction k with
  | zero => intro c s r h; exact h
  | succ k ih => intro c s r h; exact (N_mono _).1 _ _ _ (ih _ _ _ h)
theorem callN_le {n m : Nat} (h : n ≤ m) : LeC (callN E n) (callN E m) := chainCle (fun n => (N_mono n).2) h

theorem execF_cont {a : ACode} {s : AState} {r : AExit × AState} (h : execF E (exec E) (callv E) a s = some r) : ∃ n, execF E (execN E n) (callN E n) a s = some r := by
  have hm := fun n => (N_mono (E := E) n).2
  have hc : ∀ v a σ r, callv E v a σ = some r → ∃ n, callN E n v a σ = some r := fun v a σ r h => callv_some.1 h
  cases a with
  | skip => exact ⟨0, h⟩
  | region ops =>
    simp only [execF, Option.map_eq_some_iff] at h ⊢
    obtain ⟨x, hx, hr⟩ := h
    obtain ⟨n, hn⟩ := runG_cont hm hc _ hx
    exact ⟨n, x, hn, hr⟩
  | seq a b =>
    simp only [execF, Option.bind_eq_some_iff] at h ⊢
    obtain ⟨⟨x, s'⟩, hx, hr⟩ := h
    obtain ⟨n, hn⟩ := exec_some.1 hx
    cases x with
    | normal =>
      obtain ⟨m, hm⟩ := exec_some.1 hr
      exact ⟨max n m, _, execN_le (Nat.le_max_left n m) _ _ _ hn, execN_le (Nat.le_max_right n m) _ _ _ hm⟩
    | exit id => exact ⟨n, _, hn, hr⟩
    | ret => exact ⟨n, _, hn, hr⟩
  | cond o a b =>
    simp only [execF] at h ⊢
    split at h
    · rename_i t ht
      try rw [ht]
      try dsimp only
      cases t
      · simp only [Bool.false_eq_true, if_false] at h ⊢; exact exec_some.1 h
      · simp only [if_true] at h ⊢; exact exec_some.1 h
    · cases h
  | block id b =>
    simp only [execF, Option.map_eq_some_iff] at h ⊢
    obtain ⟨x, hx, hr⟩ := h
    obtain ⟨n, hn⟩ := exec_some.1 hx
    exact ⟨n, x, hn, hr⟩
  | loop b =>
    simp only [execF, Option.bind_eq_some_iff] at h ⊢
    obtain ⟨⟨x, s'⟩, hx, hr⟩ := h
    obtain ⟨n, hn⟩ := exec_some.1 hx
    cases x with
    | normal =>
      obtain ⟨m, hm⟩ := exec_some.1 hr
      exact ⟨max n m, _, execN_le (Nat.le_max_left n m) _ _ _ hn, execN_le (Nat.le_max_right n m) _ _ _ hm⟩
    | exit id => exact ⟨n, _, hn, hr⟩
    | ret => exact ⟨n, _, hn, hr⟩
  | rangeFunc site f ps assign body =>
    simp only [execF] at h ⊢
    split at h
    · rename_i B hB
      try rw [hB]
      try dsimp only
      split at h
      · rename_i v σ2 hcall
        obtain ⟨n, hn⟩ := callv_some.1 hcall
        split at h
        · rename_i v' st pend _ _ _ _ _ h1
          rw [chk_some] at h
          cases pend with
          | none =>
            refine ⟨n, ?_⟩
            rw [hn]
            dsimp only
            rw [h1]
            dsimp only
            rw [chk_some]
            exact h
          | some x =>
            obtain ⟨m, hm⟩ := exec_some.1 h.2
            refine ⟨max n m, ?_⟩
            rw [callN_le (Nat.le_max_left n m) _ _ _ _ hn]
            dsimp only
            rw [h1]
            dsimp only
            rw [chk_some]
            exact ⟨h.1, execN_le (Nat.le_max_right n m) _ _ _ hm⟩
        · cases h
      · cases h
    · cases h
  | exit id => exact ⟨0, h⟩
  | ret => exact ⟨0, h⟩

theorem callF_cont {v : AVal} {a : List AVal} {σ : Store} {r : AVal × Store} (h : callF E (exec E) v a σ = some r) : ∃ n, callF E (execN E n) v a σ = some r := by
  cases v with
  | fn f first cap =>
    simp only [callF] at h ⊢
    split at h
    · rename_i g hg; try rw [hg]
      exact ⟨0, h⟩
    · rename_i hg
      try rw [hg]
      try dsimp only
      split at h
      · rename_i A hA
        try rw [hA]
        try dsimp only
        split at h
        · rename_i s hs
          obtain ⟨n, hn⟩ := exec_some.1 hs
          exact ⟨n, by rw [hn]; exact h⟩
        · rename_i s hs
          obtain ⟨n, hn⟩ := exec_some.1 hs
          exact ⟨n, by rw [hn]; exact h⟩
        · cases h
      · cases h
  | yld l ver =>
    simp only [callF] at h ⊢
    split at h
    · rename_i v tm base ps assign body hl
      try rw [hl]
      try dsimp only
      rw [chk_some] at h
      have hv := h.1
      have h := h.2
      split at h
      · rename_i s1 h1
        obtain ⟨n, hn⟩ := exec_some.1 h1
        split at h
        · rename_i v1 pend1 tm1 base1 ps1 assign1 body1 hbox
          rw [chk_some] at h
          obtain ⟨hv1, h⟩ := h
          split at h
          · rename_i x s2 h2
            obtain ⟨m, hm⟩ := exec_some.1 h2
            refine ⟨max n m, ?_⟩
            rw [chk_some]
            refine ⟨hv, ?_⟩
            rw [execN_le (Nat.le_max_left n m) _ _ _ hn]
            dsimp only
            rw [hbox]
            dsimp only
            rw [chk_some]
            refine ⟨hv1, ?_⟩
            rw [execN_le (Nat.le_max_right n m) _ _ _ hm]
            exact h
          · cases h
        · cases h
      · cases h
    · cases h
  | _ => simp only [callF] at h; cases h

theorem opt_ext {α : Type} {a b : Option α} (h : ∀ r, a = some r ↔ b = some r) : a = b := by
  cases a with
  | none => cases b with
    | none => rfl
    | some y => exact absurd ((h y).2 rfl) (by simp)
  | some x => exact ((h x).1 rfl).symm

theorem exec_eq (c : ACode) (s : AState) : exec E c s = execF E (exec E) (callv E) c s := by
  apply opt_ext
  intro r
  constructor
  · intro h
    obtain ⟨n, hn⟩ := exec_some.1 h
    cases n with
    | zero => simp only [execN] at hn; cases hn
    | succ n =>
      rw [execN] at hn
      exact execF_mono (fun c s r h => exec_some.2 ⟨n, h⟩) (fun v a σ r h => callv_some.2 ⟨n, h⟩) _ _ _ hn
  · intro h
    obtain ⟨n, hn⟩ := execF_cont h
    exact exec_some.2 ⟨n + 1, by rw [execN]; exact hn⟩

theorem callv_eq (v : AVal) (a : List AVal) (σ : Store) : callv E v a σ = callF E (exec E) v a σ := by
  apply opt_ext
  intro r
  constructor
  · intro h
    obtain ⟨n, hn⟩ := callv_some.1 h
    cases n with
    | zero => simp only [callN] at hn; cases hn
    | succ n =>
      rw [callN] at hn
      exact callF_mono (fun c s r h => exec_some.2 ⟨n, h⟩) _ _ _ _ hn
  · intro h
    obtain ⟨n, hn⟩ := callF_cont h
    exact callv_some.2 ⟨n + 1, by rw [callN]; exact hn⟩

/-! The equations, one for each form -/
theorem exec_skip (s : AState) : exec E .skip s = some (.normal, s) := exec_eq _ _
theorem exec_region (ops : GOps) (s : AState) : exec E (.region ops) s = (runG E.G (callv E) E.raw ops s).map fun s => (.normal, s) := exec_eq _ _
noncomputable def thenX (E : Env) (b : ACode) (r : AExit × AState) : Option (AExit × AState) :=
  match r with
  | (.normal, s') => exec E b s'
  | r => some r
theorem exec_seq (a b : ACode) (s : AState) : exec E (.seq a b) s = (exec E a s).bind (thenX E b) := by
  rw [exec_eq]; simp only [execF]
  rfl
theorem exec_cond (c : AOpd) (a b : ACode) (s : AState) : exec E (.cond c a b) s = (match ev E.G s c with | .atom (.bool t) => if t then exec E a s else exec E b s | _ => none) := by
  rw [exec_eq]; rfl
def blockX (id : Nat) (r : AExit × AState) : AExit × AState :=
  match r with
  | (.exit i, s') => if i = id then (.normal, s') else (.exit i, s')
  | r => r
theorem exec_block (id : Nat) (b : ACode) (s : AState) : exec E (.block id b) s = (exec E b s).map (blockX id) := by
  rw [exec_eq]; simp only [execF]
  congr 1
theorem exec_loop (b : ACode) (s : AState) : exec E (.loop b) s = (exec E b s).bind (thenX E (.loop b)) := by
  rw [exec_eq]; simp only [execF]
  rfl
theorem exec_exit (id : Nat) (s : AState) : exec E (.exit id) s = some (.exit id, s) := exec_eq _ _
theorem exec_ret (s : AState) : exec E .ret s = some (.ret, s) := exec_eq _ _

@[simp] theorem thenX_normal (b : ACode) (s : AState) : thenX E b (.normal, s) = exec E b s := rfl
@[simp] theorem thenX_exit (b : ACode) (i : Nat) (s : AState) : thenX E b (.exit i, s) = some (.exit i, s) := rfl
@[simp] theorem thenX_ret (b : ACode) (s : AState) : thenX E b (.ret, s) = some (.ret, s) := rfl
@[simp] theorem blockX_normal (i : Nat) (s : AState) : blockX i (.normal, s) = (.normal, s) := rfl
@[simp] theorem blockX_ret (i : Nat) (s : AState) : blockX i (.ret, s) = (.ret, s) := rfl
@[simp] theorem blockX_exit (i j : Nat) (s : AState) : blockX i (.exit j, s) = if j = i then (.normal, s) else (.exit j, s) := rfl
end eqs
end Go.Abs
