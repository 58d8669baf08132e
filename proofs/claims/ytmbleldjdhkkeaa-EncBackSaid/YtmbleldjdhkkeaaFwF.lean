/- Ranges over functions, rounds: equations. -/
import Derived.Test.YtmbleldjdhkkeaaFwE
set_option linter.unusedSimpArgs false
set_option linter.unusedVariables false
namespace Go.Abs
variable {E : Env}

/-- What stands behind a range over a function. -/
noncomputable def behind (E : Env) (s : AState) (b ver : Nat) (σ2 : Store) : Option ACode → Option (AExit × AState)
  | none => some (.normal, { s with σ := σ2.set b (.dead ver) })
  | some c => exec E c { s with σ := σ2.set b (.dead ver) }
@[go_sem] theorem behind_none (s : AState) (b ver : Nat) (σ2 : Store) : behind E s b ver σ2 none = some (.normal, { s with σ := σ2.set b (.dead ver) }) := rfl
@[go_sem] theorem behind_some (s : AState) (b ver : Nat) (σ2 : Store) (c : ACode) : behind E s b ver σ2 (some c) = exec E c { s with σ := σ2.set b (.dead ver) } := rfl

theorem exec_range {site : Nat} {f : AOpd} {ps : List Nat} {asg bd : ACode} {s : AState} {B : Box} (hB : s.σ[s.base + site]? = some B) {r : AVal} {σ2 : Store}
    (hc : callv E (ev E.G s f) [.yld (s.base + site) (B.ver + 1)] (s.σ.set (s.base + site) (.loop (B.ver + 1) .ready none s.tm s.base ps asg bd)) = some (r, σ2))
    {st : LoopState} {pend : Option ACode} {tm2 : Nat → AVal} {base2 : Nat} {ps2 : List Nat} {as2 bd2 : ACode} (hb : σ2[s.base + site]? = some (.loop (B.ver + 1) st pend tm2 base2 ps2 as2 bd2)) (hst : st ≠ .busy) (hlen : σ2.length = s.σ.length) :
    exec E (.rangeFunc site f ps asg bd) s = behind E s (s.base + site) (B.ver + 1) σ2 pend := by
  rw [exec_eq]
  simp only [execF, hB, hc, hb]
  rw [chk_pos ⟨trivial, hst, hlen⟩]
  cases pend <;> rfl

/-- Behind a round. -/
noncomputable def roundB (l v n : Nat) : Option (AExit × AState) → Option (AVal × Store)
  | some (x, s) => roundEnd l v n s x
  | none => none
@[go_sem] theorem roundB_some (l v n : Nat) (x : AExit) (s : AState) : roundB l v n (some (x, s)) = roundEnd l v n s x := rfl

/-- A choice. -/
theorem skol {α β : Type} [Inhabited β] {C : α → Prop} {Q : α → β → Prop} (h : ∀ a, C a → ∃ b, Q a b) : ∃ F : α → β, ∀ a, C a → Q a (F a) := by
  have h' : ∀ a, ∃ b, C a → Q a b := fun a => (Classical.em (C a)).elim (fun hc => let ⟨b, hb⟩ := h a hc; ⟨b, fun _ => hb⟩) (fun hc => ⟨default, fun hc' => absurd hc' hc⟩)
  exact ⟨fun a => (h' a).choose, fun a => (h' a).choose_spec⟩

/-- A loop, by what holds ahead of its rounds. -/
theorem loop_go {body : ACode} {base : Nat} (Sg : Nat → Store) (Sx : Store) (Inv : Nat → (Nat → AVal) → Prop) (Fin : (Nat → AVal) → Prop) (N : Nat) (x : AExit) (hx : x ≠ .normal)
    (hstep : ∀ (i : Nat) (tm : Nat → AVal), i < N → Inv i tm → ∃ tm', exec E body ⟨tm, Sg i, base⟩ = some (.normal, ⟨tm', Sg (i + 1), base⟩) ∧ Inv (i + 1) tm')
    (hend : ∀ (tm : Nat → AVal), Inv N tm → ∃ tm', exec E body ⟨tm, Sg N, base⟩ = some (x, ⟨tm', Sx, base⟩) ∧ Fin tm') :
    ∃ F : (Nat → AVal) → Nat → AVal, ∀ tm, Inv 0 tm → exec E (.loop body) ⟨tm, Sg 0, base⟩ = some (x, ⟨F tm, Sx, base⟩) ∧ Fin (F tm) := by
  have key : ∀ (k i : Nat) (tm : Nat → AVal), i + k = N → Inv i tm → ∃ tm', exec E (.loop body) ⟨tm, Sg i, base⟩ = some (x, ⟨tm', Sx, base⟩) ∧ Fin tm' := by
    intro k
    induction k with
    | zero =>
      intro i tm hi h
      obtain rfl : i = N := by omega
      obtain ⟨tm', h1, h2⟩ := hend tm h
      refine ⟨tm', ?_, h2⟩
      rw [exec_loop, h1, Option.bind_some]
      cases x with
      | normal => exact absurd rfl hx
      | exit id => rfl
      | ret => rfl
    | succ k ih =>
      intro i tm hi h
      obtain ⟨tm', h1, h2⟩ := hstep i tm (by omega) h
      obtain ⟨tm2, h3, h4⟩ := ih (i + 1) tm' (by omega) h2
      refine ⟨tm2, ?_, h4⟩
      rw [exec_loop, h1, Option.bind_some, thenX_normal]
      exact h3
  exact skol (C := Inv 0) (Q := fun tm tm' => exec E (.loop body) ⟨tm, Sg 0, base⟩ = some (x, ⟨tm', Sx, base⟩) ∧ Fin tm') fun tm h => key N 0 tm (by omega) h

/-! What a callee leaves of its caller's boxes -/
def okB (n : Nat) (B' B : Box) : Prop := B' = B ∨ (match B' with
  | .var _ cs => wfL n cs = true
  | .arr .. | .map .. | .dead _ => True
  | .loop _ _ _ tm _ _ _ _ => ∃ v st pend base ps asg bd, B = .loop v st pend tm base ps asg bd)
def okL (n : Nat) : List Box → List Box → Prop
  | B' :: l', B :: l => okB n B' B ∧ okL n l' l
  | _, _ => True
theorem okL_get (n : Nat) : ∀ (l' l : List Box) (i : Nat) (B' B : Box), okL n l' l → l'[i]? = some B' → l[i]? = some B → okB n B' B
  | [], _, i, B', B, _, h, _ => by simp at h
  | _ :: _, [], i, B', B, _, _, h => by simp at h
  | X :: l', Y :: l, 0, B', B, h, h1, h2 => by simp at h1 h2; subst h1; subst h2; exact h.1
  | X :: l', Y :: l, i + 1, B', B, h, h1, h2 => okL_get n l' l i B' B h.2 (by simpa using h1) (by simpa using h2)
theorem okTake_list {σ l' l : Store} (h : okL (σ ++ l).length l' l) : okTake (σ ++ l') (σ ++ l) := by
  intro i B' hB hi
  by_cases hlt : i < σ.length
  · rw [List.getElem?_append_left hlt] at hB ⊢
    exact .inl hB
  · rw [List.getElem?_append_right (by omega)] at hB
    obtain ⟨B, h2⟩ : ∃ B, l[i - σ.length]? = some B := by
      have : i - σ.length < l.length := by rw [List.length_append] at hi; omega
      exact ⟨_, List.getElem?_eq_getElem this⟩
    rw [List.getElem?_append_right (by omega), h2]
    rcases okL_get _ l' l _ B' B h hB h2 with h3 | h3
    · exact .inl (by rw [h3])
    · refine .inr ?_
      cases B' with
      | loop v st pend tm base ps asg bd =>
        obtain ⟨v', st', pend', base', ps', asg', bd', h3⟩ := h3
        exact ⟨v', st', pend', base', ps', asg', bd', by rw [h3]⟩
      | _ => exact h3
theorem okL_cons (n : Nat) (B' B : Box) (l' l : List Box) : okL n (B' :: l') (B :: l) = (okB n B' B ∧ okL n l' l) := rfl
theorem okL_nil (n : Nat) : okL n [] [] = True := rfl
theorem okB_same (n : Nat) (B : Box) : okB n B B = True := by simp [okB]
theorem okB_var (n v : Nat) (cs : List AVal) (B : Box) (h : wfL n cs = true) : okB n (.var v cs) B = True := by simp [okB, h]
theorem okB_loop (n v v' : Nat) (st st' : LoopState) (pend pend' : Option ACode) (tm : Nat → AVal) (base base' : Nat) (ps ps' : List Nat) (asg bd asg' bd' : ACode) : okB n (.loop v st pend tm base ps asg bd) (.loop v' st' pend' tm base' ps' asg' bd') = True := by
  simp only [okB, eq_iff_iff, iff_true]
  exact .inr ⟨_, _, _, _, _, _, _, rfl⟩

/-! A round, step by step -/
noncomputable def roundD (E : Env) (l v n : Nat) (bd : ACode) (s1 : AState) : Option Box → Option (AVal × Store)
  | some (.loop v1 .ready pend1 tm1 base1 ps1 as1 bd1) => chk (v1 = v) (roundB l v n (exec E bd { s1 with σ := s1.σ.set l (.loop v .busy pend1 tm1 base1 ps1 as1 bd1) }))
  | _ => none
noncomputable def roundC (E : Env) (l v n : Nat) (bd : ACode) : Option (AExit × AState) → Option (AVal × Store)
  | some (.normal, s1) => roundD E l v n bd s1 (s1.σ[l]?)
  | _ => none
noncomputable def roundA (E : Env) (l v : Nat) (args : List AVal) (σ : Store) : Option Box → Option (AVal × Store)
  | some (.loop v' .ready _ tm base ps asg bd) => chk (v' = v ∧ ps.length = args.length ∧ noYld args = true) (roundC E l v σ.length bd (exec E asg { tm := setParams tm ps args, σ := σ, base := base }))
  | _ => none
theorem call_yld (l v : Nat) (args : List AVal) (σ : Store) : callv E (.yld l v) args σ = roundA E l v args σ (σ[l]?) := by
  rw [callv_eq]
  simp only [callF]
  split
  · rename_i v' pend tm base ps asg bd h
    rw [h]
    simp only [roundA]
    by_cases hc : v' = v ∧ ps.length = args.length ∧ noYld args = true
    · rw [chk_pos hc, chk_pos hc]
      obtain ⟨rfl, _, _⟩ := hc
      cases h1 : exec E asg { tm := setParams tm ps args, σ := σ, base := base } with
      | none => rfl
      | some x =>
        obtain ⟨x, s1⟩ := x
        cases x with
        | normal =>
          simp only [roundC]
          cases h2 : s1.σ[l]? with
          | none => rfl
          | some B =>
            cases B with
            | loop v1 st1 pend1 tm1 base1 ps1 as1 bd1 =>
              cases st1 with
              | ready =>
                simp only [roundD]
                congr 1
              | _ => rfl
            | _ => rfl
        | exit id => rfl
        | ret => rfl
    · rw [chk_neg hc, chk_neg hc]
  · rename_i hno
    cases h : σ[l]? with
    | none => rfl
    | some B =>
      cases B with
      | loop v' st pend tm base ps asg bd =>
        cases st with
        | ready => exact absurd h (hno _ _ _ _ _ _ _)
        | _ => rfl
      | _ => rfl
@[go_sem] theorem roundA_mk (l v v' : Nat) (args : List AVal) (σ : Store) (pend : Option ACode) (tm : Nat → AVal) (base : Nat) (ps : List Nat) (asg bd : ACode) :
    roundA E l v args σ (some (.loop v' .ready pend tm base ps asg bd)) = chk (v' = v ∧ ps.length = args.length ∧ noYld args = true) (roundC E l v σ.length bd (exec E asg { tm := setParams tm ps args, σ := σ, base := base })) := rfl
@[go_sem] theorem roundC_mk (l v n : Nat) (bd : ACode) (s1 : AState) : roundC E l v n bd (some (.normal, s1)) = roundD E l v n bd s1 (s1.σ[l]?) := rfl
@[go_sem] theorem roundD_mk (l v n : Nat) (bd : ACode) (s1 : AState) (v1 : Nat) (pend1 : Option ACode) (tm1 : Nat → AVal) (base1 : Nat) (ps1 : List Nat) (as1 bd1 : ACode) :
    roundD E l v n bd s1 (some (.loop v1 .ready pend1 tm1 base1 ps1 as1 bd1)) = chk (v1 = v) (roundB l v n (exec E bd { s1 with σ := s1.σ.set l (.loop v .busy pend1 tm1 base1 ps1 as1 bd1) })) := rfl
/-- The end of a round. -/
def roundZ (l v n : Nat) (s : AState) (x : AExit) : Option Box → Option (AVal × Store)
  | some (.loop v' .busy _ tm base ps asg bd) =>
    chk (v' = v ∧ s.σ.length = n)
      (match x with
       | .normal => some (abool true, s.σ.set l (.loop v .ready none tm base ps asg bd))
       | .ret => some (abool false, s.σ.set l (.loop v .done (some .ret) tm base ps asg bd))
       | .exit id => some (abool false, s.σ.set l (.loop v .done (some (.exit id)) tm base ps asg bd)))
  | _ => none
@[go_sem] theorem roundEnd_z (l v n : Nat) (s : AState) (x : AExit) : roundEnd l v n s x = roundZ l v n s x (s.σ[l]?) := by
  unfold roundEnd
  split
  · rename_i h; rw [h]; rfl
  · rename_i hno
    cases h : s.σ[l]? with
    | none => rfl
    | some B =>
      cases B with
      | loop v' st pend tm base ps asg bd =>
        cases st with
        | busy => exact absurd h (hno _ _ _ _ _ _ _)
        | _ => rfl
      | _ => rfl
@[go_sem] theorem roundZ_normal (l v n v' : Nat) (s : AState) (pend : Option ACode) (tm : Nat → AVal) (base : Nat) (ps : List Nat) (asg bd : ACode) :
    roundZ l v n s .normal (some (.loop v' .busy pend tm base ps asg bd)) = chk (v' = v ∧ s.σ.length = n) (some (abool true, s.σ.set l (.loop v .ready none tm base ps asg bd))) := rfl
@[go_sem] theorem roundZ_ret (l v n v' : Nat) (s : AState) (pend : Option ACode) (tm : Nat → AVal) (base : Nat) (ps : List Nat) (asg bd : ACode) :
    roundZ l v n s .ret (some (.loop v' .busy pend tm base ps asg bd)) = chk (v' = v ∧ s.σ.length = n) (some (abool false, s.σ.set l (.loop v .done (some .ret) tm base ps asg bd))) := rfl
@[go_sem] theorem roundZ_exit (l v n v' id : Nat) (s : AState) (pend : Option ACode) (tm : Nat → AVal) (base : Nat) (ps : List Nat) (asg bd : ACode) :
    roundZ l v n s (.exit id) (some (.loop v' .busy pend tm base ps asg bd)) = chk (v' = v ∧ s.σ.length = n) (some (abool false, s.σ.set l (.loop v .done (some (.exit id)) tm base ps asg bd))) := rfl
attribute [go_sem] call_yld setParams noYld
end Go.Abs
