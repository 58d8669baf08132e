/- The retry laws, of all that may be told. -/
import Derived.Test.YtcfbnhdcpmnpaaaLawsD
import Derived.Test.YtcfbnhdcpmnpaaaFwArg
set_option linter.unusedSimpArgs false
set_option linter.unusedVariables false
namespace Go.Proofs.Ytcfbnhdcpmnpaaa.Fn
open Go Go.Abs
theorem E_fns : ∀ f A, E.fns f = some A → compFn Try.prog wrs modes f = some A := fun _ _ h => h
theorem E_Xs : ∀ f g, E.X f = some g → OracleOk Try.prog wrs E.G f g := fun _ _ h => by cases h
theorem c23 : Try.prog.cellsOf 23 = 3 := by kernel_rfl
theorem c3 : Try.prog.cellsOf 3 = 1 := by kernel_rfl
theorem plan_open {a : AVal} (h : TypV Try.prog 8 23 a) : ∃ w m t : Int, a = .agg [aint w, aint m, aint t] := by
  obtain ⟨cs, rfl, hl, h3⟩ := typV_struct Try.underlying23 h
  rw [c23] at hl
  match cs, hl with
  | [a, b, c], _ =>
    simp only [List.forall_mem_cons, c3, List.drop_zero, List.drop_succ_cons, List.take_succ_cons, List.take_zero] at h3
    obtain ⟨w, e1, _⟩ := typL_int Try.underlying3 h3.1
    obtain ⟨m, e2, _⟩ := typL_int Try.underlying3 h3.2.1
    obtain ⟨t, e3, _⟩ := typL_int Try.underlying3 h3.2.2.1
    injection e1 with e1; injection e2 with e2; injection e3 with e3
    subst e1; subst e2; subst e3
    exact ⟨w, m, t, rfl⟩
theorem by_ta (xs : List AVal) (h : TypA Try.prog 8 [23, 3, 3] xs) : ∃ σ', callv E (.fn godwitlaw20_RetryBy [] []) xs [] = some (abool true, σ') := by
  obtain ⟨p, _, rfl, h1, a, _, rfl, h2, b, _, rfl, h3, rfl⟩ := h
  obtain ⟨w, m, t, rfl⟩ := plan_open h1
  obtain ⟨a, rfl, _⟩ := typV_int Try.underlying3 h2
  obtain ⟨b, rfl, _⟩ := typV_int Try.underlying3 h3
  exact ⟨_, by_ok w m t a b []⟩
theorem doubles_ta (xs : List AVal) (h : TypA Try.prog 8 [23, 3] xs) : ∃ σ', callv E (.fn godwitlaw20_RetryDoubles [] []) xs [] = some (abool true, σ') := by
  obtain ⟨p, _, rfl, h1, a, _, rfl, h2, rfl⟩ := h
  obtain ⟨w, m, t, rfl⟩ := plan_open h1
  obtain ⟨a, rfl, _⟩ := typV_int Try.underlying3 h2
  exact ⟨_, doubles_ok w m t a []⟩
theorem few_ta (xs : List AVal) (h : TypA Try.prog 8 [23, 3, 3] xs) : ∃ σ', callv E (.fn godwitlaw20_RetryFew [] []) xs [] = some (abool true, σ') := by
  obtain ⟨p, _, rfl, h1, a, _, rfl, h2, b, _, rfl, h3, rfl⟩ := h
  obtain ⟨w, m, t, rfl⟩ := plan_open h1
  obtain ⟨a, rfl, _⟩ := typV_int Try.underlying3 h2
  obtain ⟨b, rfl, _⟩ := typV_int Try.underlying3 h3
  exact ⟨_, few_ok w m t a b []⟩
theorem is_ta (xs : List AVal) (h : TypA Try.prog 8 [23, 3, 3, 35] xs) : ∃ σ', callv E (.fn godwitlaw20_RetryIs [] []) xs [] = some (abool true, σ') := by
  obtain ⟨p, _, rfl, h1, a, _, rfl, h2, b, _, rfl, h3, c, _, rfl, h4, rfl⟩ := h
  obtain ⟨w, m, t, rfl⟩ := plan_open h1
  obtain ⟨a, rfl, _⟩ := typV_int Try.underlying3 h2
  obtain ⟨b, rfl, _⟩ := typV_int Try.underlying3 h3
  obtain ⟨c, rfl, _⟩ := typV_int Try.underlying35 h4
  exact ⟨_, is_ok w m t a b c []⟩
theorem spread_ta (xs : List AVal) (h : TypA Try.prog 8 [23, 3, 35] xs) : ∃ σ', callv E (.fn godwitlaw20_RetrySpread [] []) xs [] = some (abool true, σ') := by
  obtain ⟨p, _, rfl, h1, a, _, rfl, h2, c, _, rfl, h4, rfl⟩ := h
  obtain ⟨w, m, t, rfl⟩ := plan_open h1
  obtain ⟨a, rfl, _⟩ := typV_int Try.underlying3 h2
  obtain ⟨c, rfl, _⟩ := typV_int Try.underlying35 h4
  exact ⟨_, spread_ok w m t a c []⟩
end Go.Proofs.Ytcfbnhdcpmnpaaa.Fn
