/-
  What is proved: godwitlaw20.RetryRises returns true for every plan, and its argument reads behind the call as before. No condition.
-/
import Derived.Test.YtcfbnhdcpmnpaaaRows
import Derived.Test.YtcfbnhdcpmnpaaaFwRow
import Derived.Test.YtcfbnhdcpmnpaaaLaws
import Derived.Lib.SmallJoins
set_option linter.unusedSimpArgs false
set_option linter.unusedVariables false
namespace Go.Proofs.Ytcfbnhdcpmnpaaa
open Go.ChangeShapes Go.WideShapes Go.ChangeAt Go.RowKit Go.Abs Go.Joins

theorem Try.own : ownKnob Try.prog.godebug = none := by kernel_rfl
theorem Try.laidOut : laidOutB Try.prog = true := by kernel_rfl
theorem Try.bool4 : Try.prog.underlying 4 = some .bool := by kernel_rfl
theorem Try.int3 : Try.prog.underlying 3 = some (.int .i64) := by kernel_rfl

/-- A plan is three numbers. -/
theorem plan_open {H : Type} {enc : TypeId × Value → H} {W : World} {b : Nat} {sp : Nat → Bool} {hd : Bool} {r : Reach} {b0 : Nat} {v : Value} {d : DataW H} {p : List MemPlace} (hv : Value.okWide Try.prog W r b0 23 v) (h : DataW.Trod enc Try.prog W b sp hd 23 v d p) :
    ∃ x y z : Int, v = .agg #[.int .i64 x, .int .i64 y, .int .i64 z] := by
  obtain ⟨c0, c1, c2, y0, y1, y2, m, rfl, rfl, rfl, hy0, hy1, hy2⟩ := open_agg3 Try.underlying23 (by kernel_rfl) (by kernel_rfl) hv h
  obtain ⟨x, e0, _, _⟩ := DataW.trod_int Try.int3 hy0
  obtain ⟨y, e1, _, _⟩ := DataW.trod_int Try.int3 hy1
  obtain ⟨z, e2, _, _⟩ := DataW.trod_int Try.int3 hy2
  simp at e0 e1 e2
  subst e0; subst e1; subst e2
  exact ⟨x, y, z, rfl⟩

theorem plan_sim (c : Ctx) (W : World) (x y z : Int) : SimV c W (.agg [aint x, aint y, aint z]) (.agg #[.int .i64 x, .int .i64 y, .int .i64 z]) := by
  simp only [SimV, SimL]
  exact ⟨[.int .i64 x, .int .i64 y, .int .i64 z], rfl, ⟨_, _, rfl, ⟨rfl, rfl⟩, _, _, rfl, ⟨rfl, rfl⟩, _, _, rfl, ⟨rfl, rfl⟩, rfl⟩, by simp [oneC, Value.oneCell']⟩

set_option maxRecDepth 100000 in
theorem rises_lifted (os : Os) (started : os.Started) (H : Type) (enc : TypeId × Value → H) :
    ReturnsInHanded {} Try.checked os 3 .any (Rows.retryRisesSpec.pre6 enc Try.prog Try.f3 Rows.retryRisesRow.domain false) (Rows.retryRisesSpec.post enc Try.prog Try.f3 false true false false) := by
  refine returnsInHanded_of_change (C := Try.checked) Try.own started (by kernel_rfl) Try.func3
    (ChangeSpec.witness6 (enc := enc) (C := Try.checked) false ⟨#[], #[.agg #[.int .i64 0, .int .i64 0, .int .i64 0]], []⟩ 8 (by kernel_rfl) (by kernel_rfl) (by kernel_rfl) (by kernel_rfl)) ?_
  intro W base args ds gs before hval0 hW hcnd _
  have hval : ∀ (j : Nat) t v, Try.f3.params[j]? = some t → args[j]? = some v → Value.okWide Try.prog W .any base t v := hval0
  have hW' := hW
  obtain ⟨p, q, hA0, hV, rfl, hfz, hnd⟩ := hW
  have hA : DataW.TrodAll enc Try.prog W 0 (fun _ => true) true Try.f3.params.toList args.toList ds p := hA0
  rw [Try.params3] at hA hval
  obtain ⟨v0, d0, rfl, rfl, h0⟩ := trodAll_one hA
  obtain ⟨rfl, rfl⟩ := trodVars_none hV
  obtain ⟨x, y, z, rfl⟩ := plan_open (hval 0 23 v0 rfl rfl) h0
  refine (law_calls (wr := Fn.wrs) (modes := Fn.modes) (E := Fn.E) Try.checked.mixed (fun _ _ h => h) (fun _ _ h => by cases h) (Fn.rises_ok x y z []) (GOk_none _ _) (us := [.agg #[.int .i64 x, .int .i64 y, .int .i64 z]]) (by simp only [SimL]; exact ⟨_, _, rfl, plan_sim _ W x y z, rfl⟩)).mono fun e W' ⟨he, hb⟩ => ?_
  exact ⟨_, he, law_post (tb := 4) Try.laidOut rfl (fun t ht => by rw [Try.params3] at ht; simp at ht; subst ht; exact ⟨by kernel_rfl, of_decide_eq_true (by kernel_rfl)⟩) rfl Try.bool4 rfl hW' hb⟩

theorem rises_holds : Rows.RetryRisesSaid :=
  OpenClaim.holds_of_wide 3 Try.f3 rfl rfl rfl rfl rfl rfl rfl ⟨rfl, rfl, rfl, rfl, rfl⟩ rfl rfl rfl rfl rfl (by kernel_rfl) Try.func3 (by kernel_rfl)
    (of_decide_eq_true (by kernel_rfl)) (by unfold Func.isWrapper; first | (rw [if_pos (by decide +kernel)]; kernel_rfl) | (rw [if_neg (by decide +kernel)]; exact ⟨rfl, rfl⟩))
    (fun os started H enc _ => rises_lifted os started H enc)
end Go.Proofs.Ytcfbnhdcpmnpaaa
