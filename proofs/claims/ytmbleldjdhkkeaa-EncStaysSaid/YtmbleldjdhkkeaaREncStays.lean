/-
  What is proved: godwitlaw01.EncStays returns true for every input, and its arguments read behind the call as before. No condition.
-/
import Derived.Test.YtmbleldjdhkkeaaRows
import Derived.Test.YtmbleldjdhkkeaaFwArg
import Derived.Test.YtmbleldjdhkkeaaLawsG
import Derived.Lib.SmallJoins
set_option linter.unusedSimpArgs false
set_option linter.unusedVariables false
namespace Go.Proofs.Ytmbleldjdhkkeaa
open Go.ChangeShapes Go.WideShapes Go.ChangeAt Go.RowKit Go.Abs Go.Joins

theorem encStays_own : ownKnob Try.prog.godebug = none := by kernel_rfl
theorem encStays_laid : laidOutB Try.prog = true := by kernel_rfl
theorem encStays_bool : Try.prog.underlying 4 = some .bool := by kernel_rfl
theorem encStays_types : ([22, 40, 40].all fun t => plainTy Try.prog 8 t && fullTy Try.prog 8 t && Try.prog.readableRec t && decide (t < Try.prog.types.size)) = true := by kernel_rfl
theorem encStays_type {t : TypeId} (h : t ∈ [22, 40, 40]) : (plainTy Try.prog 8 t = true ∧ fullTy Try.prog 8 t = true) ∧ Try.prog.readableRec t = true ∧ t < Try.prog.types.size := by
  have := List.all_eq_true.1 encStays_types t h
  simp only [Bool.and_eq_true, decide_eq_true_eq] at this
  exact ⟨this.1.1, this.1.2, this.2⟩

set_option maxRecDepth 100000 in
theorem encStays_lifted (os : Os) (started : os.Started) (H : Type) (enc : TypeId × Value → H) :
    ReturnsInHanded {} Try.checked os 8 .any (Rows.encStaysSpec.pre6 enc Try.prog Try.f8 Rows.encStaysRow.domain false) (Rows.encStaysSpec.post enc Try.prog Try.f8 false true false false) := by
  refine returnsInHanded_of_change (C := Try.checked) encStays_own started (by kernel_rfl) Try.func8
    (ChangeSpec.witness6 (enc := enc) (C := Try.checked) false ⟨#[], #[.slice none 0 0, .slice none 0 0, .slice none 0 0], []⟩ 8 (by kernel_rfl) (by kernel_rfl) (by kernel_rfl) (by kernel_rfl)) ?_
  intro W base args ds gs before hval0 hW hcnd _
  have hval : ∀ (j : Nat) t v, Try.f8.params[j]? = some t → args[j]? = some v → Value.okWide Try.prog W .any base t v := hval0
  have hW' := hW
  obtain ⟨p, q, hA0, hV, rfl, hfz, hnd⟩ := hW
  have hA : DataW.TrodAll enc Try.prog W 0 (fun _ => true) true Try.f8.params.toList args.toList ds p := hA0
  rw [Try.params8] at hA
  obtain ⟨rfl, rfl⟩ := trodVars_none hV
  have hds : ds.length = 3 := by
    have : ∀ {ts : List TypeId} {vs : List Value} {ds : List (DataW H)} {p : List MemPlace}, DataW.TrodAll enc Try.prog W 0 (fun _ => true) true ts vs ds p → ds.length = ts.length := by
      intro ts
      induction ts with
      | nil => intro vs ds p h; obtain ⟨_, rfl, _⟩ := trodAll_nil h; rfl
      | cons t ts ih => intro vs ds p h; obtain ⟨v, vs', d, ds', p', q', rfl, rfl, rfl, h1, h2⟩ := trodAll_cons h; simp [ih h2]
    exact this hA
  have hfn : Rows.encStaysSpec.fn H (ds ++ []) = { results := [.lit (.bool true)], args := ds } := by
    match ds, hds with
    | [d0, d1, d2], _ => rfl
  refine (law_runs (wr := Fn.wrs) (modes := Fn.modes) (E := Fn.E) (n := 8) (fid := 8) (ts := [22, 40, 40]) Try.checked.mixed Fn.E_fns Fn.E_Xs (fun t h => (encStays_type h).1) Fn.stays_ta (GOk_none _ _) (fun j t v ht hv => hval j t v (by rw [← Array.getElem?_toList, Try.params8]; exact ht) hv) hA).mono fun e W' ⟨he, hb⟩ => ?_
  exact ⟨_, he, law_post (tb := 4) encStays_laid rfl (fun t ht => by rw [Try.params8] at ht; exact (encStays_type ht).2) rfl encStays_bool hfn hW' hb⟩

theorem encStays_holds : Rows.EncStaysSaid :=
  OpenClaim.holds_of_wide 8 Try.f8 rfl rfl rfl rfl rfl rfl rfl ⟨rfl, rfl, rfl, rfl, rfl⟩ rfl rfl rfl rfl rfl (by kernel_rfl) Try.func8 (by kernel_rfl)
    (of_decide_eq_true (by kernel_rfl)) (by unfold Func.isWrapper; first | (rw [if_pos (by decide +kernel)]; kernel_rfl) | (rw [if_neg (by decide +kernel)]; exact ⟨rfl, rfl⟩))
    (fun os started H enc _ => encStays_lifted os started H enc)
end Go.Proofs.Ytmbleldjdhkkeaa
