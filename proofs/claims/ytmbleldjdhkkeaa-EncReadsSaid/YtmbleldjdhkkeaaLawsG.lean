/- The laws of the first chapter, of all that may be told. -/
import Derived.Test.YtmbleldjdhkkeaaLawsB
import Derived.Test.YtmbleldjdhkkeaaLawsD
import Derived.Test.YtmbleldjdhkkeaaLawsF
import Derived.Test.YtmbleldjdhkkeaaFwArg
set_option linter.unusedSimpArgs false
set_option linter.unusedVariables false
namespace Go.Proofs.Ytmbleldjdhkkeaa.Fn
open Go Go.Abs
theorem bytes_open {a : AVal} {n : Nat} (h : TypV Try.prog (n + 2) 22 a) : ∃ l : List UInt8, a = bsl l := by
  obtain ⟨es, rfl, _, he⟩ := typV_slice Try.underlying22 h
  obtain ⟨ys, rfl, _⟩ := listChoice abyte (Q := fun _ => True) (es := es) fun x hx => by
    obtain ⟨i, rfl, hw⟩ := typV_int Try.underlying5 (he x hx)
    obtain ⟨h0, h1⟩ : 0 ≤ i ∧ i < 256 := by
      have e1 : IntKind.u8.min = 0 := by decide
      have e2 : IntKind.u8.max = 255 := by decide
      simp [Lit.wf, e1, e2] at hw; omega
    refine ⟨UInt8.ofNat i.toNat, ?_, trivial⟩
    have : (UInt8.ofNat i.toNat).toNat = i.toNat := by
      simp only [UInt8.toNat_ofNat']
      exact Nat.mod_eq_of_lt (by omega)
    rw [abyte, this, Int.toNat_of_nonneg h0]
  exact ⟨ys, rfl⟩
theorem u64_open {a : AVal} {n : Nat} (h : TypV Try.prog (n + 1) 26 a) : ∃ v : Nat, a = .atom (.int .u64 v) ∧ v < 18446744073709551616 := by
  obtain ⟨i, rfl, hw⟩ := typV_int Try.underlying26 h
  obtain ⟨h0, h1⟩ : 0 ≤ i ∧ i < 18446744073709551616 := by
    have e1 : IntKind.u64.min = 0 := by decide
    have e2 : IntKind.u64.max = 18446744073709551615 := by decide
    simp [Lit.wf, e1, e2] at hw; omega
  exact ⟨i.toNat, by rw [Int.toNat_of_nonneg h0], by omega⟩
theorem c44 : Try.prog.cellsOf 44 = 2 := by kernel_rfl
theorem c3 : Try.prog.cellsOf 3 = 1 := by kernel_rfl
theorem step_open {a : AVal} {n : Nat} (h : TypV Try.prog (n + 2) 44 a) : ∃ s : Int × Int, a = vstep s := by
  obtain ⟨cs, rfl, hl, h3⟩ := typV_struct Try.underlying44 h
  rw [c44] at hl
  match cs, hl with
  | [a, b], _ =>
    simp only [List.forall_mem_cons, c3, List.drop_zero, List.drop_succ_cons, List.take_succ_cons, List.take_zero] at h3
    obtain ⟨w, e1, _⟩ := typL_int Try.underlying3 h3.1
    obtain ⟨m, e2, _⟩ := typL_int Try.underlying3 h3.2.1
    injection e1 with e1; injection e2 with e2
    subst e1; subst e2
    exact ⟨(w, m), rfl⟩
theorem steps_open {a : AVal} {n : Nat} (h : TypV Try.prog (n + 3) 40 a) : ∃ l : List (Int × Int), a = .sl (l.map vstep) := by
  obtain ⟨es, rfl, _, he⟩ := typV_slice Try.underlying40 h
  obtain ⟨ys, rfl, _⟩ := listChoice vstep (Q := fun _ => True) (es := es) fun x hx => by
    obtain ⟨s, rfl⟩ := step_open (he x hx)
    exact ⟨s, rfl, trivial⟩
  exact ⟨ys, rfl⟩
theorem split_ta (xs : List AVal) (h : TypA Try.prog 8 [22] xs) : ∃ σ', callv E (.fn godwitlaw01_EncSplit [] []) xs [] = some (abool true, σ') := by
  obtain ⟨p, _, rfl, h1, rfl⟩ := h
  obtain ⟨l, rfl⟩ := bytes_open h1
  exact split_ok l []
theorem lays_ta (xs : List AVal) (h : TypA Try.prog 8 [22, 26, 3, 22] xs) : ∃ σ', callv E (.fn godwitlaw01_EncLays [] []) xs [] = some (abool true, σ') := by
  obtain ⟨a, _, rfl, h1, b, _, rfl, h2, c, _, rfl, h3, d, _, rfl, h4, rfl⟩ := h
  obtain ⟨l, rfl⟩ := bytes_open h1
  obtain ⟨v, rfl, hv⟩ := u64_open h2
  obtain ⟨n, rfl, _⟩ := typV_int Try.underlying3 h3
  obtain ⟨m, rfl⟩ := bytes_open h4
  exact lays_ok l m v n hv []
theorem lens_ta (xs : List AVal) (h : TypA Try.prog 8 [22, 26, 3, 22] xs) : ∃ σ', callv E (.fn godwitlaw01_EncLens [] []) xs [] = some (abool true, σ') := by
  obtain ⟨a, _, rfl, h1, b, _, rfl, h2, c, _, rfl, h3, d, _, rfl, h4, rfl⟩ := h
  obtain ⟨l, rfl⟩ := bytes_open h1
  obtain ⟨v, rfl, hv⟩ := u64_open h2
  obtain ⟨n, rfl, _⟩ := typV_int Try.underlying3 h3
  obtain ⟨m, rfl⟩ := bytes_open h4
  exact lens_ok l m v n hv []
theorem reads_ta (xs : List AVal) (h : TypA Try.prog 8 [22, 40] xs) : ∃ σ', callv E (.fn godwitlaw01_EncReads [] []) xs [] = some (abool true, σ') := by
  obtain ⟨a, _, rfl, h1, b, _, rfl, h2, rfl⟩ := h
  obtain ⟨l, rfl⟩ := bytes_open h1
  obtain ⟨s, rfl⟩ := steps_open h2
  exact reads_ok l s []
theorem stays_ta (xs : List AVal) (h : TypA Try.prog 8 [22, 40, 40] xs) : ∃ σ', callv E (.fn godwitlaw01_EncStays [] []) xs [] = some (abool true, σ') := by
  obtain ⟨a, _, rfl, h1, b, _, rfl, h2, c, _, rfl, h3, rfl⟩ := h
  obtain ⟨l, rfl⟩ := bytes_open h1
  obtain ⟨s, rfl⟩ := steps_open h2
  obtain ⟨t, rfl⟩ := steps_open h3
  exact stays_ok l s t []
theorem back_ta (xs : List AVal) (h : TypA Try.prog 8 [33, 3, 34] xs) : ∃ σ', callv E (.fn godwitlaw01_EncBack [] []) xs [] = some (abool true, σ') := by
  obtain ⟨a, _, rfl, h1, b, _, rfl, h2, c, _, rfl, h3, rfl⟩ := h
  obtain ⟨es, rfl, _, he⟩ := typV_slice Try.underlying33 h1
  obtain ⟨ls, rfl, hls⟩ := listChoice vnum (Q := fun v => v < 18446744073709551616) (es := es) fun x hx => by
    obtain ⟨v, rfl, hv⟩ := u64_open (he x hx)
    exact ⟨v, rfl, hv⟩
  obtain ⟨n, rfl, _⟩ := typV_int Try.underlying3 h2
  obtain ⟨es, rfl, _, he⟩ := typV_slice Try.underlying34 h3
  obtain ⟨ms, rfl, _⟩ := listChoice bsl (Q := fun _ => True) (es := es) fun x hx => by
    obtain ⟨v, rfl⟩ := bytes_open (he x hx)
    exact ⟨v, rfl, trivial⟩
  exact back_ok ls hls n ms []
end Go.Proofs.Ytmbleldjdhkkeaa.Fn
