/- Reading memory: parts of variables, elements of arrays. -/
import Derived.Test.YtmbleldjdhkkeaaFwO
set_option linter.unusedSimpArgs false
set_option linter.unusedVariables false
namespace Go.Abs
open Go.RowKit
variable {P : Program} {c : Ctx} {w : World}

theorem run_tagg {t : TypeId} {b : Bool} (h : tagg P t = some b) (w : World) : (isAgg t).run P w = .ok b w := by
  unfold tagg at h
  cases hu : P.underlying t with
  | none => rw [hu] at h; simp at h
  | some d =>
    rw [hu] at h
    unfold isAgg
    rw [Sem.run_bind, run_underlying hu, Result.andThen_ok]
    cases d <;> simp at h <;> subst h <;> rfl

theorem run_tsize {t : TypeId} {n : Nat} (h : tsize P t = some n) (w : World) : (sizeOf t).run P w = .ok n w := by
  unfold tsize at h
  rw [Option.map_eq_some_iff] at h
  obtain ⟨i, hi, rfl⟩ := h
  simp [sizeOf, typeInfo, hi]

theorem run_tinfo {t : TypeId} {i : TypeInfo} (h : P.info? t = some i) (w : World) : (typeInfo t).run P w = .ok i w := by
  simp [typeInfo, h]

theorem tinfo_of_size {t : TypeId} {n : Nat} (h : tsize P t = some n) : ∃ i, P.info? t = some i ∧ i.size = n := by
  unfold tsize at h
  rw [Option.map_eq_some_iff] at h
  exact h

/-- The cells us lie in block blk from o on. -/
def RowAt (w : World) (blk o : Nat) (us : List Value) : Prop := ∀ (j : Nat) x, us[j]? = some x → w.cell? ⟨blk, o + j, none⟩ = some x

theorem RowAt.drop {blk o : Nat} {us : List Value} (h : RowAt w blk o us) (n : Nat) : RowAt w blk (o + n) (us.drop n) := by
  intro j x hj
  rw [List.getElem?_drop] at hj
  have := h (n + j) x hj
  rwa [show o + n + j = o + (n + j) by omega]
theorem RowAt.take {blk o : Nat} {us : List Value} (h : RowAt w blk o us) (n : Nat) : RowAt w blk o (us.take n) := by
  intro j x hj
  rw [List.getElem?_take] at hj
  split at hj
  · exact h j x hj
  · cases hj

theorem run_loadCells_row {blk o : Nat} {us : List Value} (h : RowAt w blk o us) : (loadCells ⟨blk, o, none⟩ us.length).run P w = .ok us.toArray w := by
  refine run_loadCells_list w _ us fun j v hj => ?_
  unfold Addr.add
  split
  · rename_i hz; subst hz; simpa using h 0 v hj
  · simpa using h j v hj

/-- A part of a variable is read. -/
theorem loadVar_sim {t : TypeId} {g : Bool} {sz off : Nat} {cs : List AVal} {us : List Value} {v : AVal} {blk o : Nat} (hg : tagg P t = some g) (hs : tsize P t = some sz)
    (hL : SimL c w cs us) (h1 : ∀ x ∈ us, oneC x = true) (hr : RowAt w blk o us) (h : getC g sz cs off = some v) :
    ∃ u, (loadVar t ⟨blk, o + off, none⟩).run P w = .ok u w ∧ SimV c w v u := by
  unfold getC at h
  cases g with
  | true =>
    simp only [if_true] at h
    rw [chk_some] at h
    obtain ⟨hle, h⟩ := h
    injection h with h; subst h
    have hlen : ((us.drop off).take sz).length = sz := by
      have := hL.length
      simp; omega
    have hrow := (hr.drop off).take sz
    refine ⟨.agg ((us.drop off).take sz).toArray, ?_, ?_⟩
    · unfold loadVar
      rw [Sem.run_bind, run_tagg hg, Result.andThen_ok]
      simp only [if_true]
      rw [Sem.run_bind, run_tsize hs, Result.andThen_ok]
      have := run_loadCells_row (P := P) hrow
      rw [hlen] at this
      rw [Sem.run_bind, this, Result.andThen_ok]
      rfl
    · simp only [SimV]
      exact ⟨_, rfl, (hL.drop off).take sz, fun x hx => h1 x (List.mem_of_mem_drop (List.mem_of_mem_take hx))⟩
  | false =>
    simp only [Bool.false_eq_true, if_false] at h
    obtain ⟨u, hu, hv⟩ := hL.get off v h
    refine ⟨u, ?_, hv⟩
    unfold loadVar
    rw [Sem.run_bind, run_tagg hg, Result.andThen_ok]
    simp only [Bool.false_eq_true, if_false]
    rw [run_load, hr off u hu]

/-- A part of a value. -/
theorem part_sim {t : TypeId} {g : Bool} {sz off : Nat} {cs : List AVal} {us : List Value} {v : AVal} (hg : tagg P t = some g) (hs : tsize P t = some sz)
    (hL : SimL c w cs us) (h1 : ∀ x ∈ us, oneC x = true) (h : getC g sz cs off = some v) :
    ∃ u, (part t us.toArray off).run P w = .ok u w ∧ SimV c w v u := by
  unfold getC at h
  cases g with
  | true =>
    simp only [if_true] at h
    rw [chk_some] at h
    obtain ⟨hle, h⟩ := h
    injection h with h; subst h
    refine ⟨.agg (us.toArray.extract off (off + sz)), ?_, ?_⟩
    · unfold part
      rw [Sem.run_bind, run_tagg hg, Result.andThen_ok]
      simp only [if_true]
      rw [Sem.run_bind, run_tsize hs, Result.andThen_ok]
      rfl
    · simp only [SimV]
      refine ⟨(us.drop off).take sz, ?_, (hL.drop off).take sz, fun x hx => h1 x (List.mem_of_mem_drop (List.mem_of_mem_take hx))⟩
      congr 1
      apply Array.ext'
      simp [List.take_drop]
  | false =>
    simp only [Bool.false_eq_true, if_false] at h
    obtain ⟨u, hu, hv⟩ := hL.get off v h
    refine ⟨u, ?_, hv⟩
    unfold part
    rw [Sem.run_bind, run_tagg hg, Result.andThen_ok]
    simp only [Bool.false_eq_true, if_false]
    have : us.toArray[off]? = some u := by simpa using hu
    rw [this]; rfl

/-! Elements -/
theorem SimE.get {blk sz : Nat} : ∀ {es : List AVal} {off : Nat}, SimE c w blk sz es off → ∀ (k : Nat) e, es[k]? = some e → ∃ u, SimV c w e u ∧ CellsAt w blk (off + k * sz) sz u
  | [], off, _, k, e, hk => by simp at hk
  | x :: es, off, h, k, e, hk => by
    simp only [SimE] at h
    obtain ⟨⟨u, h1, h2⟩, h3⟩ := h
    cases k with
    | zero => simp at hk; subst hk; exact ⟨u, h1, by simpa using h2⟩
    | succ k =>
      simp at hk
      obtain ⟨u', g1, g2⟩ := SimE.get h3 k e hk
      exact ⟨u', g1, by rw [show off + (k + 1) * sz = off + sz + k * sz by rw [Nat.succ_mul]; omega]; exact g2⟩

theorem SimE.drop {blk sz : Nat} : ∀ {es : List AVal} {off : Nat}, SimE c w blk sz es off → ∀ k, k ≤ es.length → SimE c w blk sz (es.drop k) (off + k * sz)
  | [], off, h, k, hk => by simp at hk; subst hk; simpa using h
  | x :: es, off, h, k, hk => by
    cases k with
    | zero => simpa using h
    | succ k =>
      simp only [SimE] at h
      simp only [List.drop_succ_cons]
      rw [show off + (k + 1) * sz = off + sz + k * sz by rw [Nat.succ_mul]; omega]
      exact SimE.drop h.2 k (by simpa using hk)

theorem SimE.take {blk sz : Nat} : ∀ {es : List AVal} {off : Nat}, SimE c w blk sz es off → ∀ k, SimE c w blk sz (es.take k) off
  | [], off, h, k => by simp [SimE]
  | x :: es, off, h, k => by
    cases k with
    | zero => simp [SimE]
    | succ k =>
      simp only [SimE] at h
      simp only [List.take_succ_cons, SimE]
      exact ⟨h.1, SimE.take h.2 k⟩

theorem SimE.append {blk sz : Nat} : ∀ {es es' : List AVal} {off : Nat}, SimE c w blk sz es off → SimE c w blk sz es' (off + es.length * sz) → SimE c w blk sz (es ++ es') off
  | [], es', off, h, h' => by simpa using h'
  | x :: es, es', off, h, h' => by
    simp only [SimE] at h
    simp only [List.cons_append, SimE]
    refine ⟨h.1, SimE.append h.2 ?_⟩
    rw [show off + sz + es.length * sz = off + (x :: es).length * sz by simp only [List.length_cons]; rw [Nat.succ_mul]; omega]
    exact h'

/-- From elements at every place. -/
theorem SimE.mk {blk sz : Nat} : ∀ {es : List AVal} {off : Nat}, (∀ k e, es[k]? = some e → ∃ u, SimV c w e u ∧ CellsAt w blk (off + k * sz) sz u) → SimE c w blk sz es off
  | [], off, _ => by simp [SimE]
  | x :: es, off, h => by
    simp only [SimE]
    refine ⟨by simpa using h 0 x rfl, SimE.mk fun k e hk => ?_⟩
    obtain ⟨u, h1, h2⟩ := h (k + 1) e (by simpa using hk)
    exact ⟨u, h1, by rw [show off + sz + k * sz = off + (k + 1) * sz by rw [Nat.succ_mul]; omega]; exact h2⟩

theorem pureL_get : ∀ {es : List AVal}, pureL es = true → ∀ (k : Nat) e, es[k]? = some e → pureV e = true
  | [], _, k, e, hk => by simp at hk
  | x :: es, h, k, e, hk => by
    have h' : pureV x = true ∧ pureL es = true := by simpa [pureL] using h
    cases k with
    | zero => simp at hk; subst hk; exact h'.1
    | succ k => exact pureL_get h'.2 k e (by simpa using hk)
theorem pureL_drop : ∀ {es : List AVal}, pureL es = true → ∀ k, pureL (es.drop k) = true
  | [], h, k => by simp [pureL]
  | x :: es, h, k => by
    have h' : pureV x = true ∧ pureL es = true := by simpa [pureL] using h
    cases k with
    | zero => exact h
    | succ k => simpa using pureL_drop h'.2 k
theorem pureL_take : ∀ {es : List AVal}, pureL es = true → ∀ k, pureL (es.take k) = true
  | [], h, k => by simp [pureL]
  | x :: es, h, k => by
    have h' : pureV x = true ∧ pureL es = true := by simpa [pureL] using h
    cases k with
    | zero => simp [pureL]
    | succ k => simpa [pureL, h'.1] using pureL_take h'.2 k
theorem pureL_append : ∀ {es es' : List AVal}, pureL es = true → pureL es' = true → pureL (es ++ es') = true
  | [], es', _, h' => by simpa using h'
  | x :: es, es', h, h' => by
    have h0 : pureV x = true ∧ pureL es = true := by simpa [pureL] using h
    simpa [pureL, h0.1] using pureL_append h0.2 h'
theorem pureV_cells {e : AVal} (h : pureV e = true) : pureL e.cells = true := by
  cases e <;> simp_all [AVal.cells, pureV, pureL]

/-- An element's cells. -/
theorem CellsAt.sim {blk o sz : Nat} {e : AVal} {u : Value} (hv : SimV c w e u) (h : CellsAt w blk o sz u) (hp : pureV e = true) :
    ∃ us : List Value, us = u.cells.toList ∧ SimL c w e.cells us ∧ us.length = sz ∧ RowAt w blk o us ∧ ∀ x ∈ us, oneC x = true := by
  have ho : ∀ x ∈ u.cells.toList, oneC x = true := by
    intro x hx
    obtain ⟨j, hj, rfl⟩ := List.mem_iff_getElem.1 hx
    exact (h.2 j _ (by simp [Array.getElem?_eq_getElem (show j < u.cells.size by simpa using hj)])).2
  refine ⟨_, rfl, ?_, by simpa using h.1, fun j x hx => (h.2 j x (by simpa using hx)).1, ho⟩
  cases e with
  | agg cs =>
    simp only [SimV] at hv
    obtain ⟨us, rfl, hs, _⟩ := hv
    simpa [AVal.cells, Value.cells] using hs
  | tup vs =>
    exfalso
    simp only [SimV] at hv
    obtain ⟨us, rfl, hs⟩ := hv
    have := ho (.tuple us.toArray) (by simp [Value.cells])
    simp [oneC, Value.oneCell'] at this
  | any => simp [pureV] at hp
  | _ => exact (SimV.cells hv (by simp [AVal.cells, oneL, oneA])).1
end Go.Abs
