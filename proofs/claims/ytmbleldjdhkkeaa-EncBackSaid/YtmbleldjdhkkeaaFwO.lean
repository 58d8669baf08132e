/- The operations that change nothing: the model's come to what the abstract machine's come to. -/
import Derived.Test.YtmbleldjdhkkeaaFwD
set_option linter.unusedSimpArgs false
set_option linter.unusedVariables false
namespace Go.Abs
open Go.RowKit
variable {P : Program} {c : Ctx} {w : World}

/-! Constants -/
theorem constA_sim {v : Value} {x : AVal} (h : constA v = some x) : SimV c w x v ∧ oneC v = true ∧ x.cells = [x] ∧ oneA x = true ∧ pureV x = true := by
  unfold constA at h
  split at h <;> first | (cases h; done) | (injection h with h; subst h; simp [SimV, atomV, oneC, Value.oneCell', AVal.cells, oneA, pureV])

theorem constL_sim : ∀ {vs : List Value} {xs : List AVal}, constL vs = some xs → SimL c w xs vs ∧ (∀ v ∈ vs, oneC v = true) ∧ oneL xs = true ∧ pureL xs = true ∧ xs.length = vs.length
  | [], xs, h => by simp only [constL] at h; injection h with h; subst h; simp [SimL, oneL, pureL]
  | v :: vs, xs, h => by
    simp only [constL] at h
    split at h
    · rename_i x ys hx hy
      injection h with h; subst h
      obtain ⟨h1, h2, _, h4, h5⟩ := constA_sim (c := c) (w := w) hx
      obtain ⟨g1, g2, g3, g4, g5⟩ := constL_sim hy
      refine ⟨by simp only [SimL]; exact ⟨v, vs, rfl, h1, g1⟩, ?_, by simp [oneL, h4, g3], by simp [pureL, h5, g4], by simp [g5]⟩
      intro z hz
      rcases List.mem_cons.1 hz with rfl | hz
      · exact h2
      · exact g2 z hz
    · cases h

theorem constV_sim {v : Value} {x : AVal} (h : constV v = some x) : SimV c w x v := by
  unfold constV at h
  split at h
  · rename_i cs
    rw [Option.map_eq_some_iff] at h
    obtain ⟨xs, hx, rfl⟩ := h
    obtain ⟨h1, h2, _⟩ := constL_sim (c := c) (w := w) hx
    simp only [SimV]
    exact ⟨cs.toList, by simp, h1, h2⟩
  · rename_i vs
    split at h
    · rename_i hz
      injection h with h; subst h
      simp only [SimV]
      exact ⟨[], by simp [Array.size_eq_zero_iff.1 hz], by simp [SimL]⟩
    · cases h
  · exact (constA_sim h).1

theorem constV_cells {v : Value} {x : AVal} (h : constV v = some x) (hne : ∀ vs, v ≠ .tuple vs) :
    SimL c w x.cells v.cells.toList ∧ (∀ u ∈ v.cells.toList, oneC u = true) ∧ oneL x.cells = true ∧ pureL x.cells = true ∧ pureV x = true := by
  unfold constV at h
  split at h
  · rename_i cs
    rw [Option.map_eq_some_iff] at h
    obtain ⟨xs, hx, rfl⟩ := h
    obtain ⟨h1, h2, h3, h4, _⟩ := constL_sim (c := c) (w := w) hx
    exact ⟨h1, h2, h3, h4, by simpa [pureV] using h4⟩
  · exact absurd rfl (hne _)
  · rename_i hn _
    obtain ⟨h1, h2, h3, h4, h5⟩ := constA_sim (c := c) (w := w) h
    have hc : v.cells = #[v] := by unfold Value.cells; split <;> first | rfl | exact absurd rfl (hn _)
    rw [h3, hc]
    exact ⟨by simp only [SimL]; exact ⟨v, [], rfl, h1, rfl⟩, by simpa using h2, by simp [oneL, h4], by simp [pureL, h5], h5⟩

/-! The frame -/
/-- The package's variables that are known. -/
def GOk (G : Nat → Option (List AVal)) (c : Ctx) (w : World) : Prop :=
  ∀ g cs, G g = some cs → SimV c w (.fp cs) (.pointer (some ⟨g, 0, none⟩))

theorem GOk.mono {G : Nat → Option (List AVal)} {c c' : Ctx} {w w' : World} (h : GOk G c w) (hc : CtxLe c c') (hk : Kept c.F w w') : GOk G c' w' :=
  fun g cs e => SimV.mono hc hk _ _ (h g cs e)

def TmOk (c : Ctx) (w : World) (tm : Nat → AVal) (tmps : Array Value) : Prop := ∀ t, SimV c w (tm t) (tmps.getD t undef)

theorem TmOk.mono {c c' : Ctx} {w w' : World} {tm : Nat → AVal} {tmps : Array Value} (h : TmOk c w tm tmps) (hc : CtxLe c c') (hk : Kept c.F w w') : TmOk c' w' tm tmps :=
  fun t => SimV.mono hc hk _ _ (h t)

theorem ev_sim {G : Nat → Option (List AVal)} {s : AState} {a : Act} (hG : GOk G c w) (ht : TmOk c w s.tm a.tmps) {x : Operand} {y : AOpd} (h : compOpd x = some y) : SimV c w (ev G s y) (a.eval x) := by
  cases x with
  | tmp t => simp only [compOpd] at h; injection h with h; subst h; exact ht t
  | const v =>
    simp only [compOpd, Option.map_eq_some_iff] at h
    obtain ⟨z, hz, rfl⟩ := h
    exact constV_sim hz
  | global g =>
    simp only [compOpd] at h; injection h with h; subst h
    simp only [ev]
    cases hg : G g with
    | none => simp only [SimV]
    | some cs => exact hG g cs hg
  | func f =>
    simp only [compOpd] at h; injection h with h; subst h
    simp only [ev, SimV]
    exact ⟨[], [], rfl, by simp [SimL], by simp [SimL]⟩

theorem evL_sim {G : Nat → Option (List AVal)} {s : AState} {a : Act} (hG : GOk G c w) (ht : TmOk c w s.tm a.tmps) : ∀ {xs : List Operand} {ys : List AOpd}, compOpds xs = some ys → SimL c w (ys.map (ev G s)) (xs.map a.eval)
  | [], ys, h => by simp only [compOpds] at h; injection h with h; subst h; simp [SimL]
  | x :: xs, ys, h => by
    simp only [compOpds] at h
    split at h
    · rename_i y zs hy hz
      injection h with h; subst h
      simp only [List.map_cons, SimL]
      exact ⟨_, _, rfl, ev_sim hG ht hy, evL_sim hG ht hz⟩
    · cases h

/-! Lists of things -/
theorem SimL.length : ∀ {vs : List AVal} {us : List Value}, SimL c w vs us → us.length = vs.length
  | [], us, h => by simp only [SimL] at h; subst h; rfl
  | v :: vs, us, h => by
    simp only [SimL] at h
    obtain ⟨x, xs, rfl, _, h2⟩ := h
    simp [SimL.length h2]

theorem SimL.get : ∀ {vs : List AVal} {us : List Value}, SimL c w vs us → ∀ (i : Nat) v, vs[i]? = some v → ∃ u, us[i]? = some u ∧ SimV c w v u
  | [], us, _, i, v, hi => by simp at hi
  | x :: vs, us, h, i, v, hi => by
    simp only [SimL] at h
    obtain ⟨y, ys, rfl, h1, h2⟩ := h
    cases i with
    | zero => simp at hi; subst hi; exact ⟨y, rfl, h1⟩
    | succ i => simp at hi; simpa using SimL.get h2 i v hi

theorem SimL.drop : ∀ {vs : List AVal} {us : List Value}, SimL c w vs us → ∀ n, SimL c w (vs.drop n) (us.drop n)
  | [], us, h, n => by simp only [SimL] at h; subst h; simp [SimL]
  | x :: vs, us, h, n => by
    cases n with
    | zero => exact h
    | succ n =>
      simp only [SimL] at h
      obtain ⟨y, ys, rfl, _, h2⟩ := h
      simpa using SimL.drop h2 n

theorem SimL.take : ∀ {vs : List AVal} {us : List Value}, SimL c w vs us → ∀ n, SimL c w (vs.take n) (us.take n)
  | [], us, h, n => by simp only [SimL] at h; subst h; simp [SimL]
  | x :: vs, us, h, n => by
    cases n with
    | zero => simp [SimL]
    | succ n =>
      simp only [SimL] at h
      obtain ⟨y, ys, rfl, h1, h2⟩ := h
      simp only [List.take_succ_cons, SimL]
      exact ⟨_, _, rfl, h1, SimL.take h2 n⟩

theorem SimL.append : ∀ {vs vs' : List AVal} {us us' : List Value}, SimL c w vs us → SimL c w vs' us' → SimL c w (vs ++ vs') (us ++ us')
  | [], vs', us, us', h, h' => by simp only [SimL] at h; subst h; simpa using h'
  | x :: vs, vs', us, us', h, h' => by
    simp only [SimL] at h
    obtain ⟨y, ys, rfl, h1, h2⟩ := h
    simp only [List.cons_append, SimL]
    exact ⟨_, _, rfl, h1, SimL.append h2 h'⟩

theorem SimL.set : ∀ {vs : List AVal} {us : List Value}, SimL c w vs us → ∀ (i : Nat) {v : AVal} {u : Value}, SimV c w v u → SimL c w (vs.set i v) (us.set i u)
  | [], us, h, i, _, _, _ => by simp only [SimL] at h; subst h; simp [SimL]
  | x :: vs, us, h, i, v, u, hv => by
    simp only [SimL] at h
    obtain ⟨y, ys, rfl, h1, h2⟩ := h
    cases i with
    | zero => simp only [List.set_cons_zero, SimL]; exact ⟨_, _, rfl, hv, h2⟩
    | succ i => simp only [List.set_cons_succ, SimL]; exact ⟨_, _, rfl, h1, SimL.set h2 i hv⟩

/-- A value and its cells. -/
theorem SimV.cells {v : AVal} {u : Value} (h : SimV c w v u) (h1 : oneL v.cells = true) : SimL c w v.cells u.cells.toList ∧ ∀ x ∈ u.cells.toList, oneC x = true := by
  cases v with
  | agg cs =>
    simp only [SimV] at h
    obtain ⟨us, rfl, hs, ho⟩ := h
    simpa [AVal.cells, Value.cells] using ⟨hs, ho⟩
  | tup vs => simp [AVal.cells, oneL, oneA] at h1
  | any => simp [AVal.cells, oneL, oneA] at h1
  | atom x =>
    have h' := h
    simp only [SimV] at h
    obtain ⟨rfl, ha⟩ := h
    have ho : oneC u = true := by cases u <;> simp_all [atomV, oneC, Value.oneCell']
    have hc : u.cells = #[u] := by cases u <;> simp_all [atomV, Value.cells]
    rw [hc]
    exact ⟨by simp only [AVal.cells, SimL]; exact ⟨u, [], rfl, h', rfl⟩, by simpa using ho⟩
  | sl es =>
    have h' := h
    simp only [SimV] at h
    obtain ⟨a, cap, rfl, _⟩ := h
    exact ⟨by simp only [AVal.cells, SimL]; exact ⟨_, [], rfl, h', rfl⟩, by simp [Value.cells, oneC, Value.oneCell']⟩
  | sn es =>
    have h' := h
    simp only [SimV] at h
    obtain ⟨a, cap, rfl, _⟩ := h
    exact ⟨by simp only [AVal.cells, SimL]; exact ⟨_, [], rfl, h', rfl⟩, by simp [Value.cells, oneC, Value.oneCell']⟩
  | own b ver sz off len =>
    have h' := h
    simp only [SimV] at h
    obtain ⟨_, _, a, cap, rfl, _⟩ := h
    exact ⟨by simp only [AVal.cells, SimL]; exact ⟨_, [], rfl, h', rfl⟩, by simp [Value.cells, oneC, Value.oneCell']⟩
  | ptr b ver off =>
    have h' := h
    simp only [SimV] at h
    obtain ⟨_, _, a, rfl, _⟩ := h
    exact ⟨by simp only [AVal.cells, SimL]; exact ⟨_, [], rfl, h', rfl⟩, by simp [Value.cells, oneC, Value.oneCell']⟩
  | ep b ver i off =>
    have h' := h
    simp only [SimV] at h
    obtain ⟨_, _, a, rfl, _⟩ := h
    exact ⟨by simp only [AVal.cells, SimL]; exact ⟨_, [], rfl, h', rfl⟩, by simp [Value.cells, oneC, Value.oneCell']⟩
  | fp cs =>
    have h' := h
    simp only [SimV] at h
    obtain ⟨_, blk, off, rfl, _⟩ := h
    exact ⟨by simp only [AVal.cells, SimL]; exact ⟨_, [], rfl, h', rfl⟩, by simp [Value.cells, oneC, Value.oneCell']⟩
  | fn f first cap =>
    have h' := h
    simp only [SimV] at h
    obtain ⟨us, vs, rfl, _⟩ := h
    exact ⟨by simp only [AVal.cells, SimL]; exact ⟨_, [], rfl, h', rfl⟩, by simp [Value.cells, oneC, Value.oneCell']⟩
  | yld b ver =>
    have h' := h
    simp only [SimV] at h
    obtain ⟨_, _, a, rfl, _⟩ := h
    exact ⟨by simp only [AVal.cells, SimL]; exact ⟨_, [], rfl, h', rfl⟩, by simp [Value.cells, oneC, Value.oneCell']⟩
  | mp b ver =>
    have h' := h
    simp only [SimV] at h
    obtain ⟨_, _, a, rfl, _⟩ := h
    exact ⟨by simp only [AVal.cells, SimL]; exact ⟨_, [], rfl, h', rfl⟩, by simp [Value.cells, oneC, Value.oneCell']⟩
  | ifc t x =>
    have h' := h
    simp only [SimV] at h
    obtain ⟨y, rfl, _⟩ := h
    exact ⟨by simp only [AVal.cells, SimL]; exact ⟨_, [], rfl, h', rfl⟩, by simp [Value.cells, oneC, Value.oneCell']⟩
end Go.Abs
