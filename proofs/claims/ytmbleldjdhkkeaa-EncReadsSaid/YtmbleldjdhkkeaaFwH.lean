/- A row of operations that draws no order. -/
import Derived.Test.YtmbleldjdhkkeaaFwG
import Derived.Test.YtmbleldjdhkkeaaFwZ
set_option linter.unusedSimpArgs false
set_option linter.unusedVariables false
namespace Go.Abs
open Go.RowKit
variable {P : Program} {wr : FuncId → Bool} {c : Ctx} {w : World} {G : Nat → Option (List AVal)} {s : AState} {a : Act}
variable {callv : AVal → List AVal → Store → Option (AVal × Store)} {raw : FuncId → Bool}

/-- What a row of operations leaves. -/
structure Went (P : Program) (wr : FuncId → Bool) (G : Nat → Option (List AVal)) (c : Ctx) (w : World) (a : Act) (s' : AState) (c' : Ctx) (w' : World) (a' : Act) : Prop where
  fr : Fr P wr G c' w' s' a'
  le : CtxLe c c'
  D : c'.D = c.D
  kept : Kept c.K w w'
  size : a'.tmps.size = a.tmps.size
  defers : a'.defers = a.defers

theorem Act.put_size (a : Act) (d : Option Nat) (v : Value) : (a.put d v).tmps.size = a.tmps.size := by cases d <;> simp [Act.put]
theorem Act.put_dfs (a : Act) (d : Option Nat) (v : Value) : (a.put d v).defers = a.defers := by cases d <;> simp [Act.put]

theorem K_mono {c c' : Ctx} (h : CtxLe c c') (hd : c'.D = c.D) : ∀ i, c.K i → c'.K i := fun i hi => hi.elim (fun h' => .inl (h.F i h')) (fun h' => .inr (hd ▸ h'))

theorem TmOk.put {tm : Nat → AVal} {tmps : Array Value} {d : Nat} {v : AVal} {u : Value} (h : TmOk c w tm tmps) (hd : d < tmps.size) (hv : SimV c w v u) : TmOk c w (upd tm d v) (tmps.setIfInBounds d u) := by
  intro t
  simp only [upd]
  by_cases e : t = d
  · subst e
    rw [if_pos rfl]
    have : (tmps.setIfInBounds t u).getD t undef = u := by simp [hd]
    rw [this]; exact hv
  · rw [if_neg e]
    have : (tmps.setIfInBounds d u).getD t undef = tmps.getD t undef := by
      rw [Array.getD_eq_getD_getElem?, Array.getD_eq_getD_getElem?, Array.getElem?_setIfInBounds_ne (fun h => e h.symm)]
    rw [this]; exact h t

theorem Fr.put (h : Fr P wr G c w s a) {d : Option Nat} (hd : ∀ t, d = some t → t < a.tmps.size) {v : AVal} {u : Value} {c' : Ctx} {w' : World} {σ' : Store} (hc : CtxLe c c') (hk : Kept c.K w w') (hσ : SimS P wr c' w' σ') (hv : SimV c' w' v u) :
    Fr P wr G c' w' ({ s with σ := σ' }.put d v) (a.put d u) := by
  refine ⟨h.G.mono hc hk.F, ?_, by rw [(put_σ _ _ _).1]; exact hσ⟩
  have := h.tm.mono hc hk.F
  cases d with
  | none => exact this
  | some t => exact this.put (hd t rfl) hv

/-- The flag of an operation. -/
theorem wanted_ok (h : Fr P wr G c w s a) {ops : Array Oper} {o : Oper} {g : Option (Nat × Bool)} {b : Bool}
    (hg : (match o.guard with | none => some none | some (j, want) => (match (ops.toList[j]?).bind (·.dst) with | some d => some (some (d, want)) | none => none)) = some g) (hw : wantedA s g = some b) : Region.wanted o (yielded ops a.tmps) = b := by
  unfold Region.wanted
  split at hg
  · rename_i e
    injection hg with hg; subst hg
    simp only [wantedA] at hw; injection hw with hw; subst hw
    rw [e]
  · rename_i j want e
    rw [e]
    dsimp only
    split at hg
    · rename_i d hd
      injection hg with hg; subst hg
      have hd' : (ops[j]?).bind (·.dst) = some d := by simpa using hd
      simp only [wantedA] at hw
      have ht := h.tm d
      unfold yielded
      rw [hd']
      simp only [Option.bind_some]
      split at hw
      · rename_i q hq
        injection hw with hw; subst hw
        rw [hq] at ht
        have e1 := sim_bool ht
        have : a.tmps[d]? = some (.bool q) := by
          rw [Array.getD_eq_getD_getElem?] at e1
          cases hx : a.tmps[d]? with
          | none => rw [hx] at e1; simp [undef] at e1
          | some x => rw [hx] at e1; simpa using e1
        rw [this]
        cases q <;> cases want <;> rfl
      · rename_i hq
        injection hw with hw; subst hw
        rw [hq] at ht
        simp only [SimV] at ht
        obtain ⟨us, e1, hL⟩ := ht
        have : ∀ x, a.tmps[d]? = some (.bool x) → False := by
          intro x hx
          rw [Array.getD_eq_getD_getElem?, hx] at e1
          simp at e1
        cases hx : a.tmps[d]? with
        | none => rfl
        | some y => cases y <;> first | rfl | exact absurd hx (fun h => this _ h)
      · cases hw
    · cases hg

/-- One operation, with its flag. -/
theorem oper_ok (hcall : UponOk P wr G callv) (h : Fr P wr G c w s a) {app : List (Nat × Nat)} (happ : ∀ p ∈ app, 0 < p.2) {ops : Array Oper} {i : Nat} {o : Oper} (ho : ops[i]? = some o) (hd : ∀ t, o.dst = some t → t < a.tmps.size) {site site' : Nat} {aop : AOp} {g : Option (Nat × Bool)} {ro : Option Nat} {m : Nat} {K : Act → World → Prop} {Q : Exit → Act → World → Prop}
    (hc : compOp P app o.dst site o.op = some (aop, site'))
    (hg : (match o.guard with | none => some none | some (j, want) => (match (ops.toList[j]?).bind (·.dst) with | some d => some (some (d, want)) | none => none)) = some g)
    {r : AVal × Store} (hr : (match wantedA s g with | some true => stepOp G callv raw s aop | some false => some (.tup [], s.σ) | none => none) = some r)
    (hK : ∀ c' w' a', Went P wr G c w a ({ s with σ := r.2 }.put o.dst r.1) c' w' a' → K a' w') : wpOpIn (WF ro) m P ops Q i K a w := by
  unfold wpOpIn
  rw [ho]
  dsimp only
  split at hr
  · rename_i hw
    rw [wanted_ok h hg hw]
    simp only [if_true]
    refine op_ok hcall h happ hc hr fun c' w' u h1 h2 h3 h4 h5 => hK c' w' _ ⟨h.put hd h1 h3 h4 h5, h1, h2, h3, Act.put_size _ _ _, Act.put_dfs _ _ _⟩
  · rename_i hw
    injection hr with hr; subst hr
    rw [wanted_ok h hg hw]
    refine ⟨fun _ _ => trivial, hK c w _ ⟨h.put hd (CtxLe.refl c) (Kept.refl _ _) h.σ ?_, CtxLe.refl c, rfl, Kept.refl _ _, Act.put_size _ _ _, Act.put_dfs _ _ _⟩⟩
    simp only [SimV]
    exact ⟨[], rfl, by simp [SimL]⟩
  · cases hr

theorem Went.trans {c c1 c2 : Ctx} {w w1 w2 : World} {a a1 a2 : Act} {s1 s2 : AState} (h : Went P wr G c w a s1 c1 w1 a1) (k : Went P wr G c1 w1 a1 s2 c2 w2 a2) : Went P wr G c w a s2 c2 w2 a2 :=
  ⟨k.fr, h.le.trans k.le, k.D.trans h.D, h.kept.trans k.kept (K_mono h.le h.D), k.size.trans h.size, k.defers.trans h.defers⟩

theorem range_split (n m : Nat) : List.range' n (m + 1) = n :: List.range' (n + 1) m := by simp [List.range'_succ]

open Classical in
theorem ops_ok (hcall : UponOk P wr G callv) {app : List (Nat × Nat)} (happ : ∀ p ∈ app, 0 < p.2) {ops : Array Oper} {ro : Option Nat} {m : Nat} {Q : Exit → Act → World → Prop} : ∀ (rest pre : List Oper) (site site' : Nat) (os : List AOper) (c : Ctx) (w : World) (s s' : AState) (a : Act),
    ops.toList = pre ++ rest → compOps P app ops.toList rest site = some (os, site') → (∀ o ∈ rest, ∀ t, o.dst = some t → t < a.tmps.size) → Fr P wr G c w s a → runOps G callv raw os s = some s' →
    (∀ c' w' a', Went P wr G c w a s' c' w' a' → Q .normal a' w') → wpOpsIn (WF ro) m P ops Q (List.range' pre.length rest.length) a w
  | [], pre, site, site', os, c, w, s, s', a, he, hc, hd, h, hr, hQ => by
    simp only [compOps] at hc; injection hc with hc; injection hc with hc _; subst hc
    simp only [runOps] at hr; injection hr with hr; subst hr
    exact hQ c w a ⟨h, CtxLe.refl c, rfl, Kept.refl _ _, rfl, rfl⟩
  | o :: rest, pre, site, site', os, c, w, s, s', a, he, hc, hd, h, hr, hQ => by
    simp only [compOps] at hc
    split at hc
    · rename_i aop site1 hop
      split at hc
      · rename_i g hg
        rw [Option.map_eq_some_iff] at hc
        obtain ⟨⟨os', site2⟩, hc', hc⟩ := hc
        injection hc with hc _; subst hc
        have ho : ops[pre.length]? = some o := by
          have : ops.toList[pre.length]? = some o := by rw [he]; simp
          simpa using this
        simp only [List.length_cons]
        rw [range_split, wpOpsIn_cons]
        have next : ∀ r : AVal × Store, runOps G callv raw os' ({ s with σ := r.2 }.put o.dst r.1) = some s' → ∀ c' w' a', Went P wr G c w a ({ s with σ := r.2 }.put o.dst r.1) c' w' a' →
            wpOpsIn (WF ro) m P ops Q (List.range' (pre.length + 1) rest.length) a' w' := by
          intro r hr' c' w' a' hw
          have := ops_ok hcall happ (ro := ro) (m := m) (Q := Q) rest (pre ++ [o]) site1 site2 os' c' w' _ s' a' (by rw [he]; simp) hc' (fun x hx t ht => by rw [hw.size]; exact hd x (List.mem_cons_of_mem _ hx) t ht) hw.fr hr'
            (fun c2 w2 a2 hw2 => hQ c2 w2 a2 (hw.trans hw2))
          simpa using this
        simp only [runOps] at hr
        split at hr
        · rename_i hw
          rw [Option.bind_eq_some_iff] at hr
          obtain ⟨r, hst, hr⟩ := hr
          unfold stepF at hst
          rw [Option.bind_eq_some_iff] at hst
          obtain ⟨r', hst, hfl⟩ := hst
          rw [chk_some] at hfl
          obtain ⟨_, hfl⟩ := hfl
          injection hfl with hfl; subst hfl
          refine oper_ok hcall h happ ho (hd o (by simp)) hop hg (r := r') (raw := raw) (by rw [hw]; exact hst) (next r' hr)
        · rename_i hw
          refine oper_ok hcall h happ ho (hd o (by simp)) hop hg (r := (.tup [], s.σ)) (raw := raw) (by rw [hw]) (next (.tup [], s.σ) hr)
        · cases hr
      · cases hc
    · cases hc
end Go.Abs
