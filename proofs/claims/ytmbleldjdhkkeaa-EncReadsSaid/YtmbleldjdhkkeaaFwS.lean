/- What the abstract machine's store stands for. -/
import Derived.Test.YtmbleldjdhkkeaaFwP
set_option linter.unusedSimpArgs false
set_option linter.unusedVariables false
namespace Go.Abs
open Go.RowKit

/-- No cell of n is frozen. -/
def FrzOk (fr : Nat × Nat) (n : Nat) : Prop := ∀ o, o < n → (decide (fr.1 ≤ o) && decide (o < fr.2)) = false

def PendOk : Option Code → Option ACode → Prop
  | none, none => True
  | some .ret, some .ret => True
  | some (.exit i), some (.exit j) => i = j
  | _, _ => False

section
variable (P : Program) (wr : FuncId → Bool)
/-- An array's block. -/
structure ArrAt (c : Ctx) (w : World) (b : Nat) (fz : Bool) (sz : Nat) (es : List AVal) : Prop where
  frz : c.F (c.ρ b) ↔ fz = true
  len : es.length ≤ c.cp b
  row : ∃ cs t fr, w.heap[c.ρ b]? = some (.cells cs t fr) ∧ cs.size = c.cp b * sz ∧ FrzOk fr cs.size ∧ (∀ x ∈ cs, oneC x = true) ∧ SimE c w (c.ρ b) sz es 0

def SimBox (c : Ctx) (w : World) (b : Nat) : Box → Prop
  | .var ver cs => c.vr b = ver ∧ ¬ c.F (c.ρ b) ∧ ∃ (us : List Value) (t : TypeId), w.heap[c.ρ b]? = some (.cells us.toArray t (0, 0)) ∧ SimL c w cs us ∧ ∀ x ∈ us, oneC x = true
  | .arr ver fz sz es => c.vr b = ver ∧ c.sz b = sz ∧ 0 < sz ∧ pureL es = true ∧ (c.nb b = true → es = []) ∧ (c.nb b = false → ArrAt c w b fz sz es)
  | .map _ _ => False
  | .loop ver st pend tm _ ps assign body => c.vr b = ver ∧ ¬ c.F (c.ρ b) ∧ ∃ r : Loop, w.heap[c.ρ b]? = some (.loop r) ∧ r.state = st ∧ PendOk r.pending pend ∧ r.params.toList = ps ∧
      (∃ app n m, (∀ p ∈ app, 0 < p.2) ∧ compCode P wr app r.assign n = some (assign, m)) ∧ (∃ app n m, (∀ p ∈ app, 0 < p.2) ∧ compCode P wr app r.body n = some (body, m)) ∧
      dstsOk r.tmps.size r.assign = true ∧ dstsOk r.tmps.size r.body = true ∧ (∀ d ∈ ps, d < r.tmps.size) ∧ TmOk c w tm r.tmps
  | .dead ver => c.vr b = ver

/-- Has it a block of its own? -/
def hasBlk (c : Ctx) (b : Nat) : Box → Prop
  | .arr .. => c.nb b = false
  | .dead _ => False
  | _ => True

structure SimS (c : Ctx) (w : World) (σ : Store) : Prop where
  n : c.n = σ.length
  F : ∀ i, c.F i → i < w.heap.size
  D : ∀ i, c.D i → i < w.heap.size
  box : ∀ b B, σ[b]? = some B → SimBox P wr c w b B
  apart : ∀ b b' B B', σ[b]? = some B → σ[b']? = some B' → b ≠ b' → hasBlk c b B → hasBlk c b' B' → c.ρ b = c.ρ b' → c.F (c.ρ b)
  dis : ∀ b B, σ[b]? = some B → hasBlk c b B → ¬ c.D (c.ρ b)
  DF : ∀ i, c.D i → ¬ c.F i
end

variable {P : Program} {wr : FuncId → Bool} {c : Ctx} {w : World}

theorem SimS.K {σ : Store} (h : SimS P wr c w σ) : ∀ i, c.K i → i < w.heap.size := fun i hi => hi.elim (h.F i) (h.D i)
theorem Kept.F {c : Ctx} {w w' : World} (h : Kept c.K w w') : Kept c.F w w' := h.mono fun _ hi => .inl hi

theorem SimS.lt {σ : Store} (h : SimS P wr c w σ) {b : Nat} {B : Box} (hb : σ[b]? = some B) (hB : hasBlk c b B) : c.ρ b < w.heap.size := by
  have hbox := h.box b B hb
  have key : ∀ {o : Obj}, w.heap[c.ρ b]? = some o → c.ρ b < w.heap.size := fun {o} he => (Array.getElem?_eq_some_iff.1 he).1
  cases B with
  | var ver cs => obtain ⟨_, _, us, t, he, _⟩ := hbox; exact key he
  | arr ver fz sz es =>
    obtain ⟨_, _, _, _, _, hx⟩ := hbox
    obtain ⟨cs, t, fr, he, _⟩ := (hx hB).row
    exact key he
  | map v es => exact hbox.elim
  | loop ver st pend tm base ps assign body => obtain ⟨_, _, r, he, _⟩ := hbox; exact key he
  | dead v => exact hB.elim

/-- A box in a later world, its own block untouched. -/
theorem SimBox.mono {c c' : Ctx} {w w' : World} {b : Nat} {B : Box} (h : SimBox P wr c w b B) (hc : CtxLe c c') (hk : Kept c.F w w')
    (hb : c'.vr b = c.vr b ∧ c'.ρ b = c.ρ b ∧ c'.sz b = c.sz b ∧ c'.cp b = c.cp b ∧ c'.nb b = c.nb b) (hF : hasBlk c b B → (c'.F (c.ρ b) ↔ c.F (c.ρ b)))
    (hblk : hasBlk c b B → w'.heap[c.ρ b]? = w.heap[c.ρ b]?) : SimBox P wr c' w' b B := by
  obtain ⟨e1, e2, e3, e4, e5⟩ := hb
  cases B with
  | var ver cs =>
    obtain ⟨h1, h2, us, t, he, hL, ho⟩ := h
    refine ⟨e1.trans h1, ?_, us, t, ?_, SimL.mono hc hk _ _ hL, ho⟩
    · rw [e2]; exact fun hf => h2 ((hF trivial).1 hf)
    · rw [e2, hblk trivial]; exact he
  | arr ver fz sz es =>
    obtain ⟨h1, h2, h3, h4, h5, h6⟩ := h
    refine ⟨e1.trans h1, e3.trans h2, h3, h4, fun hn => h5 (e5 ▸ hn), fun hn => ?_⟩
    have hn' : c.nb b = false := e5 ▸ hn
    have hA := h6 hn'
    obtain ⟨cs, t, fr, he, hsz, hfr, ho, hE⟩ := hA.row
    refine ⟨?_, by rw [e4]; exact hA.len, cs, t, fr, ?_, by rw [e4]; exact hsz, hfr, ho, ?_⟩
    · rw [e2]; exact (hF hn').trans hA.frz
    · rw [e2, hblk hn']; exact he
    · rw [e2]
      refine SimE.mk fun k e hk' => ?_
      obtain ⟨u, g1, g2⟩ := hE.get k e hk'
      refine ⟨u, SimV.mono hc hk _ _ g1, g2.1, fun j x hx => ⟨?_, (g2.2 j x hx).2⟩⟩
      rw [World.cell?_of_block (w := w) (a := ⟨c.ρ b, 0 + k * sz + j, none⟩) (hblk hn')]
      exact (g2.2 j x hx).1
  | map v es => exact h.elim
  | loop ver st pend tm base ps assign body =>
    obtain ⟨h1, h2, r, he, h3, h4, h5, h6, h7, h8, h9, h10, h11⟩ := h
    refine ⟨e1.trans h1, ?_, r, ?_, h3, h4, h5, h6, h7, h8, h9, h10, h11.mono hc hk⟩
    · rw [e2]; exact fun hf => h2 ((hF trivial).1 hf)
    · rw [e2, hblk trivial]; exact he
  | dead v => exact e1.trans h

/-- One box anew: its block is turned, or a new one. -/
theorem SimS.upd {c c' : Ctx} {w w' : World} {σ : Store} {b : Nat} {B B' : Box} (h : SimS P wr c w σ) (hb : σ[b]? = some B) (hc : CtxLe c c') (hF : ∀ i, c'.F i ↔ c.F i) (hD : c'.D = c.D) (hn : c'.n = c.n)
    (hother : ∀ x, x ≠ b → c'.vr x = c.vr x ∧ c'.ρ x = c.ρ x ∧ c'.sz x = c.sz x ∧ c'.cp x = c.cp x ∧ c'.nb x = c.nb x)
    (hk : Kept c.F w w') (hw : ∀ i, i < w.heap.size → i ≠ c'.ρ b → w'.heap[i]? = w.heap[i]?)
    (hwhere : hasBlk c' b B' → (w.heap.size ≤ c'.ρ b ∨ (c'.ρ b = c.ρ b ∧ hasBlk c b B) ∨ ((∀ x X, σ[x]? = some X → x ≠ b → hasBlk c x X → c.ρ x ≠ c'.ρ b) ∧ ¬ c.D (c'.ρ b))) ∧ ¬ c.F (c'.ρ b)) (hno : ¬ hasBlk c' b B' → ∀ i, i < w.heap.size → w'.heap[i]? = w.heap[i]? ∨ (i = c.ρ b ∧ hasBlk c b B ∧ ¬ c.F i))
    (hB' : SimBox P wr c' w' b B') : SimS P wr c' w' (σ.set b B') := by
  have hblt : b < σ.length := (List.getElem?_eq_some_iff.1 hb).1
  have keep : ∀ x X, σ[x]? = some X → x ≠ b → hasBlk c x X → w'.heap[c.ρ x]? = w.heap[c.ρ x]? := by
    intro x X hx hne hX
    have hlt := h.lt hx hX
    by_cases hp : hasBlk c' b B'
    · by_cases hf : c.F (c.ρ x)
      · exact hk.block _ hf
      · apply hw _ hlt
        intro e
        obtain ⟨h1, h2⟩ := hwhere hp
        rcases h1 with h1 | ⟨h1, h3⟩ | ⟨h1, _⟩
        · omega
        · exact hf (h.apart x b X B hx hb hne hX h3 (e.trans h1))
        · exact h1 x X hx hne hX e
    · rcases hno hp _ hlt with h1 | ⟨h1, h2, h3⟩
      · exact h1
      · exact absurd (h.apart x b X B hx hb hne hX h2 h1) h3
  have hblkiff : ∀ x X, x ≠ b → (hasBlk c' x X ↔ hasBlk c x X) := by
    intro x X hne
    cases X <;> simp [hasBlk]
    rw [(hother x hne).2.2.2.2]
  refine ⟨by rw [hn, h.n, List.length_set], fun i hi => Nat.lt_of_lt_of_le (h.F i ((hF i).1 hi)) hk.size, fun i hi => Nat.lt_of_lt_of_le (h.D i (hD ▸ hi)) hk.size, ?_, ?_, ?_, fun i hi hf => h.DF i (hD ▸ hi) ((hF i).1 hf)⟩
  · intro x X hx
    by_cases e : x = b
    · subst e
      rw [List.getElem?_set_self hblt] at hx
      injection hx with hx; subst hx; exact hB'
    · rw [List.getElem?_set_ne (fun h => e h.symm)] at hx
      exact (h.box x X hx).mono hc hk (hother x e) (fun _ => hF _) (keep x X hx e)
  · have side : ∀ x X, σ[x]? = some X → x ≠ b → hasBlk c' x X → hasBlk c' b B' → c'.ρ x = c'.ρ b → False := by
      intro x X hx hne hX hB e
      have hX' := (hblkiff x X hne).1 hX
      obtain ⟨h1, h2⟩ := hwhere hB
      rw [(hother x hne).2.1] at e
      rcases h1 with h1 | ⟨h1, h3⟩ | ⟨h1, _⟩
      · have := h.lt hx hX'; omega
      · have := h.apart x b X B hx hb hne hX' h3 (e.trans h1)
        rw [e] at this
        exact h2 this
      · exact h1 x X hx hne hX' e
    intro x y X Y hx hy hne hX hY e
    by_cases ex : x = b
    · subst ex
      rw [List.getElem?_set_self hblt] at hx
      injection hx with hx; subst hx
      rw [List.getElem?_set_ne hne] at hy
      exact (side y Y hy (fun h => hne h.symm) hY hX e.symm).elim
    · rw [List.getElem?_set_ne (fun h => ex h.symm)] at hx
      by_cases ey : y = b
      · subst ey
        rw [List.getElem?_set_self hblt] at hy
        injection hy with hy; subst hy
        exact (side x X hx ex hX hY e).elim
      · rw [List.getElem?_set_ne (fun h => ey h.symm)] at hy
        rw [(hother x ex).2.1] at e ⊢
        rw [(hother y ey).2.1] at e
        exact (hF _).2 (h.apart x y X Y hx hy hne ((hblkiff x X ex).1 hX) ((hblkiff y Y ey).1 hY) e)
  · intro x X hx hX hd
    rw [hD] at hd
    by_cases ex : x = b
    · subst ex
      rw [List.getElem?_set_self hblt] at hx
      injection hx with hx; subst hx
      obtain ⟨h1, h2⟩ := hwhere hX
      rcases h1 with h1 | ⟨h1, h3⟩ | ⟨_, h1⟩
      · have := h.D _ hd; omega
      · exact h.dis x B hb h3 (h1 ▸ hd)
      · exact h1 hd
    · rw [List.getElem?_set_ne (fun h => ex h.symm)] at hx
      rw [(hother x ex).2.1] at hd
      exact h.dis x X hx ((hblkiff x X ex).1 hX) hd

/-- An array is written no more. -/
theorem SimS.freeze {c : Ctx} {w : World} {σ : Store} {b ver sz : Nat} {fz : Bool} {es : List AVal} (h : SimS P wr c w σ) (hb : σ[b]? = some (.arr ver fz sz es)) :
    ∃ c', CtxLe c c' ∧ c'.n = c.n ∧ c'.D = c.D ∧ SimS P wr c' w (σ.set b (.arr ver true sz es)) ∧ (c.nb b = false → c'.F (c.ρ b)) := by
  have hblt : b < σ.length := (List.getElem?_eq_some_iff.1 hb).1
  have hset : ∀ x, (σ.set b (.arr ver true sz es))[x]? = if x = b then some (.arr ver true sz es) else σ[x]? := by
    intro x
    by_cases e : x = b
    · subst e; rw [if_pos rfl, List.getElem?_set_self hblt]
    · rw [if_neg e, List.getElem?_set_ne (fun h => e h.symm)]
  obtain ⟨h1, h2, h3, h4, h5, h6⟩ := h.box b _ hb
  by_cases hnb : c.nb b = true
  · refine ⟨c, CtxLe.refl c, rfl, rfl, ⟨by rw [h.n, List.length_set], h.F, h.D, ?_, ?_, ?_, h.DF⟩, fun e => by rw [hnb] at e; cases e⟩
    · intro x X hx
      rw [hset] at hx
      split at hx
      · rename_i e; subst e
        injection hx with hx; subst hx
        exact ⟨h1, h2, h3, h4, h5, fun e => by rw [hnb] at e; cases e⟩
      · exact h.box x X hx
    · intro x y X Y hx hy hne hX hY e
      rw [hset] at hx hy
      split at hx
      · rename_i e'; subst e'
        injection hx with hx; subst hx
        simp [hasBlk, hnb] at hX
      · split at hy
        · rename_i e'; subst e'
          injection hy with hy; subst hy
          simp [hasBlk, hnb] at hY
        · exact h.apart x y X Y hx hy hne hX hY e
    · intro x X hx hX
      rw [hset] at hx
      split at hx
      · rename_i e'; subst e'
        injection hx with hx; subst hx
        simp [hasBlk, hnb] at hX
      · exact h.dis x X hx hX
  · have hnb : c.nb b = false := by simpa using hnb
    have hA := h6 hnb
    obtain ⟨cs, t, fr, he, hsz, hfr, ho, hE⟩ := hA.row
    let c' : Ctx := { c with F := fun i => c.F i ∨ i = c.ρ b }
    have hle : CtxLe c c' := ⟨fun i hi => .inl hi, Nat.le_refl _, fun _ _ => Nat.le_refl _, fun _ _ _ => ⟨rfl, rfl, rfl, rfl⟩⟩
    have hlt : c.ρ b < w.heap.size := (Array.getElem?_eq_some_iff.1 he).1
    refine ⟨c', hle, rfl, rfl, ⟨by show c.n = _; rw [h.n, List.length_set], ?_, h.D, ?_, ?_, ?_, fun i hi hf => hf.elim (h.DF i hi) fun e => h.dis b _ hb hnb (e ▸ hi)⟩, fun _ => .inr rfl⟩
    · rintro i (hi | rfl)
      · exact h.F i hi
      · exact hlt
    · intro x X hx
      rw [hset] at hx
      split at hx
      · rename_i e; subst e
        injection hx with hx; subst hx
        refine ⟨h1, h2, h3, h4, h5, fun _ => ⟨⟨fun _ => rfl, fun _ => .inr rfl⟩, hA.len, cs, t, fr, he, hsz, hfr, ho, ?_⟩⟩
        exact SimE.mk fun k e hk => by
          obtain ⟨u, g1, g2⟩ := hE.get k e hk
          exact ⟨u, SimV.mono hle (Kept.refl _ _) _ _ g1, g2⟩
      · rename_i e
        have hbox := h.box x X hx
        by_cases hX : hasBlk c x X
        · by_cases hρ : c.ρ x = c.ρ b
          · -- the same block: then it was frozen
            have hf := h.apart x b X _ hx hb e hX hnb hρ
            exact hbox.mono hle (Kept.refl _ _) ⟨rfl, rfl, rfl, rfl, rfl⟩ (fun _ => ⟨fun _ => hf, fun h => .inl h⟩) (fun _ => rfl)
          · exact hbox.mono hle (Kept.refl _ _) ⟨rfl, rfl, rfl, rfl, rfl⟩ (fun _ => ⟨fun h => h.resolve_right hρ, fun h => .inl h⟩) (fun _ => rfl)
        · exact hbox.mono hle (Kept.refl _ _) ⟨rfl, rfl, rfl, rfl, rfl⟩ (fun h => absurd h hX) (fun _ => rfl)
    · intro x y X Y hx hy hne hX hY e
      rw [hset] at hx hy
      split at hx
      · rename_i e'; subst e'
        exact .inr rfl
      · split at hy
        · rename_i e'; subst e'
          exact .inr e
        · exact .inl (h.apart x y X Y hx hy hne hX hY e)
    · intro x X hx hX
      rw [hset] at hx
      split at hx
      · rename_i e'; subst e'
        exact h.dis x _ hb hnb
      · exact h.dis x X hx hX

/-- The same world but for a draw. -/
theorem SimBox.drew {c : Ctx} {w : World} {b : Nat} {B : Box} (h : SimBox P wr c w b B) : SimBox P wr c { w with drawn := w.drawn + 1 } b B :=
  h.mono (CtxLe.refl c) (Kept.refl _ w).drew ⟨rfl, rfl, rfl, rfl, rfl⟩ (fun _ => Iff.rfl) (fun _ => rfl)
theorem SimS.drew {c : Ctx} {w : World} {σ : Store} (h : SimS P wr c w σ) : SimS P wr c { w with drawn := w.drawn + 1 } σ :=
  ⟨h.n, h.F, h.D, fun b B hb => (h.box b B hb).drew, h.apart, h.dis, h.DF⟩
end Go.Abs

