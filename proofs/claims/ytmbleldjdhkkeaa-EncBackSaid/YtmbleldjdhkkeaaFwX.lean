/- What is written no more. -/
import Derived.Test.YtmbleldjdhkkeaaFwW
set_option linter.unusedSimpArgs false
set_option linter.unusedVariables false
namespace Go.Abs
open Go.RowKit
variable {P : Program} {wr : FuncId → Bool} {c : Ctx} {w : World} {G : Nat → Option (List AVal)} {s : AState} {a : Act}

theorem markV_get (σ : Store) (x : AVal) (i : Nat) : (markV σ x)[i]? = σ[i]? ∨ ∃ v fz sz es, σ[i]? = some (.arr v fz sz es) ∧ (markV σ x)[i]? = some (.arr v true sz es) := by
  unfold markV
  split
  · rename_i b _ _ _ _
    split
    · rename_i v fz sz es hb
      by_cases e : b = i
      · subst e
        have hlt := (List.getElem?_eq_some_iff.1 hb).1
        exact .inr ⟨v, fz, sz, es, hb, by rw [List.getElem?_set_self hlt]⟩
      · exact .inl (by rw [List.getElem?_set_ne e])
    · exact .inl rfl
  · exact .inl rfl

theorem cont_mark (σ : Store) (x v : AVal) : cont (markV σ x) v = cont σ v := by
  unfold cont
  split
  · rfl
  · rfl
  · rename_i b ver sz off len
    rcases markV_get σ x b with h | ⟨v, fz, sz, es, h1, h2⟩
    · rw [h]
    · rw [h1, h2]
  · rfl
theorem frzV_mark (σ : Store) (x v : AVal) : frzV (markV σ x) v = frzV σ v := by
  unfold frzV
  split
  · rw [cont_mark]
  · rfl
  · rfl
theorem frzL_mark (σ : Store) (x : AVal) : ∀ vs, frzL (markV σ x) vs = frzL σ vs
  | [] => rfl
  | v :: vs => by simp only [frzL, frzV_mark, frzL_mark σ x vs]

theorem markV_ok {σ : Store} {v v' : AVal} {u : Value} (h : SimS P wr c w σ) (hv : SimV c w v u) (hf : frzV σ v = some v') :
    ∃ c', CtxLe c c' ∧ c'.n = c.n ∧ c'.D = c.D ∧ SimS P wr c' w (markV σ v) ∧ SimV c' w v' u := by
  unfold frzV at hf
  split at hf
  · rename_i b ver sz off len
    rw [Option.map_eq_some_iff] at hf
    obtain ⟨es', hc, rfl⟩ := hf
    have hc' := hc
    unfold cont at hc
    dsimp only at hc
    split at hc
    · rename_i v0 fz k es hbox
      rw [chk_some] at hc
      obtain ⟨⟨rfl, hle⟩, hc⟩ := hc
      injection hc with hc; subst hc
      obtain ⟨c', g1, g2, gd, g3, g4⟩ := h.freeze hbox
      have hm : markV σ (.own b v0 sz off len) = σ.set b (.arr v0 true k es) := by simp only [markV, hbox]
      refine ⟨c', g1, g2, gd, hm ▸ g3, ?_⟩
      have hv' := SimV.mono g1 (Kept.refl _ w) _ _ hv
      have hblt : b < σ.length := (List.getElem?_eq_some_iff.1 hbox).1
      obtain ⟨q1, q2, q3, q4, q5, q6⟩ := g3.box b _ (List.getElem?_set_self hblt)
      simp only [SimV] at hv'
      obtain ⟨p1, p2, ad, cap, rfl, p4, p5, p6⟩ := hv'
      obtain ⟨p7, p8, p9⟩ := p6 q1.symm
      have hl : ((es.drop off).take len).length = len := by simp; omega
      simp only [SimV]
      refine ⟨ad, cap, by rw [hl], by rw [hl]; exact p4, pureL_take (pureL_drop q4 _) _, p5, ?_⟩
      by_cases hz : len = 0
      · exact .inl (by subst hz; simp)
      · by_cases hnb : c'.nb b = true
        · have := (p8 hnb).2.1; exact absurd this hz
        · have hnb : c'.nb b = false := by simpa using hnb
          obtain ⟨r1, ad', rfl, r2⟩ := p9 hnb
          have hA := q6 hnb
          obtain ⟨cs, t, fr, hheap, hsz, hfr, ho, hE⟩ := hA.row
          refine .inr ⟨sz, c'.ρ b, off * sz, by rw [r2 (by omega)], hA.frz.2 rfl, ?_⟩
          have := (hE.drop off (by omega)).take len
          rw [Nat.zero_add] at this
          rw [p7, q2]
          exact this
    · cases hc
  · injection hf with hf; subst hf
    obtain ⟨rfl, _⟩ := sim_atom hv
    refine ⟨c, CtxLe.refl c, rfl, rfl, h, ?_⟩
    simp only [SimV]
    exact ⟨none, 0, rfl, Nat.le_refl _, by simp [pureL], fun _ => rfl, .inl trivial⟩
  · injection hf with hf; subst hf
    refine ⟨c, CtxLe.refl c, rfl, rfl, ?_, hv⟩
    have : markV σ v = σ := by
      unfold markV
      split
      · rename_i hno _; exact (hno _ _ _ _ _ rfl).elim
      · rfl
    rw [this]; exact h

theorem markL_ok : ∀ {vs vs' : List AVal} {us : List Value} {σ : Store} {c : Ctx}, SimS P wr c w σ → SimL c w vs us → frzL σ vs = some vs' →
    ∃ c', CtxLe c c' ∧ c'.n = c.n ∧ c'.D = c.D ∧ SimS P wr c' w (markL σ vs) ∧ SimL c' w vs' us
  | [], vs', us, σ, c, h, hL, hf => by
    simp only [frzL] at hf; injection hf with hf; subst hf
    exact ⟨c, CtxLe.refl c, rfl, rfl, h, hL⟩
  | v :: vs, vs', us, σ, c, h, hL, hf => by
    simp only [frzL] at hf
    split at hf
    · rename_i v1 vs1 hv1 hvs1
      injection hf with hf; subst hf
      simp only [SimL] at hL
      obtain ⟨u, us', rfl, hu, hL'⟩ := hL
      obtain ⟨c1, g1, g2, gd, g3, g4⟩ := markV_ok h hu hv1
      obtain ⟨c2, k1, k2, kd, k3, k4⟩ := markL_ok g3 (SimL.mono g1 (Kept.refl _ w) _ _ hL') (by rw [frzL_mark]; exact hvs1)
      refine ⟨c2, g1.trans k1, k2.trans g2, kd.trans gd, k3, ?_⟩
      simp only [SimL]
      exact ⟨u, us', rfl, SimV.mono k1 (Kept.refl _ w) _ _ g4, k4⟩
    · cases hf

theorem frzL_markL (σ : Store) : ∀ (xs vs : List AVal), frzL (markL σ xs) vs = frzL σ vs
  | [], vs => rfl
  | x :: xs, vs => by simp only [markL]; rw [frzL_markL _ xs vs, frzL_mark]
theorem frzV_markL (σ : Store) (v : AVal) : ∀ (xs : List AVal), frzV (markL σ xs) v = frzV σ v
  | [] => rfl
  | x :: xs => by simp only [markL]; rw [frzV_markL _ v xs, frzV_mark]

theorem frzT_congr {σ σ' : Store} (h1 : ∀ v, frzV σ' v = frzV σ v) (h2 : ∀ vs, frzL σ' vs = frzL σ vs) : ∀ vs, frz.frzT σ' vs = frz.frzT σ vs
  | [] => rfl
  | v :: vs => by
    simp only [frz.frzT]
    rw [frzT_congr h1 h2 vs]
    cases v <;> simp only [h1, h2]
theorem frz_congr {σ σ' : Store} (h1 : ∀ v, frzV σ' v = frzV σ v) (h2 : ∀ vs, frzL σ' vs = frzL σ vs) (v : AVal) : frz σ' v = frz σ v := by
  unfold frz
  split
  · rw [h2]
  · rw [frzT_congr h1 h2]
  · rw [h1]
theorem frz_markT : ∀ (xs : List AVal) (σ : Store), (∀ v, frzV (mark.markT σ xs) v = frzV σ v) ∧ (∀ vs, frzL (mark.markT σ xs) vs = frzL σ vs)
  | [], σ => ⟨fun _ => rfl, fun _ => rfl⟩
  | x :: xs, σ => by
    unfold mark.markT
    split
    · rename_i h; cases h
    · rename_i cs vs e
      injection e with e1 e2; subst e1; subst e2
      obtain ⟨h1, h2⟩ := frz_markT xs (markL σ cs)
      exact ⟨fun v => (h1 v).trans (frzV_markL σ v cs), fun vs => (h2 vs).trans (frzL_markL σ cs vs)⟩
    · rename_i v vs hno e
      injection e with e1 e2; subst e1; subst e2
      obtain ⟨h1, h2⟩ := frz_markT xs (markV σ x)
      exact ⟨fun v => (h1 v).trans (frzV_mark σ x v), fun vs => (h2 vs).trans (frzL_mark σ x vs)⟩
theorem frz_mark (σ : Store) (x v : AVal) : frz (mark σ x) v = frz σ v := by
  unfold mark
  split
  · exact frz_congr (fun v => frzV_markL σ v _) (fun vs => frzL_markL σ _ vs) v
  · exact frz_congr (frz_markT _ σ).1 (frz_markT _ σ).2 v
  · exact frz_congr (frzV_mark σ _) (frzL_mark σ _) v

theorem markT_ok : ∀ {vs vs' : List AVal} {us : List Value} {σ : Store} {c : Ctx}, SimS P wr c w σ → SimL c w vs us → frz.frzT σ vs = some vs' →
    ∃ c', CtxLe c c' ∧ c'.n = c.n ∧ c'.D = c.D ∧ SimS P wr c' w (mark.markT σ vs) ∧ SimL c' w vs' us
  | [], vs', us, σ, c, h, hL, hf => by
    simp only [frz.frzT] at hf; injection hf with hf; subst hf
    exact ⟨c, CtxLe.refl c, rfl, rfl, h, hL⟩
  | v :: vs, vs', us, σ, c, h, hL, hf => by
    simp only [frz.frzT] at hf
    simp only [SimL] at hL
    obtain ⟨u, us', rfl, hu, hL'⟩ := hL
    have fin : ∀ {c1 : Ctx} {σ1 : Store} {v1 : AVal} {vs1 : List AVal}, CtxLe c c1 → c1.n = c.n → c1.D = c.D → SimS P wr c1 w σ1 → SimV c1 w v1 u → frz.frzT σ1 vs = some vs1 →
        ∃ c', CtxLe c c' ∧ c'.n = c.n ∧ c'.D = c.D ∧ SimS P wr c' w (mark.markT σ1 vs) ∧ SimL c' w (v1 :: vs1) (u :: us') := by
      intro c1 σ1 v1 vs1 g1 g2 gd g3 g4 hf
      obtain ⟨c2, k1, k2, kd, k3, k4⟩ := markT_ok g3 (SimL.mono g1 (Kept.refl _ w) _ _ hL') hf
      refine ⟨c2, g1.trans k1, k2.trans g2, kd.trans gd, k3, ?_⟩
      simp only [SimL]
      exact ⟨u, us', rfl, SimV.mono k1 (Kept.refl _ w) _ _ g4, k4⟩
    split at hf
    · rename_i v1 vs1 hv1 hvs1
      injection hf with hf; subst hf
      split at hv1
      · rename_i cs
        rw [Option.map_eq_some_iff] at hv1
        obtain ⟨cs', hcs, rfl⟩ := hv1
        simp only [SimV] at hu
        obtain ⟨xs, rfl, hx, ho⟩ := hu
        obtain ⟨c1, g1, g2, gd, g3, g4⟩ := markL_ok h hx hcs
        simp only [mark.markT]
        refine fin g1 g2 gd g3 ?_ ((frzT_congr (fun v => frzV_markL σ v cs) (fun vs => frzL_markL σ cs vs) vs).trans hvs1)
        simp only [SimV]
        exact ⟨xs, rfl, g4, ho⟩
      · rename_i hno
        obtain ⟨c1, g1, g2, gd, g3, g4⟩ := markV_ok h hu hv1
        have hm : mark.markT σ (v :: vs) = mark.markT (markV σ v) vs := by
          cases v <;> first | rfl | exact absurd rfl (hno _)
        rw [hm]
        exact fin g1 g2 gd g3 g4 ((frzT_congr (frzV_mark σ v) (frzL_mark σ v) vs).trans hvs1)
    · cases hf

theorem mark_ok {v v' : AVal} {u : Value} {σ : Store} (h : SimS P wr c w σ) (hv : SimV c w v u) (hf : frz σ v = some v') :
    ∃ c', CtxLe c c' ∧ c'.n = c.n ∧ c'.D = c.D ∧ SimS P wr c' w (mark σ v) ∧ SimV c' w v' u := by
  unfold frz at hf
  split at hf
  · rw [Option.map_eq_some_iff] at hf
    obtain ⟨cs', hcs, rfl⟩ := hf
    simp only [SimV] at hv
    obtain ⟨xs, rfl, hx, ho⟩ := hv
    obtain ⟨c1, g1, g2, gd, g3, g4⟩ := markL_ok h hx hcs
    refine ⟨c1, g1, g2, gd, g3, ?_⟩
    simp only [SimV]
    exact ⟨xs, rfl, g4, ho⟩
  · rw [Option.map_eq_some_iff] at hf
    obtain ⟨cs', hcs, rfl⟩ := hf
    simp only [SimV] at hv
    obtain ⟨xs, rfl, hx⟩ := hv
    obtain ⟨c1, g1, g2, gd, g3, g4⟩ := markT_ok h hx hcs
    refine ⟨c1, g1, g2, gd, g3, ?_⟩
    simp only [SimV]
    exact ⟨xs, rfl, g4⟩
  · rename_i h1 h2
    have hm : mark σ v = markV σ v := by
      unfold mark
      split
      · exact absurd rfl (h1 _)
      · exact absurd rfl (h2 _)
      · rfl
    rw [hm]
    exact markV_ok h hv hf

theorem markArgs_ok : ∀ {vs vs' : List AVal} {us : List Value} {σ : Store} {c : Ctx}, SimS P wr c w σ → SimL c w vs us → frzArgs σ vs = some vs' →
    ∃ c', CtxLe c c' ∧ c'.n = c.n ∧ c'.D = c.D ∧ SimS P wr c' w (markArgs σ vs) ∧ SimL c' w vs' us
  | [], vs', us, σ, c, h, hL, hf => by
    simp only [frzArgs] at hf; injection hf with hf; subst hf
    exact ⟨c, CtxLe.refl c, rfl, rfl, h, hL⟩
  | v :: vs, vs', us, σ, c, h, hL, hf => by
    simp only [frzArgs] at hf
    split at hf
    · rename_i v1 vs1 hv1 hvs1
      injection hf with hf; subst hf
      simp only [SimL] at hL
      obtain ⟨u, us', rfl, hu, hL'⟩ := hL
      obtain ⟨c1, g1, g2, gd, g3, g4⟩ := mark_ok h hu hv1
      have hcong : ∀ ws, frzArgs (mark σ v) ws = frzArgs σ ws := by
        intro ws
        induction ws with
        | nil => rfl
        | cons x xs ih => simp only [frzArgs, frz_mark, ih]
      obtain ⟨c2, k1, k2, kd, k3, k4⟩ := markArgs_ok g3 (SimL.mono g1 (Kept.refl _ w) _ _ hL') (by rw [hcong]; exact hvs1)
      refine ⟨c2, g1.trans k1, k2.trans g2, kd.trans gd, k3, ?_⟩
      simp only [SimL]
      exact ⟨u, us', rfl, SimV.mono k1 (Kept.refl _ w) _ _ g4, k4⟩
    · cases hf
end Go.Abs
