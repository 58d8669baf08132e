/- A variable is written; what a call hands back. -/
import Derived.Test.YtcfbnhdcpmnpaaaFwX
set_option linter.unusedSimpArgs false
set_option linter.unusedVariables false
namespace Go.Abs
open Go.RowKit
variable {P : Program} {wr : FuncId → Bool} {c : Ctx} {w : World} {G : Nat → Option (List AVal)} {s : AState} {a : Act}

theorem st_ok (h : Fr P wr G c w s a) {t : TypeId} {n : Nat} {x y : Operand} {x' y' : AOpd} {r : AVal × Store} {call : AVal → List AVal → Store → Option (AVal × Store)} {raw : FuncId → Bool} (hn : tsize P t = some n) (hx : compOpd x = some x') (hy : compOpd y = some y')
    (he : cop G call raw s (.st n x' y') = some r) : YldC P wr c w (do Instr.storeAt t (a.eval x) (a.eval y); pure .skip) r := by
  simp only [cop] at he
  rw [chk_some] at he
  obtain ⟨⟨hsz, hone⟩, he⟩ := he
  obtain ⟨hL, ho⟩ := (h.ev hy).cells hone
  split at he
  · rename_i b ver off hb
    split at he
    · rename_i v cs hbox
      rw [chk_some] at he
      obtain ⟨⟨rfl, hle⟩, he⟩ := he
      injection he with he; subst he
      have hp := h.evs hx hb
      simp only [SimV] at hp
      obtain ⟨hlt, hv, ad, e, had⟩ := hp
      obtain ⟨h1, h2, us, t', hheap, hL', ho'⟩ := h.σ.box b _ hbox
      obtain rfl := had h1.symm
      have hlen := hL'.length
      have hlen2 := hL.length
      have hsize : (a.eval y).cells.size = n := by simpa [hsz] using hlen2
      have hrun := run_storeRow (P := P) (b := c.ρ b) (o := off) (i := 0) (vs := (a.eval y).cells.toList) hheap (fun o _ => by simp) (by rw [hlen2, hsz]; omega) ho
      have hblt : b < s.σ.length := (List.getElem?_eq_some_iff.1 hbox).1
      have hlt' : c.ρ b < w.heap.size := (Array.getElem?_eq_some_iff.1 hheap).1
      have hrun' : (Instr.storeAt t (a.eval x) (a.eval y)).run P w = .ok () (if (a.eval y).cells.toList = [] then w else layAt w (c.ρ b) (.cells (setU us (off + 0) (a.eval y).cells.toList).toArray t' (0, 0))) := by
        unfold Instr.storeAt
        rw [e]
        simp only [Instr.sureAddr, Sem.run_bind, Sem.run_pure, Result.andThen_ok, storeVar, run_tsize hn]
        rw [if_neg (by simp [hsize])]
        exact hrun
      by_cases hz : (a.eval y).cells.toList = []
      · rw [if_pos hz] at hrun'
        have hz' : (ev G s y').cells = [] := by rw [hz] at hL; cases hc : (ev G s y').cells with
          | nil => rfl
          | cons q qs => rw [hc] at hL; simp [SimL] at hL
        refine ⟨.skip, undef, c, w, by rw [Sem.run_bind, hrun', Result.andThen_ok]; rfl, .inr ⟨rfl, rfl⟩, CtxLe.refl c, rfl, Kept.refl _ _, ?_, by simp only [SimV]; exact ⟨[], rfl, by simp [SimL]⟩⟩
        have : s.σ.set b (.var v (setC cs off (ev G s y').cells)) = s.σ := by
          rw [hz']
          apply List.ext_getElem?
          intro i
          by_cases ei : b = i
          · subst ei; rw [List.getElem?_set_self hblt, hbox]; rfl
          · rw [List.getElem?_set_ne ei]
        show SimS P wr c w (s.σ.set b (.var v (setC cs off (ev G s y').cells)))
        rw [this]; exact h.σ
      · rw [if_neg hz] at hrun'
        have hD := h.σ.dis b _ hbox trivial
        have hk : Kept c.K w (layAt w (c.ρ b) (.cells (setU us (off + 0) (a.eval y).cells.toList).toArray t' (0, 0))) := layAt_kept _ _ _ (fun hK => hK.elim h2 hD) (fun r hr => by rw [hheap] at hr; cases hr)
        refine ⟨.skip, undef, c, _, by rw [Sem.run_bind, hrun', Result.andThen_ok]; rfl, .inr ⟨rfl, rfl⟩, CtxLe.refl c, rfl, hk, ?_, by simp only [SimV]; exact ⟨[], rfl, by simp [SimL]⟩⟩
        refine h.σ.upd hbox (CtxLe.refl c) (fun _ => Iff.rfl) rfl rfl (fun _ _ => ⟨rfl, rfl, rfl, rfl, rfl⟩) hk.F (fun i hi hne => ?_) (fun _ => ⟨.inr (.inl ⟨rfl, trivial⟩), h2⟩) (fun hno => absurd trivial hno) ?_
        · rw [layAt_get, if_neg (fun hh => hne hh.1)]
        · refine ⟨h1, h2, _, t', by rw [layAt_get, if_pos ⟨rfl, hlt'⟩], ?_, setU_one ho' ho⟩
          rw [Nat.add_zero]
          exact setC_sim (SimL.mono (CtxLe.refl c) hk.F _ _ hL') (SimL.mono (CtxLe.refl c) hk.F _ _ hL)
    · cases he
  · cases he

/-- What a call leaves: (n: how many boxes there were) -/
structure Left (P : Program) (wr : FuncId → Bool) (c : Ctx) (w : World) (r : AVal) (σ' : Store) (c' : Ctx) (w' : World) (u : Value) : Prop where
  le : CtxLe c c'
  D : c'.D = c.D
  kept : Kept c.K w w'
  σ : SimS P wr c' w' σ'
  v : SimV c' w' r u
  cut : ∀ ver sz off len, r = .own c.n ver sz off len → SimS P wr (c'.cut c.n) w' (σ'.take c.n)

theorem recv_ok (hn : c.n = s.σ.length) {site : Nat} {r : AVal} {σ' : Store} {x : AVal × Store} {c' : Ctx} {w' : World} {u : Value} (h : Left P wr c w r σ' c' w' u) (he : cop.recv s site (r, σ') = some x) :
    ∃ c'', CtxLe c c'' ∧ c''.D = c.D ∧ Kept c.K w w' ∧ SimS P wr c'' w' x.2 ∧ SimV c'' w' x.1 u := by
  unfold cop.recv at he
  split at he
  · rename_i b ver sz off len σ1 e
    injection e with e1 e2; subst e1; subst e2
    split at he
    · rename_i hb
      split at he
      · rename_i v k es B hbox hB
        rw [chk_some] at he
        obtain ⟨⟨rfl, rfl, hlen, hsite⟩, he⟩ := he
        injection he with he; subst he
        rw [← hn] at hb
        subst hb
        have hcut := h.cut _ _ _ _ rfl
        have hp : s.base + site < σ'.length := (List.getElem?_eq_some_iff.1 hB).1
        have hpn : s.base + site < c.n := by omega
        rw [← hn]
        have hB' : (σ'.take c.n)[s.base + site]? = some B := by rw [List.getElem?_take, if_pos hpn]; exact hB
        obtain ⟨q1, q2, q3, q4, q5, q6⟩ := h.σ.box _ _ hbox
        have hvB := (h.σ.box _ _ hB).vr
        let c1 := c'.cut c.n
        let c'' := c1.at_ (s.base + site) (B.ver + 1) (c'.ρ c.n) k (c'.cp c.n) (c'.nb c.n)
        have hle1 : CtxLe c1 c'' := Ctx.at_le (by show c'.vr _ < _; omega)
        have hle0 : CtxLe c c1 := ⟨h.le.F, Nat.le_refl _, h.le.vr, h.le.same⟩
        refine ⟨c'', hle0.trans hle1, h.D, h.kept, ?_, ?_⟩
        · refine hcut.upd hB' hle1 (fun _ => Iff.rfl) rfl rfl Ctx.at_other (Kept.refl _ _) (fun _ _ _ => rfl) (fun hblk => ?_) (fun _ _ _ => .inl rfl) ?_
          · have hnb : c'.nb c.n = false := by simpa [hasBlk, c'', Ctx.at_] using hblk
            have hA := q6 hnb
            have hρ : c''.ρ (s.base + site) = c'.ρ c.n := by simp [c'', Ctx.at_]
            have hF : ¬ c'.F (c'.ρ c.n) := fun hf => by have := hA.frz.1 hf; cases this
            refine ⟨.inr (.inr ⟨fun y Y hy hne hY hy2 => ?_, ?_⟩), by rw [hρ]; exact hF⟩
            · rw [hρ] at hy2
              have hy' : σ'[y]? = some Y := by
                rw [List.getElem?_take] at hy
                split at hy
                · exact hy
                · cases hy
              have hyn : y < c.n := by
                rw [List.getElem?_take] at hy
                split at hy
                · assumption
                · cases hy
              have := h.σ.apart y c.n Y _ hy' hbox (by omega) hY hnb hy2
              exact hF (hy2 ▸ this)
            · rw [hρ]; exact h.σ.dis _ _ hbox hnb
          · refine ⟨by simp [c'', Ctx.at_], by simp [c'', Ctx.at_], q3, q4, fun hnb => q5 (by simpa [c'', Ctx.at_] using hnb), fun hnb => ?_⟩
            have hnb' : c'.nb c.n = false := by simpa [c'', Ctx.at_] using hnb
            have hA := q6 hnb'
            obtain ⟨cs, t, fr, hheap, hsz, hfr, ho, hE⟩ := hA.row
            refine ⟨by simpa [c'', c1, Ctx.cut, Ctx.at_] using hA.frz, by simpa [c'', Ctx.at_] using hA.len, cs, t, fr, by simpa [c'', Ctx.at_] using hheap, by simpa [c'', Ctx.at_] using hsz, hfr, ho, ?_⟩
            refine SimE.mk fun i e hi => ?_
            obtain ⟨u', g1, g2⟩ := hE.get i e hi
            refine ⟨u', SimV.pure (c := c') (c' := c'') (fun _ hf => hf) (Kept.refl _ _) _ _ (pureL_get q4 i e hi) g1, by simpa [c'', Ctx.at_] using g2⟩
        · have hv := h.v
          simp only [SimV] at hv ⊢
          obtain ⟨p1, p2, ad, cap, rfl, p4, p5, p6⟩ := hv
          obtain ⟨p7, p8, p9⟩ := p6 q1.symm
          exact ⟨hpn, by simp [c'', Ctx.at_], ad, cap, rfl, p4, p5, fun _ => ⟨by simp [c'', Ctx.at_], by simpa [c'', Ctx.at_] using p8, by simpa [c'', Ctx.at_] using p9⟩⟩
      · cases he
    · injection he with he; subst he
      exact ⟨c', h.le, h.D, h.kept, h.σ, h.v⟩
  · injection he with he; subst he
    exact ⟨c', h.le, h.D, h.kept, h.σ, h.v⟩
end Go.Abs
