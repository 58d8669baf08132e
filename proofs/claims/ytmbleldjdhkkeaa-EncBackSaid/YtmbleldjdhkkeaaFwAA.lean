/- What the abstract machine says is what the model's code does: calls; all together. -/
import Derived.Test.YtmbleldjdhkkeaaFwN
set_option linter.unusedSimpArgs false
set_option linter.unusedVariables false
namespace Go.Abs
open Go.RowKit
variable {P : Program} {wr : FuncId → Bool}
variable {E : Env}

theorem SimS.congr {c c' : Ctx} {w : World} {σ : Store} (h : SimS P wr c w σ) (hF : c'.F = c.F) (hD : c'.D = c.D) (hn : c'.n = c.n) (hag : ∀ b, b < c.n → c'.vr b = c.vr b ∧ c'.ρ b = c.ρ b ∧ c'.sz b = c.sz b ∧ c'.cp b = c.cp b ∧ c'.nb b = c.nb b) : SimS P wr c' w σ := by
  have hle : CtxLe c c' := ⟨fun i hi => hF ▸ hi, Nat.le_of_eq hn.symm, fun b hb => Nat.le_of_eq (hag b hb).1.symm, fun b hb _ => (hag b hb).2⟩
  have hlt : ∀ {b B}, σ[b]? = some B → b < c.n := fun hb => by rw [h.n]; exact (List.getElem?_eq_some_iff.1 hb).1
  have hblk : ∀ {b B}, σ[b]? = some B → (hasBlk c' b B ↔ hasBlk c b B) := by
    intro b B hb
    cases B <;> simp [hasBlk]
    rw [(hag b (hlt hb)).2.2.2.2]
  refine ⟨hn.trans h.n, fun i hi => h.F i (hF ▸ hi), fun i hi => h.D i (hD ▸ hi), fun b B hb => (h.box b B hb).mono hle (Kept.refl _ _) (hag b (hlt hb)) (fun _ => by rw [hF]) (fun _ => rfl), fun b b' B B' hb hb' hne hB hB' e => ?_, fun b B hb hB hd => ?_, fun i hi hf => h.DF i (hD ▸ hi) (hF ▸ hf)⟩
  · rw [(hag b (hlt hb)).2.1] at e ⊢
    rw [(hag b' (hlt hb')).2.1] at e
    rw [hF]
    exact h.apart b b' B B' hb hb' hne ((hblk hb).1 hB) ((hblk hb').1 hB') e
  · rw [(hag b (hlt hb)).2.1, hD] at hd
    exact h.dis b B hb ((hblk hb).1 hB) hd

theorem SimS.snoc {c c' : Ctx} {w : World} {σ : Store} {B : Box} (h : SimS P wr c w σ) (hF : c'.F = c.F) (hD : c'.D = c.D) (hn : c'.n = c.n + 1) (hag : ∀ b, b < c.n → c'.vr b = c.vr b ∧ c'.ρ b = c.ρ b ∧ c'.sz b = c.sz b ∧ c'.cp b = c.cp b ∧ c'.nb b = c.nb b)
    (hB : SimBox P wr c' w c.n B) (hun : hasBlk c' c.n B → c'.ρ c.n < w.heap.size ∧ (∀ x X, σ[x]? = some X → hasBlk c x X → c.ρ x ≠ c'.ρ c.n) ∧ ¬ c.D (c'.ρ c.n)) : SimS P wr c' w (σ ++ [B]) := by
  have hle : CtxLe c c' := ⟨fun i hi => hF ▸ hi, by omega, fun b hb => Nat.le_of_eq (hag b hb).1.symm, fun b hb _ => (hag b hb).2⟩
  have key : ∀ {b X}, (σ ++ [B])[b]? = some X → (σ[b]? = some X ∧ b < c.n) ∨ (b = c.n ∧ X = B) := by
    intro b X hb
    by_cases hlt : b < σ.length
    · rw [List.getElem?_append_left hlt] at hb
      exact .inl ⟨hb, by rw [h.n]; exact hlt⟩
    · rw [List.getElem?_append_right (by omega)] at hb
      have hl := (List.getElem?_eq_some_iff.1 hb).1
      simp at hl
      have e : b = σ.length := by omega
      subst e
      simp at hb
      exact .inr ⟨h.n.symm, hb.symm⟩
  have hblk : ∀ {b X}, b < c.n → (hasBlk c' b X ↔ hasBlk c b X) := by
    intro b X hb
    cases X <;> simp [hasBlk]
    rw [(hag b hb).2.2.2.2]
  refine ⟨by rw [hn, h.n]; simp, fun i hi => h.F i (hF ▸ hi), fun i hi => h.D i (hD ▸ hi), fun b X hb => ?_, fun b b' X X' hb hb' hne hX hX' e => ?_, fun b X hb hX hd => ?_, fun i hi hf => h.DF i (hD ▸ hi) (hF ▸ hf)⟩
  · rcases key hb with ⟨h1, h2⟩ | ⟨rfl, rfl⟩
    · exact (h.box b X h1).mono hle (Kept.refl _ _) (hag b h2) (fun _ => by rw [hF]) (fun _ => rfl)
    · exact hB
  · rcases key hb with ⟨h1, h2⟩ | ⟨rfl, rfl⟩
    · rcases key hb' with ⟨h1', h2'⟩ | ⟨rfl, rfl⟩
      · rw [(hag b h2).2.1] at e ⊢
        rw [(hag b' h2').2.1] at e
        rw [hF]
        exact h.apart b b' X X' h1 h1' hne ((hblk h2).1 hX) ((hblk h2').1 hX') e
      · rw [(hag b h2).2.1] at e
        exact absurd e ((hun hX').2.1 b X h1 ((hblk h2).1 hX))
    · rcases key hb' with ⟨h1', h2'⟩ | ⟨rfl, rfl⟩
      · rw [(hag b' h2').2.1] at e
        exact absurd e.symm ((hun hX).2.1 b' X' h1' ((hblk h2').1 hX'))
      · exact absurd rfl hne
  · rcases key hb with ⟨h1, h2⟩ | ⟨rfl, rfl⟩
    · rw [(hag b h2).2.1, hD] at hd
      exact h.dis b X h1 ((hblk h2).1 hX) hd
    · exact (hun hX).2.2 (hD ▸ hd)

theorem okTake_wf {c c4 : Ctx} {w w4 : World} {σ σ4 : Store} (h : SimS P wr c w σ) (hok : okTake σ4 σ) : ∀ b B, σ4[b]? = some B → b < σ.length → wfBox σ.length B := by
  intro b B hb hlt
  rcases hok b B hb hlt with h1 | h1
  · have := (h.box b B h1).wfB
    rwa [h.n] at this
  · cases B with
    | var _ cs => exact h1
    | loop _ _ _ tm _ _ _ _ =>
      obtain ⟨v, st, pend, base, ps, assign, body, h1⟩ := h1
      have := (h.box b _ h1).wfB
      rw [h.n] at this
      exact this
    | _ => trivial

open Classical in
theorem finish_ok {c c4 : Ctx} {w w4 : World} {σ σ4 : Store} {r : AVal} {u : Value} {mode : AMode} {x : AVal × Store} (hσ : SimS P wr c w σ) (h4 : SimS P wr c4 w4 σ4) (hle : CtxLe c c4) (hD : c4.D = c.D) (hk : Kept c.K w w4) (hv : SimV c4 w4 r u)
    (he : finish mode σ r σ4 = some x) : ∃ c5, Left P wr c w x.1 x.2 c5 w4 u := by
  have hn : σ.length ≤ σ4.length := by have := hle.n; rw [hσ.n, h4.n] at this; exact this
  have cutle : ∀ {c5 : Ctx}, CtxLe c c5 → CtxLe c (c5.cut σ.length) := fun hh => ⟨hh.F, by rw [hσ.n]; exact Nat.le_refl _, hh.vr, hh.same⟩
  unfold finish at he
  split at he
  · -- escape
    split at he
    · split at he
      · rename_i hlt
        injection he with he; subst he
        exact ⟨c4, hle, hD, hk, h4, hv, fun _ _ _ _ e => by injection e with e; rw [hσ.n] at e; omega⟩
      · cases he
    · rename_i hno
      injection he with he; subst he
      exact ⟨c4, hle, hD, hk, h4, hv, fun _ _ _ _ e => absurd e (hno _ _ _ _ _)⟩
  · -- frozen
    split at he
    · rename_i r' hr'
      rw [chk_some] at he
      obtain ⟨⟨hwf, hok⟩, he⟩ := he
      injection he with he; subst he
      obtain ⟨c5, g1, g2, g3, g4, g5⟩ := mark_ok h4 hv hr'
      refine ⟨c5.cut σ.length, cutle (hle.trans g1), g3.trans hD, hk, g4.cutS (by rw [mark_length]; exact hn) (okTake_wf (c4 := c4) (w4 := w4) hσ hok), SimV.cut _ _ hwf g5, fun ver sz off len e => ?_⟩
      have e' : r' = .own c.n ver sz off len := e
      rw [e'] at hwf
      simp [wfV, hσ.n] at hwf
    · cases he
  · -- own
    split at he
    · rename_i b ver sz off len
      split at he
      · rename_i hlt
        rw [chk_some] at he
        obtain ⟨hok, he⟩ := he
        injection he with he; subst he
        refine ⟨c4.cut σ.length, cutle hle, hD, hk, h4.cutS hn (okTake_wf (c4 := c4) (w4 := w4) hσ hok), SimV.cut _ _ (by simp [wfV, hlt]) hv, fun _ _ _ _ e => by injection e with e; rw [hσ.n] at e; omega⟩
      · rename_i hge
        split at he
        · rename_i v k es hb
          rw [chk_some] at he
          obtain ⟨⟨rfl, rfl, rfl, rfl, hok⟩, he⟩ := he
          injection he with he; subst he
          have hcut := h4.cutS hn (okTake_wf (c4 := c4) (w4 := w4) hσ hok)
          let c5 : Ctx := ({ c4 with n := σ.length + 1 } : Ctx).at_ σ.length 0 (c4.ρ b) k (c4.cp b) (c4.nb b)
          have hag : ∀ i, i < σ.length → c5.vr i = c4.vr i ∧ c5.ρ i = c4.ρ i ∧ c5.sz i = c4.sz i ∧ c5.cp i = c4.cp i ∧ c5.nb i = c4.nb i := fun i hi => Ctx.at_other (c := ({ c4 with n := σ.length + 1 } : Ctx)) i (by omega)
          obtain ⟨q1, q2, q3, q4, q5, q6⟩ := h4.box b _ hb
          have hbox : SimBox P wr c5 w4 σ.length (.arr 0 false k es) := by
            refine ⟨by simp [c5, Ctx.at_], by simp [c5, Ctx.at_], q3, q4, fun hnb => q5 (by simpa [c5, Ctx.at_] using hnb), fun hnb => ?_⟩
            have hA := q6 (by simpa [c5, Ctx.at_] using hnb)
            obtain ⟨cs, t, fr, hheap, hsz, hfr, ho, hE⟩ := hA.row
            refine ⟨by simpa [c5, Ctx.at_] using hA.frz, by simpa [c5, Ctx.at_] using hA.len, cs, t, fr, by simpa [c5, Ctx.at_] using hheap, by simpa [c5, Ctx.at_] using hsz, hfr, ho, ?_⟩
            refine SimE.mk fun i e hi => ?_
            obtain ⟨u', g1, g2⟩ := hE.get i e hi
            exact ⟨u', SimV.pure (c := c4) (c' := c5) (fun _ hf => hf) (Kept.refl _ _) _ _ (pureL_get q4 i e hi) g1, by simpa [c5, Ctx.at_] using g2⟩
          have hle5 : CtxLe c c5 := by
            refine ⟨hle.F, by show c.n ≤ σ.length + 1; rw [hσ.n]; omega, fun i hi => ?_, fun i hi e => ?_⟩
            · rw [hσ.n] at hi
              rw [(hag i hi).1]; exact hle.vr i (by rw [hσ.n]; exact hi)
            · rw [hσ.n] at hi
              rw [(hag i hi).1] at e
              obtain ⟨p1, p2, p3, p4⟩ := hle.same i (by rw [hσ.n]; exact hi) e
              obtain ⟨_, r1, r2, r3, r4⟩ := hag i hi
              exact ⟨r1.trans p1, r2.trans p2, r3.trans p3, r4.trans p4⟩
          have hsnoc : SimS P wr c5 w4 (σ4.take σ.length ++ [.arr 0 false k es]) := by
            refine hcut.snoc rfl rfl rfl hag hbox fun hblk => ?_
            have hnb : c4.nb b = false := by simpa [hasBlk, c5, Ctx.at_, Ctx.cut] using hblk
            have hA := q6 hnb
            have hρ : c5.ρ σ.length = c4.ρ b := by simp [c5, Ctx.at_]
            have hρ' : c5.ρ (c4.cut σ.length).n = c4.ρ b := hρ
            rw [hρ']
            refine ⟨h4.lt hb hnb, fun y Y hy hY e => ?_, h4.dis b _ hb hnb⟩
            rw [List.getElem?_take] at hy
            split at hy
            · rename_i hlt
              have := h4.apart y b Y _ hy hb (by omega) hY hnb e
              have e' : c4.ρ y = c4.ρ b := e
              rw [e'] at this
              have := hA.frz.1 this
              cases this
            · cases hy
          refine ⟨c5, hle5, hD, hk, hsnoc, ?_, fun _ _ _ _ _ => ?_⟩
          · show SimV c5 w4 (.own σ.length 0 k 0 es.length) u
            simp only [SimV] at hv ⊢
            obtain ⟨p1, p2, ad, cap, rfl, p4, p5, p6⟩ := hv
            obtain ⟨p7, p8, p9⟩ := p6 q1.symm
            exact ⟨Nat.lt_succ_self _, Nat.zero_le _, ad, cap, rfl, p4, p5, fun _ => ⟨by simp [c5, Ctx.at_], by simpa [c5, Ctx.at_] using p8, by simpa [c5, Ctx.at_] using p9⟩⟩
          · have htake : (σ4.take σ.length ++ [Box.arr 0 false k es]).take c.n = σ4.take σ.length := by
              rw [hσ.n, List.take_append_of_le_length (by simp; omega), List.take_take, Nat.min_self]
            show SimS P wr (c5.cut c.n) w4 ((σ4.take σ.length ++ [Box.arr 0 false k es]).take c.n)
            rw [htake]
            exact hcut.congr rfl rfl hσ.n hag
        · cases he
    · split at he
      · rename_i r' hr'
        rw [chk_some] at he
        obtain ⟨⟨hwf, hok⟩, he⟩ := he
        injection he with he; subst he
        obtain ⟨c5, g1, g2, g3, g4, g5⟩ := mark_ok h4 hv hr'
        refine ⟨c5.cut σ.length, cutle (hle.trans g1), g3.trans hD, hk, g4.cutS (by rw [mark_length]; exact hn) (okTake_wf (c4 := c4) (w4 := w4) hσ hok), SimV.cut _ _ hwf g5, fun ver sz off len e => ?_⟩
        have e' : r' = .own c.n ver sz off len := e
        rw [e'] at hwf
        simp [wfV, hσ.n] at hwf
      · cases he

/-- What is told of a function by another text. -/
def OracleOk (P : Program) (wr : FuncId → Bool) (G : Nat → Option (List AVal)) (f : FuncId) (g : List AVal → Store → Option (AVal × Store)) : Prop :=
  ∀ (args : List AVal) (σ : Store) (r : AVal × Store) (c : Ctx) (w : World) (us : List Value), g args σ = some r → GOk G c w → SimS P wr c w σ → SimL c w args us →
    (∃ fn, P.funcs[f]? = some fn ∧ fn.body.isSome = true ∧ fn.name ≠ "runtime.NumGoroutine") ∧ ∀ m, CallsIn (WF none) m P f us.toArray w (fun e w' => ∃ u c', e = .returned u ∧ Left P wr c w r.1 r.2 c' w' u)

theorem run_callFunc {f : FuncId} {fn : Func} {args : Array Value} {w : World} (hf : P.funcs[f]? = some fn) (hb : fn.body.isSome = true) (hn : fn.name ≠ "runtime.NumGoroutine") : (callFunc f args).run P w = .ok (.enter f args) w := by
  unfold callFunc
  rw [Sem.run_bind, run_program, Result.andThen_ok, hf]
  dsimp only
  rw [if_neg (by simpa using hn), if_neg (by cases h : fn.body <;> simp_all)]
  rfl

theorem call_step {n : Nat} {modes : FuncId → AMode} (hE : ∀ f A, E.fns f = some A → compFn P wr modes f = some A) (hX : ∀ f g, E.X f = some g → OracleOk P wr E.G f g) (ih : ExecOk P wr E.G (execN E n)) : FnOk P wr E.G (callN E (n + 1)) := by
  intro f first cap args σ r c w fu us he hG hσ hfv hL
  simp only [SimV] at hfv
  obtain ⟨us0, vs0, rfl, hL0, hLc⟩ := hfv
  have hLall : SimL c w (first ++ args ++ cap) (us0 ++ us ++ vs0) := (hL0.append hL).append hLc
  simp only [callN, callF] at he
  have enter : ∀ {fn : Func}, P.funcs[f]? = some fn → fn.body.isSome = true → fn.name ≠ "runtime.NumGoroutine" →
      (do let d ← Deferred.ofValue (.func (.func f) us0.toArray vs0.toArray) us.toArray; invoke d.target d.args).run P w = .ok (.enter f (us0 ++ us ++ vs0).toArray) w := by
    intro fn h1 h2 h3
    simp only [Deferred.ofValue, Sem.run_bind, Sem.run_pure, Result.andThen_ok, invoke]
    rw [run_callFunc h1 h2 h3]
    simp
  have allEq : ∀ a0 b0 : Array Value, Value.func (.func f) us0.toArray vs0.toArray = .func (.func f) a0 b0 → (us0 ++ us ++ vs0).toArray = a0 ++ us.toArray ++ b0 := by
    intro a0 b0 e
    injection e with _ e1 e2
    rw [← e1, ← e2]
    simp
  split at he
  · rename_i g hg
    obtain ⟨⟨fn, h1, h2, h3⟩, hcalls⟩ := hX f g hg _ _ _ c w _ he hG hσ hLall
    exact ⟨_, allEq, enter h1 h2 h3, hcalls⟩
  · split at he
    · rename_i A hA
      have hcf := hE f A hA
      unfold compFn at hcf
      split at hcf
      · rename_i fn hfn
        split at hcf
        · rename_i code rs hbody hrs
          split at hcf
          · rename_i hds
            simp only [Bool.and_eq_true, bne_iff_ne, ne_eq] at hds
            obtain ⟨hds, hname⟩ := hds
            split at hcf
            · rename_i acode nb hcode
              injection hcf with hcf; subst hcf
              refine ⟨_, allEq, enter hfn (by rw [hbody]; rfl) hname, fun m => ?_⟩
              refine callsIn_of_wp_marks hfn hbody trivial ?_
              have hgrow := hσ.grow nb
              have hfr : Fr P wr E.G (c.grow nb) w { tm := initTm (first ++ args ++ cap), σ := σ ++ List.replicate nb (.dead 0), base := σ.length } { tmps := (us0 ++ us ++ vs0).toArray ++ Array.replicate (fn.ntmps - (us0 ++ us ++ vs0).toArray.size) undef, defers := [] } := by
                refine ⟨hG.mono (Ctx.grow_le c nb) (Kept.refl _ _), fun t => ?_, hgrow⟩
                have hL' := SimL.mono (Ctx.grow_le c nb) (Kept.refl _ w) _ _ hLall
                have hlen := hL'.length
                simp only [initTm]
                by_cases ht : t < (first ++ args ++ cap).length
                · obtain ⟨u, hu, hs⟩ := hL'.get t _ (List.getElem?_eq_getElem ht)
                  have e1 : (first ++ args ++ cap).getD t (.tup []) = (first ++ args ++ cap)[t] := by
                    rw [List.getD_eq_getElem?_getD, List.getElem?_eq_getElem ht]; rfl
                  have e2 : ((us0 ++ us ++ vs0).toArray ++ Array.replicate (fn.ntmps - (us0 ++ us ++ vs0).toArray.size) undef).getD t undef = u := by
                    rw [Array.getD_eq_getD_getElem?, Array.getElem?_append_left (by rw [List.size_toArray, hlen]; exact ht)]
                    simp only [List.getElem?_toArray, hu]; rfl
                  rw [e1, e2]; exact hs
                · have e1 : (first ++ args ++ cap).getD t (.tup []) = .tup [] := by
                    rw [List.getD_eq_getElem?_getD, List.getElem?_eq_none (by omega)]; rfl
                  have e2 : ((us0 ++ us ++ vs0).toArray ++ Array.replicate (fn.ntmps - (us0 ++ us ++ vs0).toArray.size) undef).getD t undef = undef := by
                    rw [Array.getD_eq_getD_getElem?, Array.getElem?_append_right (by rw [List.size_toArray, hlen]; omega)]
                    rw [Array.getElem?_replicate]
                    split <;> rfl
                  rw [e1, e2]
                  simp only [SimV]
                  exact ⟨[], rfl, by simp [SimL]⟩
              have key : ∀ (x : AExit) (s3 : AState), (resAll s3 rs).bind (fun v => finish (modes f) σ (resVal v) s3.σ) = some r → ∀ c3 w3 a3, Ran P wr E.G none (c.grow nb) w { tmps := (us0 ++ us ++ vs0).toArray ++ Array.replicate (fn.ntmps - (us0 ++ us ++ vs0).toArray.size) undef, defers := [] } s3 c3 w3 a3 →
                  LeavesInM (WF none) m P fn a3.tmps (fun e w' => ∃ u c', e = .returned u ∧ Left P wr c w r.1 r.2 c' w' u) a3.defers .returning w3 := by
                intro x s3 hres c3 w3 a3 hr
                obtain ⟨rrs, e1, e2, e3⟩ := hr.defers
                have e1' : a3.defers = rrs.map dmark := by rw [e1]; simp
                rw [e1']
                refine leavesM_marks rrs w3 e2 (fun q hq => (e3 q hq).2.2) ?_
                have hσ4 := hr.fr.σ.dropD (fun q hq => (e3 q hq).2.1) e2 (fun q hq => (e3 q hq).2.2) (D := c.D) (fun i hi => hr.D i hi)
                have hk4 : Kept c3.F w3 (takeW w3 rrs) := takeW_kept rrs w3 e2 (fun q hq hf => hr.fr.σ.DF q (e3 q hq).2.1 hf) (fun q hq => (e3 q hq).2.2)
                have hfr4 : Fr P wr E.G { c3 with D := c.D } (takeW w3 rrs) s3 a3 := ⟨hr.fr.G.mono (CtxLe.dropD c3 c.D) hk4, hr.fr.tm.mono (CtxLe.dropD c3 c.D) hk4, hσ4⟩
                rw [Option.bind_eq_some_iff] at hres
                obtain ⟨vs, hvs, hfin⟩ := hres
                obtain ⟨u, hu, hsv⟩ := results_sim hfr4 hrs hvs
                have hkk : Kept c.K w (takeW w3 rrs) := by
                  refine (hr.kept : Kept (c.grow nb).K w w3).trans (takeW_kept (F := c.K) rrs w3 e2 (fun q hq hK => ?_) (fun q hq => (e3 q hq).2.2)) (fun _ h => h)
                  have := hσ.K q hK
                  have := (e3 q hq).1
                  omega
                obtain ⟨c5, hl⟩ := finish_ok hσ hσ4 (((Ctx.grow_le c nb).trans hr.le).trans (CtxLe.dropD c3 c.D)) rfl hkk hsv hfin
                exact ⟨u, hu, u, c5, rfl, hl⟩
              have hdst : dstsOk ({ tmps := (us0 ++ us ++ vs0).toArray ++ Array.replicate (fn.ntmps - (us0 ++ us ++ vs0).toArray.size) undef, defers := [] } : Act).tmps.size code = true := dstsOk_mono (by simp; omega) hds
              split at he
              · rename_i s3 hs3
                refine ih code acode _ 0 nb (c.grow nb) w _ _ .normal s3 none m _ (fun p => appSlots_pos) hcode hdst (fun l hl => by cases hl) hfr hs3 fun c3 w3 a3 hr => ?_
                exact key .normal s3 he c3 w3 a3 hr
              · rename_i s3 hs3
                refine ih code acode _ 0 nb (c.grow nb) w _ _ .ret s3 none m _ (fun p => appSlots_pos) hcode hdst (fun l hl => by cases hl) hfr hs3 fun c3 w3 a3 hr => ?_
                exact key .ret s3 he c3 w3 a3 hr
              · cases he
            · cases hcf
          · cases hcf
        · cases hcf
      · cases hcf
    · cases he

/-- All together. -/
theorem all_ok (hm : P.follows .mixedOrders = true) {modes : FuncId → AMode} (hE : ∀ f A, E.fns f = some A → compFn P wr modes f = some A) (hX : ∀ f g, E.X f = some g → OracleOk P wr E.G f g) :
    ∀ n, ExecOk P wr E.G (execN E n) ∧ FnOk P wr E.G (callN E n) ∧ RdOk P wr E.G (callN E n) := by
  intro n
  induction n using Nat.strongRecOn with
  | _ n ih =>
    cases n with
    | zero =>
      refine ⟨fun code acode app n0 n1 c w s a x s' ro m Q _ _ _ _ _ he _ => ?_, fun f first cap args σ r c w fu us he => ?_, fun b ver args σ r c w fu us he => ?_⟩
      · simp [execN] at he
      · simp [callN] at he
      · simp [callN] at he
    | succ n =>
      obtain ⟨h1, h2, h3⟩ := ih n (Nat.lt_succ_self n)
      exact ⟨exec_step hm h1 h2 h3 (fun k hk => (ih k (by omega)).1), call_step hE hX h1, round_step h1⟩

/-- A function is told by what its own text comes to, of arguments that say more. -/
theorem oracle_of (hm : P.follows .mixedOrders = true) {modes : FuncId → AMode} (hE : ∀ f A, E.fns f = some A → compFn P wr modes f = some A) (hX : ∀ f g, E.X f = some g → OracleOk P wr E.G f g) {f : FuncId} {g : List AVal → Store → Option (AVal × Store)}
    (hf : ∃ A, compFn P wr modes f = some A) (h : ∀ (args : List AVal) (σ : Store) (r : AVal × Store) (c : Ctx) (w : World) (us : List Value), g args σ = some r → SimL c w args us → ∃ args', SimL c w args' us ∧ callv E (.fn f [] []) args' σ = some r) :
    OracleOk P wr E.G f g := by
  intro args σ r c w us hg hG hσ hL
  obtain ⟨A, hA⟩ := hf
  refine ⟨?_, fun m => ?_⟩
  · unfold compFn at hA
    split at hA
    · rename_i fn hfn
      split at hA
      · rename_i code rs hb hr
        split at hA
        · rename_i hds
          simp only [Bool.and_eq_true, bne_iff_ne, ne_eq] at hds
          exact ⟨fn, hfn, by rw [hb]; rfl, hds.2⟩
        · cases hA
      · cases hA
    · cases hA
  · obtain ⟨args', hL', hc⟩ := h args σ r c w us hg hL
    obtain ⟨n, hn⟩ := callv_some.1 hc
    obtain ⟨_, h2, _⟩ := all_ok hm hE hX n
    have hfv : SimV c w (.fn f [] []) (.func (.func f) #[] #[]) := by
      simp only [SimV]
      exact ⟨[], [], rfl, by simp [SimL], by simp [SimL]⟩
    obtain ⟨all, h5, h3, h4⟩ := h2 f [] [] args' σ r c w _ us hn hG hσ hfv hL'
    have hall : all = us.toArray := by simpa using h5 #[] #[] rfl
    rw [← hall]
    exact h4 m

theorem simL_one {c : Ctx} {w : World} {a : AVal} {u : Value} (h : SimV c w a u) : SimL c w [a] [u] := by
  simp only [SimL]; exact ⟨u, [], rfl, h, rfl⟩

/-- Of a slice that may be nil: it is, or it is not. -/
theorem sl_cases {c : Ctx} {w : World} {es : List AVal} {u : Value} (h : SimV c w (.sl es) u) : (SimV c w anil u ∧ es = []) ∨ SimV c w (.sn es) u := by
  simp only [SimV] at h
  obtain ⟨a, cap, rfl, hcap, hp, hn, hs⟩ := h
  cases a with
  | none =>
    obtain rfl := hn rfl
    have : es = [] := List.length_eq_zero_iff.1 (by omega)
    subst this
    exact .inl ⟨sim_mk rfl, rfl⟩
  | some a =>
    refine .inr ?_
    simp only [SimV]
    refine ⟨a, cap, rfl, hcap, hp, ?_⟩
    rcases hs with hs | ⟨sz, blk, off, ea, hF, hE⟩
    · exact .inl hs
    · injection ea with ea; exact .inr ⟨sz, blk, off, ea, hF, hE⟩

/-- A function that the abstract machine evaluates is called so in the model. -/
theorem calls_ok (hm : P.follows .mixedOrders = true) {modes : FuncId → AMode} (hE : ∀ f A, E.fns f = some A → compFn P wr modes f = some A) (hX : ∀ f g, E.X f = some g → OracleOk P wr E.G f g)
    {f : FuncId} {args : List AVal} {σ : Store} {r : AVal × Store} {c : Ctx} {w : World} {us : List Value} (h : acall E f args σ = some r) (hG : GOk E.G c w) (hσ : SimS P wr c w σ) (hL : SimL c w args us) :
    Calls P f us.toArray w (fun e w' => ∃ u c', e = .returned u ∧ Left P wr c w r.1 r.2 c' w' u) := by
  obtain ⟨n, hn⟩ := callv_some.1 h
  obtain ⟨_, h2, _⟩ := all_ok hm hE hX n
  have hfv : SimV c w (.fn f [] []) (.func (.func f) #[] #[]) := by
    simp only [SimV]
    exact ⟨[], [], rfl, by simp [SimL], by simp [SimL]⟩
  obtain ⟨all, h5, h3, h4⟩ := h2 f [] [] args σ r c w _ us hn hG hσ hfv hL
  have hall : all = us.toArray := by simpa using h5 #[] #[] rfl
  rw [← hall]
  exact callsIn_wide.1 (h4 0)
end Go.Abs
