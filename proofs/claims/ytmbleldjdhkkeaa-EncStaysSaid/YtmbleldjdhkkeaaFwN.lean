/- What the abstract machine says is what the model's code does: calls; all together. -/
import Derived.Test.YtmbleldjdhkkeaaFwM
set_option linter.unusedSimpArgs false
set_option linter.unusedVariables false
namespace Go.Abs
open Go.RowKit
variable {P : Program} {wr : FuncId → Bool}
variable {E : Env}

theorem params_sim {c : Ctx} {w : World} : ∀ {ps : List Nat} {args : List AVal} {us : List Value} {tm : Nat → AVal} {tmps : Array Value}, ps.length = args.length → (∀ d ∈ ps, d < tmps.size) → TmOk c w tm tmps → SimL c w args us →
    TmOk c w (setParams tm ps args) ((ps.zip us).foldl (fun tmps (p : Nat × Value) => tmps.setIfInBounds p.1 p.2) tmps) ∧ ((ps.zip us).foldl (fun tmps (p : Nat × Value) => tmps.setIfInBounds p.1 p.2) tmps).size = tmps.size
  | [], args, us, tm, tmps, hl, hd, ht, hL => by
    cases args with
    | nil => simp only [SimL] at hL; subst hL; exact ⟨ht, rfl⟩
    | cons => simp at hl
  | p :: ps, args, us, tm, tmps, hl, hd, ht, hL => by
    cases args with
    | nil => simp at hl
    | cons v vs =>
      simp only [SimL] at hL
      obtain ⟨u, us', rfl, hu, hL'⟩ := hL
      simp only [setParams, List.zip_cons_cons, List.foldl_cons]
      have hp : p < tmps.size := hd p (by simp)
      obtain ⟨h1, h2⟩ := params_sim (ps := ps) (args := vs) (tm := upd tm p v) (tmps := tmps.setIfInBounds p u) (by simpa using hl) (fun d h => by simpa using hd d (by simp [h])) (ht.put hp hu) hL'
      exact ⟨h1, by rw [h2]; simp⟩

theorem round_step {n : Nat} (ih : ExecOk P wr E.G (execN E n)) : RdOk P wr E.G (callN E (n + 1)) := by
  intro b ver args σ r c w fu us he hG hσ hfv hL
  simp only [callN, callF] at he
  split at he
  · rename_i v pend tm base ps assign body hb
    rw [chk_some] at he
    obtain ⟨⟨rfl, hlen, _⟩, he⟩ := he
    split at he
    · rename_i s1 h1
      split at he
      · rename_i v1 pend1 tm1 base1 ps1 assign1 body1 hb1
        rw [chk_some] at he
        obtain ⟨hv1, he⟩ := he
        subst hv1
        split at he
        · rename_i x s2 h2
          obtain ⟨q1, q2, rec, q3, q4, q5, q6, ⟨app, n0, n1, happ, hca⟩, ⟨app', n0', n1', happ', hcb⟩, q7, q8, q9, q10⟩ := hσ.box b _ hb
          simp only [SimV] at hfv
          obtain ⟨_, _, l, rfl, hl⟩ := hfv
          obtain rfl := hl q1.symm
          have hsz : us.toArray.size = rec.params.size := by
            have := hL.length
            have h2 : rec.params.size = ps.length := by rw [← q6]; simp
            simp; omega
          refine ⟨c.ρ b, rec.fn, (ps.zip us).foldl (fun tmps (p : Nat × Value) => tmps.setIfInBounds p.1 p.2) rec.tmps, rec.assign, rec.body, ?_, fun m => ?_⟩
          · simp only [Deferred.ofValue, Sem.run_bind, Sem.run_pure, Result.andThen_ok, invoke]
            have : (#[] ++ us.toArray : Array Value) = us.toArray := by simp
            rw [this]
            rw [run_yield q3 hsz]
            congr 2
            rw [← Array.foldl_toList, Array.toList_zip, q6]
          · obtain ⟨ht, hts⟩ := params_sim hlen q9 q10 hL
            refine roundIn_of_wpIn trivial ?_
            have hfr : Fr P wr E.G c w { tm := setParams tm ps args, σ := σ, base := base } { tmps := (ps.zip us).foldl (fun tmps (p : Nat × Value) => tmps.setIfInBounds p.1 p.2) rec.tmps, defers := [] } := ⟨hG, ht, hσ⟩
            refine ih rec.assign assign app n0 n1 c w _ _ .normal s1 (some (c.ρ b)) m _ happ hca (by rw [hts]; exact q7) (fun l hl => by injection hl with hl; subst hl; exact ⟨rec, q3⟩) hfr h1 fun c1 w1 a1 hr1 => ?_
            -- behind the assignments
            obtain ⟨k1, k2, rec1, k3, k4, k5, k6, k7, k8, k9, k10, k11, k12⟩ := hr1.fr.σ.box b _ hb1
            have hbn : b < c.n := by rw [hσ.n]; exact (List.getElem?_eq_some_iff.1 hb).1
            have hρ1 : c1.ρ b = c.ρ b := (hr1.le.same b hbn (by rw [q1, k1])).1
            have k3' := k3
            rw [hρ1] at k3'
            obtain ⟨hk1, hσ1⟩ := turn_loop (st' := .busy) (pend' := pend1) (jump := rec1.pending) hr1.fr.σ hb1 k3 k5
            rw [hρ1] at hk1 hσ1
            refine ⟨_, run_beginRound k3' k4, ?_⟩
            rw [putObj_eq]
            have hfr1 : Fr P wr E.G c1 (layAt w1 (c.ρ b) (.loop { rec1 with state := .busy })) { s1 with σ := s1.σ.set b (.loop v1 .busy pend1 tm1 base1 ps1 assign1 body1) } a1 := ⟨hr1.fr.G.mono (CtxLe.refl _) hk1.F, hr1.fr.tm.mono (CtxLe.refl _) hk1.F, hσ1⟩
            have hblt1 : b < s1.σ.length := (List.getElem?_eq_some_iff.1 hb1).1
            refine ih rec.body body app' n0' n1' c1 _ _ _ x s2 (some (c.ρ b)) m _ happ' hcb (by rw [hr1.size]; show dstsOk _ _ = true; rw [hts]; exact q8) (fun l hl => by
                injection hl with hl; subst hl
                obtain ⟨r', hr'⟩ := hk1.lp _ _ k3'
                exact ⟨r', hr'⟩) hfr1 h2 fun c2 w2 a2 hr2 => ?_
            unfold roundEnd at he
            split at he
            · rename_i v2 pend2 tm2 base2 ps2 assign2 body2 hb2
              rw [chk_some] at he
              obtain ⟨⟨rfl, hlen2⟩, he⟩ := he
              obtain ⟨j1, j2, rec2, j3, j4, j5, j6, j7, j8, j9, j10, j11, j12⟩ := hr2.fr.σ.box b _ hb2
              have hρ2 : c2.ρ b = c.ρ b := by
                have hbn1 : b < c1.n := Nat.lt_of_lt_of_le hbn hr1.le.n
                exact ((hr2.le.same b hbn1 (by rw [k1, j1])).1).trans hρ1
              have j3' := j3
              rw [hρ2] at j3'
              have hD2 : c2.D = c.D := (hr2.Deq rfl).trans (hr1.Deq rfl)
              have hle2 : CtxLe c c2 := hr1.le.trans hr2.le
              have hk2 : Kept c.K w w2 := (hr1.kept.trans hk1 (K_mono hr1.le (hr1.Deq rfl))).trans hr2.kept (K_mono hr1.le (hr1.Deq rfl))
              have fin : ∀ (jump : Option Code) (pend' : Option ACode) (st' : LoopState) (bv : Bool), PendOk jump pend' → st' = (if jump.isNone then .ready else .done) → bv = jump.isNone → r = (abool bv, s2.σ.set b (.loop v2 st' pend' tm2 base2 ps2 assign2 body2)) →
                  ∃ v w', (Instr.endRound (c.ρ b) jump).run P w2 = .ok v w' ∧ ∃ u c', (Ending.returned v) = .returned u ∧ Left P wr c w r.1 r.2 c' w' u := by
                intro jump pend' st' bv hp hst hbv hr
                obtain ⟨hk3, hσ3⟩ := turn_loop (st' := st') (pend' := pend') (jump := jump) hr2.fr.σ hb2 j3 hp
                refine ⟨_, _, run_endRound jump j3', _, c2, rfl, ?_⟩
                rw [hr, putObj_eq, ← hρ2, ← hst]
                refine ⟨hle2, hD2, hk2.trans hk3 (K_mono hle2 hD2), hσ3, ?_, fun _ _ _ _ e => by cases e⟩
                rw [hbv]; exact sim_mk rfl
              cases x with
              | normal => injection he with he; exact fin none none .ready true trivial rfl rfl he.symm
              | ret => injection he with he; exact fin (some .ret) (some .ret) .done false trivial rfl rfl he.symm
              | exit id => injection he with he; exact fin (some (.exit id)) (some (.exit id)) .done false rfl rfl rfl he.symm
            · cases he
        · cases he
      · cases he
    · cases he
  · cases he

/-! Results -/
def resM (tmps : Array Value) : ResultVar → Sem Value
  | .tmp t => pure (tmps.getD t undef)
  | .cell ad t => do loadVar t (← asAddr (tmps.getD ad undef))

theorem resAll_sim {c : Ctx} {w : World} {s : AState} {a : Act} {G : Nat → Option (List AVal)} (h : Fr P wr G c w s a) : ∀ {rs : List ResultVar} {ars : List ARes} {vs : List AVal}, compRes P rs = some ars → resAll s ars = some vs →
    ∃ us : List Value, (rs.mapM (resM a.tmps)).run P w = .ok us w ∧ SimL c w vs us
  | [], ars, vs, hc, hr => by
    simp only [compRes] at hc; injection hc with hc; subst hc
    simp only [resAll] at hr; injection hr with hr; subst hr
    exact ⟨[], rfl, by simp [SimL]⟩
  | .tmp t :: rs, ars, vs, hc, hr => by
    simp only [compRes, Option.map_eq_some_iff] at hc
    obtain ⟨ars', hc', rfl⟩ := hc
    simp only [resAll, resOf] at hr
    split at hr
    · rename_i v vs' hv hvs
      injection hv with hv; subst hv
      injection hr with hr; subst hr
      obtain ⟨us, h1, h2⟩ := resAll_sim h hc' hvs
      refine ⟨a.tmps.getD t undef :: us, ?_, by simp only [SimL]; exact ⟨_, _, rfl, h.tm t, h2⟩⟩
      rw [List.mapM_cons]
      simp only [resM, Sem.run_bind, Sem.run_pure, Result.andThen_ok, h1]
    · cases hr
  | .cell ad t :: rs, ars, vs, hc, hr => by
    simp only [compRes] at hc
    split at hc
    · rename_i g n ars' hg hn hc'
      injection hc with hc; subst hc
      simp only [resAll] at hr
      split at hr
      · rename_i v vs' hv hvs
        injection hr with hr; subst hr
        obtain ⟨us, h1, h2⟩ := resAll_sim h hc' hvs
        simp only [resOf] at hv
        split at hv
        · rename_i b ver off hb
          split at hv
          · rename_i v' cs hbox
            rw [chk_some] at hv
            obtain ⟨rfl, hv⟩ := hv
            have hp := h.tm ad
            rw [hb] at hp
            simp only [SimV] at hp
            obtain ⟨hlt, _, ad', e, had⟩ := hp
            obtain ⟨k1, k2, us0, t', hheap, hL, ho⟩ := h.σ.box b _ hbox
            obtain rfl := had k1.symm
            have hrow : RowAt w (c.ρ b) 0 us0 := by
              intro j z hj
              simp only [World.cell?, hheap]
              simpa using hj
            obtain ⟨u, hu, hs⟩ := loadVar_sim (o := 0) hg hn hL ho hrow hv
            rw [Nat.zero_add] at hu
            refine ⟨u :: us, ?_, by simp only [SimL]; exact ⟨_, _, rfl, hs, h2⟩⟩
            rw [List.mapM_cons]
            simp only [resM, Sem.run_bind, e, asAddr, Sem.run_pure, Result.andThen_ok, hu, h1]
          · cases hv
        · cases hv
      · cases hr
    · cases hc

theorem results_sim {c : Ctx} {w : World} {s : AState} {a : Act} {G : Nat → Option (List AVal)} (h : Fr P wr G c w s a) {fn : Func} {ars : List ARes} {vs : List AVal} (hc : compRes P fn.results.toList = some ars) (hr : resAll s ars = some vs) :
    ∃ u, (results fn a.tmps).run P w = .ok u w ∧ SimV c w (resVal vs) u := by
  obtain ⟨us, h1, h2⟩ := resAll_sim h hc hr
  have hm : (fn.results.mapM (resM a.tmps)).run P w = .ok us.toArray w := by
    rw [Array.mapM_eq_mapM_toList]
    simp only [Sem.run_map, h1, Result.andThen_ok]
  have hres : (results fn a.tmps).run P w = .ok (if h : us.toArray.size = 1 then us.toArray[0] else .tuple us.toArray) w := by
    have : results fn a.tmps = (do
        let vs ← fn.results.mapM (resM a.tmps)
        pure (if h : vs.size = 1 then vs[0] else .tuple vs)) := by
      unfold results
      congr 2
    rw [this, Sem.run_bind, hm]
    rfl
  refine ⟨_, hres, ?_⟩
  have hlen := h2.length
  match vs, h2 with
  | [], h2 =>
    simp only [SimL] at h2; subst h2
    simp only [resVal, SimV]
    exact ⟨[], rfl, by simp [SimL]⟩
  | [v], h2 =>
    simp only [SimL] at h2
    obtain ⟨x, xs, rfl, hx, rfl⟩ := h2
    simpa [resVal] using hx
  | v :: v' :: vs, h2 =>
    have : ¬ us.toArray.size = 1 := by simp at hlen ⊢; omega
    rw [dif_neg this]
    simp only [resVal, SimV]
    exact ⟨us, rfl, h2⟩
end Go.Abs
