/- What the abstract machine says is what the model's code does: code and rounds. -/
import Derived.Test.YtmbleldjdhkkeaaFwK
set_option linter.unusedSimpArgs false
set_option linter.unusedVariables false
namespace Go.Abs
open Go.RowKit
variable {P : Program} {wr : FuncId → Bool}
variable {E : Env}

theorem FnYld {n : Nat} {b ver b' ver' : Nat} {σ : Store} {r : AVal × Store} (h : callN E n (.yld b ver) [.yld b' ver'] σ = some r) : False := by
  cases n with
  | zero => simp [callN] at h
  | succ n =>
    simp only [callN, callF] at h
    split at h
    · rw [chk_some] at h
      simp [noYld] at h
    · cases h

theorem callN_kind {n : Nat} {fv : AVal} {args : List AVal} {σ : Store} {r : AVal × Store} (h : callN E n fv args σ = some r) : (∃ f a b, fv = .fn f a b) ∨ ∃ b v, fv = .yld b v := by
  cases n with
  | zero => simp [callN] at h
  | succ n =>
    cases fv with
    | fn f x y => exact .inl ⟨f, x, y, rfl⟩
    | yld b v => exact .inr ⟨b, v, rfl⟩
    | _ => simp [callN, callF] at h

/-- The world in which a loop's record is laid, and the context. -/
theorem enter_loop {ro : Option Nat} {c : Ctx} {w : World} {σ : Store} (hro : ∀ l, ro = some l → ∃ r, w.heap[l]? = some (.loop r)) (h : SimS P wr c w σ) (fn : FuncId) (tmps : Array Value) (ps : Array Tmp) (assign body : Code) :
    ∃ (c0 : Ctx) (w0 : World) (dfr : Nat) (rs : List Nat), (Instr.enterLoop fn tmps ps assign body ro).run P w = .ok (w0.heap.size, rs.map dmark) (w0.alloc (.loop { state := .ready, pending := none, fn, tmps, params := ps, assign, body, defers := dfr })) ∧
      CtxLe c c0 ∧ (∀ i, c.D i → c0.D i) ∧ (ro.isSome = true → c0.D = c.D) ∧ Kept c.K w w0 ∧ SimS P wr c0 w0 σ ∧ rs.Nodup ∧ ∀ r ∈ rs, w.heap.size ≤ r ∧ c0.D r ∧ w0.heap[r]? = some (.deferred (some [])) := by
  cases ro with
  | some l =>
    obtain ⟨r0, hr0⟩ := hro l rfl
    refine ⟨c, w, r0.defers, [], run_enterLoop_inner hr0 fn tmps ps assign body, CtxLe.refl c, fun _ h => h, fun _ => rfl, Kept.refl _ _, h, List.nodup_nil, by simp⟩
  | none =>
    let c0 : Ctx := { c with D := fun i => c.D i ∨ i = w.heap.size }
    have hk := alloc_kept w (.deferred (some [])) c.K h.K
    have hle : CtxLe c c0 := ⟨fun _ h => h, Nat.le_refl _, fun _ _ => Nat.le_refl _, fun _ _ _ => ⟨rfl, rfl, rfl, rfl⟩⟩
    have hsz : (w.alloc (.deferred (some []))).heap.size = w.heap.size + 1 := World.size_alloc _ _
    refine ⟨c0, w.alloc (.deferred (some [])), w.heap.size, [w.heap.size], ?_, hle, fun _ h => .inl h, by simp, hk, ?_, by simp, ?_⟩
    · rw [hsz]; exact run_enterLoop_outer fn tmps ps assign body
    · refine ⟨h.n, fun i hi => Nat.lt_of_lt_of_le (h.F i hi) hk.size, fun i hi => ?_, fun b B hb => ?_, h.apart, fun b B hb hB hd => ?_, fun i hi hf => ?_⟩
      · rcases hi with hi | hi
        · exact Nat.lt_of_lt_of_le (h.D i hi) hk.size
        · omega
      · exact (h.box b B hb).mono hle hk.F ⟨rfl, rfl, rfl, rfl, rfl⟩ (fun _ => Iff.rfl) (fun hB => alloc_old _ _ _ (h.lt hb hB))
      · rcases hd with hd | hd
        · exact h.dis b B hb hB hd
        · have := h.lt hb hB; have e : c.ρ b = w.heap.size := hd; omega
      · rcases hi with hi | hi
        · exact h.DF i hi hf
        · have := h.F i hf; omega
    · intro r hr
      simp only [List.mem_singleton] at hr
      subst hr
      exact ⟨Nat.le_refl _, .inr rfl, alloc_new _ _⟩

theorem dstsOk_mono {n m : Nat} (h : n ≤ m) : ∀ {code : Code}, dstsOk n code = true → dstsOk m code = true := by
  intro code
  induction code with
  | region id ops d =>
    intro hc
    simp only [dstsOk, List.all_eq_true] at hc ⊢
    intro o ho
    have := hc o ho
    split at this
    · rename_i d hd
      have : d < n := by simpa using this
      simpa using Nat.lt_of_lt_of_le this h
    · rfl
  | seq x y hx hy => intro hc; simp only [dstsOk, Bool.and_eq_true] at hc ⊢; exact ⟨hx hc.1, hy hc.2⟩
  | cond _ x y hx hy => intro hc; simp only [dstsOk, Bool.and_eq_true] at hc ⊢; exact ⟨hx hc.1, hy hc.2⟩
  | rangeFunc f ps x y hx hy =>
    intro hc
    simp only [dstsOk, Bool.and_eq_true, List.all_eq_true, decide_eq_true_eq] at hc ⊢
    exact ⟨⟨fun d hd => Nat.lt_of_lt_of_le (hc.1.1 d hd) h, hx hc.1.2⟩, hy hc.2⟩
  | block _ x hx => intro hc; simp only [dstsOk] at hc ⊢; exact hx hc
  | loop x hx => intro hc; simp only [dstsOk] at hc ⊢; exact hx hc
  | scope x hx => intro hc; simp only [dstsOk] at hc ⊢; exact hx hc
  | _ => intro _; simp [dstsOk]

theorem exec_step (hm : P.follows .mixedOrders = true) {n : Nat} (ih : ExecOk P wr E.G (execN E n)) (hfn : FnOk P wr E.G (callN E n)) (hrd : RdOk P wr E.G (callN E n)) (hall : ∀ k, k < n → ExecOk P wr E.G (execN E k)) : ExecOk P wr E.G (execN E (n + 1)) := by
  intro code acode app n0 n1 c w s a x s' ro m Q happ hc hd hro h he hQ
  have hcall : UponOk P wr E.G (callN E n) := upon_of hfn hrd (fun _ _ _ _ => callN_kind)
  simp only [execN] at he
  have he0 := he
  cases code with
  | skip =>
    simp only [compCode] at hc; injection hc with hc; injection hc with hc _; subst hc
    simp only [execF] at he; injection he with he; injection he with e1 e2; subst e1; subst e2
    exact wpIn_skip (hQ c w a (Ran.refl h))
  | region id ops draw => exact region_ok hm hcall happ hc hd h he hQ
  | seq p q =>
    simp only [compCode] at hc
    split at hc
    · rename_i ap k1 hp
      split at hc
      · rename_i aq k2 hq
        injection hc with hc; injection hc with hc _; subst hc
        simp only [dstsOk, Bool.and_eq_true] at hd
        simp only [execF] at he
        rw [Option.bind_eq_some_iff] at he
        obtain ⟨⟨x1, s1⟩, h1, he⟩ := he
        refine wpIn_seq (ih p ap app _ _ c w s a x1 s1 ro m _ happ hp hd.1 hro h h1 fun c1 w1 a1 hr1 => ?_)
        have hro1 : ∀ l, ro = some l → ∃ r, w1.heap[l]? = some (.loop r) := fun l hl => let ⟨r, hr⟩ := hro l hl; hr1.kept.lp l r hr
        cases x1 with
        | normal =>
          exact ih q aq app _ _ c1 w1 s1 a1 x s' ro m Q happ hq (hr1.size ▸ hd.2) hro1 hr1.fr he fun c2 w2 a2 hr2 => hQ c2 w2 a2 (hr1.trans hr2)
        | exit id => injection he with he; injection he with e1 e2; subst e1; subst e2; exact hQ c1 w1 a1 hr1
        | ret => injection he with he; injection he with e1 e2; subst e1; subst e2; exact hQ c1 w1 a1 hr1
      · cases hc
    · cases hc
  | cond f p q =>
    simp only [compCode] at hc
    split at hc
    · rename_i f' ap k1 hf hp
      split at hc
      · rename_i aq k2 hq
        injection hc with hc; injection hc with hc _; subst hc
        simp only [dstsOk, Bool.and_eq_true] at hd
        simp only [execF] at he
        split at he
        · rename_i t ht
          have e := sim_bool (h.evs hf ht)
          refine wpIn_cond e ?_
          cases t
          · exact ih q aq app _ _ c w s a x s' ro m Q happ hq hd.2 hro h he hQ
          · exact ih p ap app _ _ c w s a x s' ro m Q happ hp hd.1 hro h he hQ
        · cases he
      · cases hc
    · cases hc
  | block id p =>
    simp only [compCode, Option.map_eq_some_iff] at hc
    obtain ⟨⟨ap, k1⟩, hp, hc⟩ := hc
    injection hc with hc _; subst hc
    simp only [execF] at he
    rw [Option.map_eq_some_iff] at he
    obtain ⟨⟨x1, s1⟩, h1, he⟩ := he
    refine wpIn_block (ih p ap app _ _ c w s a x1 s1 ro m _ happ hp hd hro h h1 fun c1 w1 a1 hr1 => ?_)
    cases x1 with
    | normal => injection he with e1 e2; subst e1; subst e2; exact hQ c1 w1 a1 hr1
    | exit i =>
      dsimp only at he
      by_cases e : i = id
      · rw [if_pos e] at he
        injection he with e1 e2; subst e1; subst e2
        simp only [toX, Exit.inBlock]
        rw [if_pos e]
        exact hQ c1 w1 a1 hr1
      · rw [if_neg e] at he
        injection he with e1 e2; subst e1; subst e2
        simp only [toX, Exit.inBlock]
        rw [if_neg e]
        exact hQ c1 w1 a1 hr1
    | ret => injection he with e1 e2; subst e1; subst e2; exact hQ c1 w1 a1 hr1
  | loop p =>
    simp only [compCode, Option.map_eq_some_iff] at hc
    obtain ⟨⟨ap, k1⟩, hp, hc⟩ := hc
    injection hc with hc _; subst hc
    have hlp : ∀ l, ro = some l → ∃ r, w.heap[l]? = some (.loop r) := hro
    refine wpIn_loop_fuel (fun j a1 w1 => j ≤ n + 1 ∧ ∃ c1 s1, Ran P wr E.G ro c w a s1 c1 w1 a1 ∧ execN E j (.loop ap) s1 = some (x, s')) (n + 1) ⟨Nat.le_refl _, c, s, Ran.refl h, by simp only [execN]; exact he0⟩ ?_
    intro j a1 w1 ⟨hj, c1, s1, hr1, he1⟩
    cases j with
    | zero => simp [execN] at he1
    | succ j =>
      simp only [execN, execF] at he1
      rw [Option.bind_eq_some_iff] at he1
      obtain ⟨⟨x2, s2⟩, h2, he1⟩ := he1
      have hro1 : ∀ l, ro = some l → ∃ r, w1.heap[l]? = some (.loop r) := fun l hl => let ⟨r, hr⟩ := hro l hl; hr1.kept.lp l r hr
      have ihj : ExecOk P wr E.G (execN E j) := by
        rcases Nat.lt_or_ge j n with hlt | hge
        · exact hall j hlt
        · have : j = n := by omega
          rw [this]; exact ih
      have hd' : dstsOk a1.tmps.size p = true := by rw [hr1.size]; exact hd
      refine ihj p ap app _ _ c1 w1 s1 a1 x2 s2 ro m _ happ hp hd' hro1 hr1.fr h2 fun c3 w3 a3 hr3 => ?_
      cases x2 with
      | normal => exact ⟨j, Nat.lt_succ_self j, by omega, c3, s2, hr1.trans hr3, he1⟩
      | exit i => injection he1 with he1; injection he1 with e1 e2; subst e1; subst e2; exact hQ c3 w3 a3 (hr1.trans hr3)
      | ret => injection he1 with he1; injection he1 with e1 e2; subst e1; subst e2; exact hQ c3 w3 a3 (hr1.trans hr3)
  | exit id =>
    simp only [compCode] at hc; injection hc with hc; injection hc with hc _; subst hc
    simp only [execF] at he; injection he with he; injection he with e1 e2; subst e1; subst e2
    exact wpIn_exit (hQ c w a (Ran.refl h))
  | ret =>
    simp only [compCode] at hc; injection hc with hc; injection hc with hc _; subst hc
    simp only [execF] at he; injection he with he; injection he with e1 e2; subst e1; subst e2
    exact wpIn_ret (hQ c w a (Ran.refl h))
  | rangeFunc f ps p q =>
    simp only [compCode] at hc
    split at hc
    · rename_i f' ap k1 hf hp
      split at hc
      · rename_i aq k2 hq
        injection hc with hc; injection hc with hc _; subst hc
        simp only [dstsOk, Bool.and_eq_true, List.all_eq_true, decide_eq_true_eq] at hd
        simp only [execF] at he
        split at he
        · rename_i B hB
          split at he
          · rename_i rv σ2 hcl
            split at he
            · rename_i v st pend tm2 base2 ps2 as2 bd2 hb2
              rw [chk_some] at he
              obtain ⟨⟨hv, hst, hlen⟩, he⟩ := he
              refine wpIn_rangeFunc fun fn _ => ?_
              obtain ⟨c0, w0, dfr, rs, hent, hle0, hD0, hDeq0, hk0, hσ0, hnd, hrs⟩ := enter_loop (ro := ro) hro h.σ fn a.tmps ps p q
              have htm0 := h.tm.mono hle0 hk0.F
              obtain ⟨c1, hle1, hD1, hk1, hσ1, hv1, hvr1, hρ1, hn1⟩ := new_loop (rec := { state := .ready, pending := none, fn, tmps := a.tmps, params := ps, assign := p, body := q, defers := dfr }) (base := s.base) (ps := ps.toList) (assign := ap) (body := aq) hσ0 hB rfl rfl rfl
                ⟨app, _, _, happ, hp⟩ ⟨app, _, _, happ, hq⟩ hd.1.2 hd.2 (fun d hd' => hd.1.1 d hd') htm0
              have hle01 := hle0.trans hle1
              have hkF : Kept c.F w (w0.alloc (.loop { state := .ready, pending := none, fn, tmps := a.tmps, params := ps, assign := p, body := q, defers := dfr })) := hk0.F.trans hk1.F (fun i hi => hle0.F i hi)
              have hfv := SimV.mono hle01 hkF _ _ (h.ev hf)
              have hyld : SimL c1 (w0.alloc (.loop { state := .ready, pending := none, fn, tmps := a.tmps, params := ps, assign := p, body := q, defers := dfr })) [.yld (s.base + n0) (B.ver + 1)] [.func (.yield w0.heap.size) #[] #[]] := by
                simp only [SimL]; exact ⟨_, [], rfl, hv1, rfl⟩
              rcases callN_kind hcl with ⟨f0, fa, fb, hfe⟩ | ⟨b0, v0, hfe⟩
              · rw [hfe] at hcl hfv
                obtain ⟨allargs, _, hinv, hcalls⟩ := hfn f0 fa fb _ _ (rv, σ2) c1 _ (a.eval f) _ hcl (h.G.mono hle01 hkF) hσ1 hfv hyld
                have hinv' : ∃ d, (resolve a.eval (rangeCall f w0.heap.size) 0).run P (w0.alloc (.loop { state := .ready, pending := none, fn, tmps := a.tmps, params := ps, assign := p, body := q, defers := dfr })) = .ok d (w0.alloc (.loop { state := .ready, pending := none, fn, tmps := a.tmps, params := ps, assign := p, body := q, defers := dfr })) ∧
                    (invoke d.target d.args).run P (w0.alloc (.loop { state := .ready, pending := none, fn, tmps := a.tmps, params := ps, assign := p, body := q, defers := dfr })) = .ok (.enter f0 allargs) (w0.alloc (.loop { state := .ready, pending := none, fn, tmps := a.tmps, params := ps, assign := p, body := q, defers := dfr })) := by
                  simp only [SimV] at hfv
                  obtain ⟨us, vs, e, _, _⟩ := hfv
                  rw [e] at hinv
                  refine ⟨{ target := .fn (.func f0) vs.toArray, args := us.toArray ++ #[.func (.yield w0.heap.size) #[] #[]] }, ?_, ?_⟩
                  · simp only [resolve, rangeCall]
                    rw [e]
                    simp [Deferred.ofValue, Act.eval]
                  · simpa [Deferred.ofValue] using hinv
                obtain ⟨d, hres, hinv2⟩ := hinv'
                refine ⟨w0.heap.size, rs.map dmark, _, d, _, f0, allargs, _, hent, hres, fun _ _ => trivial, hinv2, fun hh => by simp [WF, Fence.wide] at hh, ?_⟩
                rw [WF_calls]
                refine (hcalls (m - 1)).mono fun e w3 ⟨u, c3, e1, hl⟩ => ?_
                subst e1
                have hvr : c3.vr (s.base + n0) = c1.vr (s.base + n0) := by
                  have := (hl.σ.box _ _ hb2).vr
                  rw [this, hvr1]; exact hv
                have hlt1 : s.base + n0 < c1.n := by
                  rw [hn1]
                  have hlt := (List.getElem?_eq_some_iff.1 hB).1
                  rw [hσ0.n]; exact hlt
                have hρ3 : c3.ρ (s.base + n0) = w0.heap.size := by
                  obtain ⟨e1, _⟩ := hl.le.same _ hlt1 hvr.symm
                  rw [e1, hρ1]
                obtain ⟨q1, q2, rec3, hrec3, q3, q4, _⟩ := hl.σ.box _ _ hb2
                have hrec3' := hrec3
                rw [hρ3] at hrec3'
                obtain ⟨k1', hσ4⟩ := end_loop (o := { rec3 with state := .exhausted }) hl.σ hb2 hrec3
                refine ⟨rec3.pending, _, run_endLoop hrec3' (by rw [q3]; exact hst), ?_⟩
                rw [putObj_eq, ← hρ3]
                generalize hwx : layAt w3 (c3.ρ (s.base + n0)) (.loop { rec3 with state := .exhausted }) = wx at k1' hσ4 ⊢
                have hkall : Kept c.K w wx := by
                  have hKm : ∀ i, c.K i → c0.K i := fun i hi => hi.elim (fun h' => .inl (hle0.F i h')) (fun h' => .inr (hD0 i h'))
                  have hKm1 : ∀ i, c0.K i → c1.K i := K_mono hle1 hD1
                  have hKm3 : ∀ i, c1.K i → c3.K i := K_mono hl.le hl.D
                  exact ((hk0.trans hk1 hKm).trans hl.kept (fun i hi => hKm1 i (hKm i hi))).trans k1' (fun i hi => hKm3 i (hKm1 i (hKm i hi)))
                have hleall : CtxLe c c3 := hle01.trans hl.le
                have hDall : c3.D = c0.D := hl.D.trans hD1
                have hran : Ran P wr E.G ro c w a { s with σ := σ2.set (s.base + n0) (.dead (B.ver + 1)) } c3 wx { a with defers := rs.map dmark ++ a.defers } := by
                  refine ⟨⟨h.G.mono hleall hkall.F, h.tm.mono hleall hkall.F, ?_⟩, hleall, fun i hi => by rw [hDall]; exact hD0 i hi, fun hh => hDall.trans (hDeq0 hh), hkall, rfl, rs, rfl, hnd, fun r hr => ?_⟩
                  · have e2 : v = B.ver + 1 := hv
                    subst e2
                    exact hσ4
                  · obtain ⟨p1, p2, p3⟩ := hrs r hr
                    refine ⟨p1, by rw [hDall]; exact p2, ?_⟩
                    have hK0 : c0.K r := .inr p2
                    have hKm1 : ∀ i, c0.K i → c1.K i := K_mono hle1 hD1
                    have hKm3 : ∀ i, c1.K i → c3.K i := K_mono hl.le hl.D
                    rw [k1'.block r (hKm3 r (hKm1 r hK0)), hl.kept.block r (hKm1 r hK0), hk1.block r hK0]
                    exact p3
                cases pend with
                | none =>
                  have hnone : rec3.pending = none := by
                    cases hrp : rec3.pending with
                    | none => rfl
                    | some z => rw [hrp] at q4; cases z <;> exact q4.elim
                  rw [hnone]
                  injection he with he; injection he with e1 e2; subst e1; subst e2
                  exact hQ c3 _ _ hran
                | some pc =>
                  have hro3 : ∀ l, ro = some l → ∃ r, wx.heap[l]? = some (.loop r) := fun l hl' => let ⟨r, hr⟩ := hro l hl'; hkall.lp l r hr
                  have hrest : ∀ (pcode : Code) n2, rec3.pending = some pcode → compCode P wr app pcode 0 = some (pc, n2) → dstsOk a.tmps.size pcode = true →
                      (match rec3.pending with
                        | none => Q .normal { a with defers := rs.map dmark ++ a.defers } wx
                        | some c => c.wpIn (WF ro) m P Q { a with defers := rs.map dmark ++ a.defers } wx) := by
                    intro pcode n2 hpe hcp hdp
                    rw [hpe]
                    exact ih pcode pc app 0 n2 c3 _ _ _ x s' ro m Q happ hcp hdp hro3 hran.fr he fun c4 w4 a4 hr4 => hQ c4 w4 a4 (hran.trans hr4)
                  cases hrp : rec3.pending with
                  | none => rw [hrp] at q4; exact q4.elim
                  | some z =>
                    rw [hrp] at q4
                    have := hrest
                    cases z <;> cases pc <;> first
                      | exact q4.elim
                      | (rw [← hrp]; exact hrest _ _ hrp rfl rfl)
                      | (simp only [PendOk] at q4; subst q4; rw [← hrp]; exact hrest _ _ hrp rfl rfl)
              · rw [hfe] at hcl
                exact (FnYld hcl).elim
            · cases he
          · cases he
        · cases he
      · cases hc
    · cases hc
  | _ => simp [compCode] at hc
end Go.Abs
