/- What the abstract machine says is what the model's code does. -/
import Derived.Test.YtmbleldjdhkkeaaFwJ
set_option linter.unusedSimpArgs false
set_option linter.unusedVariables false
namespace Go.Abs
open Go.RowKit
variable {P : Program} {wr : FuncId → Bool}

/-- What a piece of code leaves. -/
structure Ran (P : Program) (wr : FuncId → Bool) (G : Nat → Option (List AVal)) (ro : Option Nat) (c : Ctx) (w : World) (a : Act) (s' : AState) (c' : Ctx) (w' : World) (a' : Act) : Prop where
  fr : Fr P wr G c' w' s' a'
  le : CtxLe c c'
  D : ∀ i, c.D i → c'.D i
  Deq : ro.isSome = true → c'.D = c.D
  kept : Kept c.K w w'
  size : a'.tmps.size = a.tmps.size
  defers : ∃ rs : List Nat, a'.defers = rs.map dmark ++ a.defers ∧ rs.Nodup ∧ ∀ r ∈ rs, w.heap.size ≤ r ∧ c'.D r ∧ w'.heap[r]? = some (.deferred (some []))

theorem Ran.refl {G : Nat → Option (List AVal)} {ro : Option Nat} {c : Ctx} {w : World} {a : Act} {s : AState} (h : Fr P wr G c w s a) : Ran P wr G ro c w a s c w a :=
  ⟨h, CtxLe.refl c, fun _ h => h, fun _ => rfl, Kept.refl _ _, rfl, [], rfl, List.nodup_nil, by simp⟩
theorem Ran.went {G : Nat → Option (List AVal)} {ro : Option Nat} {c c' : Ctx} {w w' : World} {a a' : Act} {s' : AState} (h : Went P wr G c w a s' c' w' a') : Ran P wr G ro c w a s' c' w' a' :=
  ⟨h.fr, h.le, fun i hi => h.D ▸ hi, fun _ => h.D, h.kept, h.size, [], by simpa using h.defers, List.nodup_nil, by simp⟩
theorem Ran.trans {G : Nat → Option (List AVal)} {ro : Option Nat} {c c1 c2 : Ctx} {w w1 w2 : World} {a a1 a2 : Act} {s1 s2 : AState} (h : Ran P wr G ro c w a s1 c1 w1 a1) (k : Ran P wr G ro c1 w1 a1 s2 c2 w2 a2) : Ran P wr G ro c w a s2 c2 w2 a2 := by
  obtain ⟨rs1, e1, n1, p1⟩ := h.defers
  obtain ⟨rs2, e2, n2, p2⟩ := k.defers
  refine ⟨k.fr, h.le.trans k.le, fun i hi => k.D i (h.D i hi), fun hro => (k.Deq hro).trans (h.Deq hro), h.kept.trans k.kept (fun i hi => hi.elim (fun h' => .inl (h.le.F i h')) (fun h' => .inr (h.D i h'))), k.size.trans h.size, rs2 ++ rs1, ?_, ?_, ?_⟩
  · rw [e2, e1]; simp
  · rw [List.nodup_append]
    refine ⟨n2, n1, fun x hx y hy e => ?_⟩
    subst e
    have h1 := (p1 x hy).2.2
    have h2 := (p2 x hx).1
    have := (Array.getElem?_eq_some_iff.1 h1).1
    omega
  · intro r hr
    rcases List.mem_append.1 hr with hr | hr
    · obtain ⟨q1, q2, q3⟩ := p2 r hr
      exact ⟨Nat.le_trans h.kept.size q1, q2, q3⟩
    · obtain ⟨q1, q2, q3⟩ := p1 r hr
      exact ⟨q1, k.D r q2, (k.kept.block r (.inr q2)).trans q3⟩

def toX : AExit → Exit
  | .normal => .normal
  | .exit id => .exit id
  | .ret => .ret

def ExecOk (P : Program) (wr : FuncId → Bool) (G : Nat → Option (List AVal)) (exec : ACode → AState → Option (AExit × AState)) : Prop :=
  ∀ (code : Code) (acode : ACode) (app : List (Nat × Nat)) (n0 n1 : Nat) (c : Ctx) (w : World) (s : AState) (a : Act) (x : AExit) (s' : AState) (ro : Option Nat) (m : Nat) (Q : Exit → Act → World → Prop),
    (∀ p ∈ app, 0 < p.2) → compCode P wr app code n0 = some (acode, n1) → dstsOk a.tmps.size code = true → (∀ l, ro = some l → ∃ r, w.heap[l]? = some (.loop r)) → Fr P wr G c w s a → exec acode s = some (x, s') →
    (∀ c' w' a', Ran P wr G ro c w a s' c' w' a' → Q (toX x) a' w') → code.wpIn (WF ro) m P Q a w

/-- A call of a function. -/
def FnOk (P : Program) (wr : FuncId → Bool) (G : Nat → Option (List AVal)) (callv : AVal → List AVal → Store → Option (AVal × Store)) : Prop :=
  ∀ (f : FuncId) (first cap args : List AVal) (σ : Store) (r : AVal × Store) (c : Ctx) (w : World) (fu : Value) (us : List Value),
    callv (.fn f first cap) args σ = some r → GOk G c w → SimS P wr c w σ → SimV c w (.fn f first cap) fu → SimL c w args us →
    ∃ all, (∀ us0 vs0, fu = .func (.func f) us0 vs0 → all = us0 ++ us.toArray ++ vs0) ∧ (do let d ← Deferred.ofValue fu us.toArray; invoke d.target d.args).run P w = .ok (.enter f all) w ∧
      ∀ m, CallsIn (WF none) m P f all w (fun e w' => ∃ u c', e = .returned u ∧ Left P wr c w r.1 r.2 c' w' u)

/-- A round. -/
def RdOk (P : Program) (wr : FuncId → Bool) (G : Nat → Option (List AVal)) (callv : AVal → List AVal → Store → Option (AVal × Store)) : Prop :=
  ∀ (b ver : Nat) (args : List AVal) (σ : Store) (r : AVal × Store) (c : Ctx) (w : World) (fu : Value) (us : List Value),
    callv (.yld b ver) args σ = some r → GOk G c w → SimS P wr c w σ → SimV c w (.yld b ver) fu → SimL c w args us →
    ∃ l f tmps assign body, (do let d ← Deferred.ofValue fu us.toArray; invoke d.target d.args).run P w = .ok (.round l f tmps assign body) w ∧
      ∀ m, RoundIn (WF none) m P l f tmps assign body w (fun e w' => ∃ u c', e = .returned u ∧ Left P wr c w r.1 r.2 c' w' u)

theorem WF_calls (ro : Option Nat) (m : Nat) (f : FuncId) (args : Array Value) (w : World) (R : Ending → World → Prop) : CallsIn (WF ro) m P f args w R = CallsIn (WF none) m P f args w R := rfl
theorem WF_round (ro : Option Nat) (m : Nat) (l : Nat) (f : FuncId) (tmps : Array Value) (assign body : Code) (w : World) (R : Ending → World → Prop) : RoundIn (WF ro) m P l f tmps assign body w R = RoundIn (WF none) m P l f tmps assign body w R := rfl

theorem upon_of {G : Nat → Option (List AVal)} {callv : AVal → List AVal → Store → Option (AVal × Store)} (hf : FnOk P wr G callv) (hr : RdOk P wr G callv) (ho : ∀ fv args σ r, callv fv args σ = some r → (∃ f a b, fv = .fn f a b) ∨ ∃ b v, fv = .yld b v) : UponOk P wr G callv := by
  intro fv args σ r c w fu us o ro m K Q a hc hG hσ hfv hL hK
  rcases ho _ _ _ _ hc with ⟨f, x, y, rfl⟩ | ⟨b, v, rfl⟩
  · obtain ⟨all, _, h1, h2⟩ := hf f x y args σ r c w fu us hc hG hσ hfv hL
    rw [h1]
    refine ⟨fun h => by simp [WF, Fence.wide] at h, ?_⟩
    rw [WF_calls]
    refine (h2 (m - 1)).mono fun e w' ⟨u, c', e1, hl⟩ => ?_
    subst e1
    exact hK c' w' u hl
  · obtain ⟨l, f, tmps, assign, body, h1, h2⟩ := hr b v args σ r c w fu us hc hG hσ hfv hL
    rw [h1]
    refine ⟨fun h => by simp [WF, Fence.wide] at h, ?_⟩
    rw [WF_round]
    refine (h2 (m - 1)).mono fun e w' ⟨u, c', e1, hl⟩ => ?_
    subst e1
    exact hK c' w' u hl

section step
variable {E : Env} {exec : ACode → AState → Option (AExit × AState)} {callv : AVal → List AVal → Store → Option (AVal × Store)}

theorem appSlots_pos : ∀ {code : Code} {p}, p ∈ appSlots P code → 0 < p.2 := by
  intro code
  induction code with
  | region id ops d =>
    intro p hp
    simp only [appSlots] at hp
    rw [List.mem_filterMap] at hp
    obtain ⟨o, ho, he⟩ := hp
    split at he
    · rename_i t _
      split at he
      · rename_i q k d hf hd
        injection he with he; subst he
        have := List.mem_of_find?_eq_some hf
        rw [List.mem_filterMap] at this
        obtain ⟨o2, ho2, he2⟩ := this
        split at he2
        · split at he2
          · split at he2
            · injection he2 with he2; injection he2 with _ he2; subst he2; assumption
            · cases he2
          · cases he2
        · cases he2
      · cases he
    · cases he
  | seq x y hx hy => intro p hp; simp only [appSlots, List.mem_append] at hp; exact hp.elim (hx ·) (hy ·)
  | cond _ x y hx hy => intro p hp; simp only [appSlots, List.mem_append] at hp; exact hp.elim (hx ·) (hy ·)
  | rangeFunc _ _ x y hx hy => intro p hp; simp only [appSlots, List.mem_append] at hp; exact hp.elim (hx ·) (hy ·)
  | block _ x hx => intro p hp; simp only [appSlots] at hp; exact hx hp
  | loop x hx => intro p hp; simp only [appSlots] at hp; exact hx hp
  | scope x hx => intro p hp; simp only [appSlots] at hp; exact hx hp
  | _ => intro p hp; simp [appSlots] at hp

theorem groupG_flat : ∀ (n : Nat) (up : List (Option (Nat × Bool))) (g : Option (Nat × Bool)) (os : List AOper) (gs : GOps) (rest : List AOper), groupG n up g os = some (gs, rest) → flatG g gs ++ rest = os
  | 0, up, g, os, gs, rest, h => by simp [groupG] at h
  | n + 1, up, g, [], gs, rest, h => by simp only [groupG] at h; injection h with h; injection h with h1 h2; subst h1; subst h2; rfl
  | n + 1, up, g, o :: r, gs, rest, h => by
    simp only [groupG] at h
    split at h
    · rename_i hg
      rw [Option.map_eq_some_iff] at h
      obtain ⟨⟨gs', r'⟩, h1, h2⟩ := h
      injection h2 with h2 h3; subst h2; subst h3
      have ih := groupG_flat n up g r gs' r' h1
      simp only [flatG, List.cons_append, ih]
      congr 1
      subst hg
      rfl
    · split at h
      · injection h with h; injection h with h1 h2; subst h1; subst h2; rfl
      · split at h
        · cases h
        · rename_i g' w hg'
          split at h
          · rename_i sub d c x y pg r' hsub
            split at h
            · rename_i hcp
              obtain ⟨rfl, rfl⟩ := hcp
              split at h
              · rename_i lo hi hb
                rw [Option.map_eq_some_iff] at h
                obtain ⟨⟨gs', r2⟩, h1, h2⟩ := h
                injection h2 with h2 h3; subst h2; subst h3
                have ih1 := groupG_flat n _ _ _ _ _ hsub
                have ih2 := groupG_flat n _ _ _ _ _ h1
                simp only [flatG, List.append_assoc, List.cons_append]
                rw [ih2]
                exact ih1
              · cases h
            · cases h
          · cases h

theorem compCode_region {id : Nat} {ops : Array Oper} {draw : Bool} {acode : ACode} {app : List (Nat × Nat)} {n0 n1 : Nat} (hc : compCode P wr app (.region id ops draw) n0 = some (acode, n1)) :
    ∃ os n' gs, compOps P app ops.toList ops.toList n0 = some (os, n') ∧ (draw = true → (drawReady && drawOk (flagsOf wr os (befs ops.toList [])) (befs ops.toList [])) = true) ∧
      flatG none gs = (if draw = true then flagsOf wr os (befs ops.toList []) else os) ∧ okG gs = true ∧ acode = .region gs := by
  cases draw
  · simp only [compCode] at hc
    split at hc
    · rename_i os n' hos
      simp only [Bool.not_false, Bool.true_or, if_true, Bool.false_eq_true, if_false] at hc
      split at hc
      · rename_i gs hgs
        split at hc
        · rename_i hok
          injection hc with hc; injection hc with hc _
          have := groupG_flat _ _ _ _ _ _ hgs
          rw [List.append_nil] at this
          exact ⟨os, n', gs, hos, by simp, by simpa using this, hok, hc.symm⟩
        · cases hc
      · cases hc
    · cases hc
  · simp only [compCode] at hc
    split at hc
    · rename_i os n' hos
      simp only [Bool.not_true, Bool.false_or, if_true] at hc
      split at hc
      · rename_i hd
        split at hc
        · rename_i gs hgs
          split at hc
          · rename_i hok
            injection hc with hc; injection hc with hc _
            have := groupG_flat _ _ _ _ _ _ hgs
            rw [List.append_nil] at this
            exact ⟨os, n', gs, hos, fun _ => hd, by simpa using this, hok, hc.symm⟩
          · cases hc
        · cases hc
      · cases hc
    · cases hc

theorem region_ok (hm : P.follows .mixedOrders = true) (hcall : UponOk P wr E.G callv) {id : Nat} {ops : Array Oper} {draw : Bool} {acode : ACode} {app : List (Nat × Nat)} {n0 n1 : Nat} {c : Ctx} {w : World} {s : AState} {a : Act} {x : AExit} {s' : AState} {ro : Option Nat} {m : Nat} {Q : Exit → Act → World → Prop}
    (happ : ∀ p ∈ app, 0 < p.2) (hc : compCode P wr app (.region id ops draw) n0 = some (acode, n1)) (hd : dstsOk a.tmps.size (.region id ops draw) = true) (h : Fr P wr E.G c w s a) (he : execF E exec callv acode s = some (x, s'))
    (hQ : ∀ c' w' a', Ran P wr E.G ro c w a s' c' w' a' → Q (toX x) a' w') : (Code.region id ops draw).wpIn (WF ro) m P Q a w := by
  have hd' : ∀ o ∈ ops.toList, ∀ t, o.dst = some t → t < a.tmps.size := by
    simp only [dstsOk, List.all_eq_true] at hd
    intro o ho t ht
    have := hd o ho
    rw [ht] at this
    simpa using this
  obtain ⟨os, n', gs, hos, hdr, hfl, hok, rfl⟩ := compCode_region hc
  simp only [execF] at he
  rw [Option.map_eq_some_iff] at he
  obtain ⟨s1, hs1, he⟩ := he
  injection he with he1 he2; subst he1; subst he2
  obtain ⟨sF, hF, hag, _, _⟩ := group_run (G := E.G) (callv := callv) (raw := E.raw) gs [] none s s s1 hok (by simp) ⟨rfl, rfl, fun _ => .inl rfl⟩ rfl (by simp) hs1
  have hflat := hF []
  rw [List.append_nil] at hflat
  have hrun : runOps E.G callv E.raw (if draw = true then flagsOf wr os (befs ops.toList []) else os) s = some sF := by
    rw [← hfl, hflat]; rfl
  have fin : ∀ c' w' a', Went P wr E.G c w a sF c' w' a' → Q .normal a' w' := by
    intro c' w' a' hw
    refine hQ c' w' a' (Ran.went ⟨⟨hw.fr.G, fun t => ?_, by rw [hag.1]; exact hw.fr.σ⟩, hw.le, hw.D, hw.kept, hw.size, hw.defers⟩)
    rcases hag.2.2 t with e | ⟨e, _⟩
    · rw [e]; exact hw.fr.tm t
    · rw [e]; simp only [SimV]
  cases draw
  · simp only [Bool.false_eq_true, if_false] at hrun
    refine wpIn_region ?_
    have := ops_ok hcall happ (ro := ro) (m := m) (Q := Q) ops.toList [] n0 n' os c w s sF a (by simp) hos hd' h hrun fin
    simpa [List.range_eq_range'] using this
  · simp only [if_true] at hrun
    exact draw_ok hm hcall happ hos hd' h (hdr rfl) hrun fin
end step
end Go.Abs
