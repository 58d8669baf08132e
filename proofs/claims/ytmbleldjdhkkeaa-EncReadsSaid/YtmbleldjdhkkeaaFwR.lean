/- All operations that change nothing. -/
import Derived.Test.YtmbleldjdhkkeaaFwQ
set_option linter.unusedSimpArgs false
set_option linter.unusedVariables false
namespace Go.Abs
open Go.RowKit
variable {P : Program} {wr : FuncId → Bool} {c : Ctx} {w : World} {G : Nat → Option (List AVal)} {s : AState} {a : Act}

/-- What is known of a frame. -/
structure Fr (P : Program) (wr : FuncId → Bool) (G : Nat → Option (List AVal)) (c : Ctx) (w : World) (s : AState) (a : Act) : Prop where
  G : GOk G c w
  tm : TmOk c w s.tm a.tmps
  σ : SimS P wr c w s.σ

theorem Fr.ev (h : Fr P wr G c w s a) {x : Operand} {y : AOpd} (hx : compOpd x = some y) : SimV c w (ev G s y) (a.eval x) := ev_sim h.G h.tm hx
theorem Fr.evs (h : Fr P wr G c w s a) {x : Operand} {y : AOpd} (hx : compOpd x = some y) {v : AVal} (e : Go.Abs.ev G s y = v) : SimV c w v (a.eval x) := e ▸ h.ev hx

theorem yld_pure {v : AVal} {u : Value} (h : SimV c w v u) : Yld P c w (pure (.value u)) v := ⟨u, rfl, h⟩

theorem load_ok (h : Fr P wr G c w s a) {t : TypeId} {g : Bool} {n : Nat} {x : Operand} {y : AOpd} {v : AVal} (hg : tagg P t = some g) (hn : tsize P t = some n) (hx : compOpd x = some y)
    (he : eop G s (.ld g n y) = some v) : Yld P c w (do pure (.value (← Instr.loadAt t (a.eval x)))) v := by
  simp only [eop] at he
  split at he
  · rename_i b ver off hb
    have hp := h.evs hx hb
    simp only [SimV] at hp
    obtain ⟨hlt, hv, ad, e, had⟩ := hp
    split at he
    · rename_i v' cs hbox
      rw [chk_some] at he
      obtain ⟨rfl, he⟩ := he
      obtain ⟨h1, h2, us, t', hheap, hL, ho⟩ := h.σ.box b _ hbox
      obtain rfl := had h1.symm
      have hrow : RowAt w (c.ρ b) 0 us := by
        intro j z hj
        simp only [World.cell?, hheap]
        simpa using hj
      obtain ⟨u, hr, hs⟩ := loadVar_sim (o := 0) hg hn hL ho hrow he
      rw [Nat.zero_add] at hr
      refine Yld.v ?_ hs
      simp only [Instr.loadAt, e, Instr.sureAddr, Sem.run_bind, Sem.run_pure, Result.andThen_ok]
      exact hr
    · cases he
  · rename_i b ver i off hb
    have hp := h.evs hx hb
    simp only [SimV] at hp
    obtain ⟨hlt, hv, ad, e, had⟩ := hp
    split at he
    · rename_i v' fz sz es hbox
      rw [chk_some] at he
      obtain ⟨rfl, he⟩ := he
      rw [Option.bind_eq_some_iff] at he
      obtain ⟨el, hel, he⟩ := he
      obtain ⟨h1, h2, h3, h4, h5, h6⟩ := h.σ.box b _ hbox
      obtain ⟨hnb, hcp, rfl⟩ := had h1.symm
      obtain ⟨cs, t', fr, hheap, hsz, hfr, ho, hE⟩ := (h6 hnb).row
      obtain ⟨u0, g1, g2⟩ := hE.get i el hel
      obtain ⟨us, rfl, hL, hlen, hrow, ho'⟩ := CellsAt.sim g1 g2 (pureL_get h4 i el hel)
      obtain ⟨u, hr, hs⟩ := loadVar_sim hg hn hL ho' hrow he
      refine Yld.v ?_ hs
      simp only [Instr.loadAt, e, Instr.sureAddr, Sem.run_bind, Sem.run_pure, Result.andThen_ok]
      rw [h2]
      rw [Nat.zero_add] at hr
      exact hr
    · cases he
  · rename_i cs hb
    have hp := h.evs hx hb
    simp only [SimV] at hp
    obtain ⟨hpu, blk, off, e, hF, us, hL, hc⟩ := hp
    have ho : ∀ x ∈ us, oneC x = true := by
      intro x hx
      obtain ⟨j, hj, rfl⟩ := List.mem_iff_getElem.1 hx
      exact (hc j _ (List.getElem?_eq_getElem hj)).2
    obtain ⟨u, hr, hs⟩ := loadVar_sim (o := off) hg hn hL ho (fun j x hj => (hc j x hj).1) he
    rw [Nat.add_zero] at hr
    refine Yld.v ?_ hs
    simp only [Instr.loadAt, e, Instr.sureAddr, Sem.run_bind, Sem.run_pure, Result.andThen_ok]
    exact hr
  · cases he

theorem nilc_ok (h : Fr P wr G c w s a) {x : Operand} {y : AOpd} {v : AVal} {o : Oper} (ho : o.op = .nilCheck x) (hx : compOpd x = some y) (he : eop G s (.nilc y) = some v) :
    Yld P c w (execOp a.eval o) v := by
  simp only [execOp, ho]
  simp only [eop] at he
  split at he <;> first | (cases he; done) | skip
  · rename_i b ver off hb
    injection he with he; subst he
    have hp := h.evs hx hb
    have hp' := hp
    simp only [SimV] at hp
    obtain ⟨_, _, ad, e, _⟩ := hp
    rw [e] at hp' ⊢
    exact yld_pure hp'
  · rename_i b ver i off hb
    injection he with he; subst he
    have hp := h.evs hx hb
    have hp' := hp
    simp only [SimV] at hp
    obtain ⟨_, _, ad, e, _⟩ := hp
    rw [e] at hp' ⊢
    exact yld_pure hp'
  · rename_i cs hb
    injection he with he; subst he
    have hp := h.evs hx hb
    have hp' := hp
    simp only [SimV] at hp
    obtain ⟨_, blk, off, e, _⟩ := hp
    rw [e] at hp' ⊢
    exact yld_pure hp'
  · rename_i f first cap hb
    injection he with he; subst he
    have hp := h.evs hx hb
    have hp' := hp
    simp only [SimV] at hp
    obtain ⟨us, vs, e, _⟩ := hp
    rw [e] at hp' ⊢
    exact yld_pure hp'
  · rename_i b ver hb
    injection he with he; subst he
    have hp := h.evs hx hb
    have hp' := hp
    simp only [SimV] at hp
    obtain ⟨_, _, l, e, _⟩ := hp
    rw [e] at hp' ⊢
    exact yld_pure hp'

theorem bin_ok (h : Fr P wr G c w s a) {op : BinOp} {t t' : TypeId} {x y : Operand} {aop : AOp} {v : AVal} {o : Oper} (ho : o.op = .binOp op t x y t') (hc : compBin P op t x y = some aop) (he : eop G s aop = some v) :
    Yld P c w (execOp a.eval o) v := by
  simp only [execOp, ho]
  unfold compBin at hc
  have plain : ∀ {x' y' : AOpd}, compOpd x = some x' → compOpd y = some y' → eop G s (.bin op x' y') = some v →
      Yld P c w (do pure (.value (← (do eqGuard op t x y (a.eval x) (a.eval y); binOp op t (a.eval x) (a.eval y))))) v := by
    intro x' y' hx hy he
    simp only [eop] at he
    split at he
    · rename_i p q hp hq
      rw [Option.map_eq_some_iff] at he
      obtain ⟨r, hr, rfl⟩ := he
      obtain ⟨ep, _⟩ := sim_atom (h.evs hx hp)
      obtain ⟨eq, _⟩ := sim_atom (h.evs hy hq)
      obtain ⟨h1, h2⟩ := abin_run (P := P) (t := t) hr w
      refine Yld.v (u := r) ?_ (sim_mk h2)
      rw [Sem.run_bind, ep, eq, eqGuard_atom ?_ ?_, Result.andThen_ok]
      · exact h1
      · intro cs e; subst e; unfold abin at hr; cases hr
      · intro e; subst e; unfold abin at hr; cases hr
    · cases he
  split at hc
  · split at hc
    · rename_i x' y' hx hy
      injection hc with hc; subst hc
      exact plain hx hy he
    · cases hc
  · split at hc
    · rename_i x' y' hx hy
      injection hc with hc; subst hc
      exact plain hx hy he
    · cases hc
  · rename_i hu
    have key : ∀ {x' y' : AOpd} {neg : Bool}, compOpd x = some x' → compOpd y = some y' → eop G s (.beq neg x' y') = some v → (op = if neg then .neq else .eql) →
        Yld P c w (do pure (.value (← (do eqGuard op t x y (a.eval x) (a.eval y); binOp op t (a.eval x) (a.eval y))))) v := by
      intro x' y' neg hx hy he hop
      simp only [eop] at he
      split at he
      · rename_i p q hp hq
        injection he with he; subst he
        have ep := sim_bool (h.evs hx hp)
        have eq := sim_bool (h.evs hy hq)
        obtain ⟨h1, h2⟩ := binOp_eql (P := P) (w := w) (equal_bool hu p q w) (by simp) (by simp) (by simp) (by simp)
        refine Yld.v (u := .bool (if neg then !(p == q) else p == q)) ?_ (sim_mk rfl)
        rw [Sem.run_bind, ep, eq, eqGuard_atom (by simp) (by simp), Result.andThen_ok]
        subst hop
        cases neg
        · exact h1
        · exact h2
      · cases he
    split at hc
    · rename_i x' y' hx hy
      injection hc with hc; subst hc
      exact key hx hy he rfl
    · rename_i x' y' hx hy
      injection hc with hc; subst hc
      exact key hx hy he rfl
    · cases hc
  · simp at hc
  · simp at hc
  · rename_i d _ _ _ _ _ hu
    have key : ∀ {x' : AOpd} {k : ANil} {neg : Bool}, nilKind d y = some k → compOpd x = some x' → eop G s (.isnil k neg x') = some v → (op = if neg then .neq else .eql) →
        Yld P c w (do pure (.value (← (do eqGuard op t x y (a.eval x) (a.eval y); binOp op t (a.eval x) (a.eval y))))) v := by
      intro x' k neg hk hx he hop
      have fin : ∀ {b : Bool}, nilAns d (a.eval x) (a.eval y) = some b → (∃ z, y = .const z) → v = abool (if neg then !b else b) →
          Yld P c w (do pure (.value (← (do eqGuard op t x y (a.eval x) (a.eval y); binOp op t (a.eval x) (a.eval y))))) v := by
        intro b hb hz hv
        have hno : (∀ cs, a.eval x ≠ .agg cs) ∧ (∀ k n, a.eval x ≠ .int k n) ∧ (∀ k n, a.eval x ≠ .float k n) ∧ (∀ k n m, a.eval x ≠ .complex k n m) ∧ (∀ z, a.eval x ≠ .string z) := by
          refine ⟨fun _ e => ?_, fun _ _ e => ?_, fun _ _ e => ?_, fun _ _ _ e => ?_, fun _ e => ?_⟩ <;> (rw [e] at hb; cases d <;> simp [nilAns] at hb)
        obtain ⟨h1, h2⟩ := binOp_eql (P := P) (w := w) (equalIn_nil hu 9999 w hb) hno.2.1 hno.2.2.1 hno.2.2.2.1 hno.2.2.2.2
        subst hv
        refine Yld.v (u := .bool (if neg then !b else b)) ?_ (sim_mk rfl)
        rw [Sem.run_bind, eqGuard_atom hno.1 (fun _ => hz), Result.andThen_ok]
        subst hop
        cases neg
        · exact h1
        · exact h2
      simp only [eop] at he
      have tt : v = abool (!neg) → v = abool (if neg then !true else true) := by intro e; rw [e]; cases neg <;> rfl
      have ff : v = abool neg → v = abool (if neg then !false else false) := by intro e; rw [e]; cases neg <;> rfl
      unfold nilKind at hk
      split at hk <;> first | (cases hk; done) | skip
      all_goals (injection hk with hk; subst hk; split at he <;> first | (cases he; done) | skip)
      all_goals first
        | (rename_i hk' _; cases hk'; done)
        | (rename_i hk' _ _; cases hk'; done)
        | skip
      all_goals (replace he := (Option.some.inj he).symm)
      all_goals first
        | (rename_i hb; have hp := (sim_atom (h.evs hx hb)).1; exact fin (by rw [hp]; rfl) ⟨_, rfl⟩ (tt he))
        | (rename_i hb; have hp := h.evs hx hb; simp only [SimV] at hp; obtain ⟨_, _, l, e, _⟩ := hp; exact fin (by rw [e]; rfl) ⟨_, rfl⟩ (ff he))
        | (rename_i hb; have hp := h.evs hx hb; simp only [SimV] at hp; obtain ⟨_, blk, off, e, _⟩ := hp; exact fin (by rw [e]; rfl) ⟨_, rfl⟩ (ff he))
        | (rename_i hb; have hp := h.evs hx hb; simp only [SimV] at hp; obtain ⟨us, vs, e, _⟩ := hp; exact fin (by rw [e]; rfl) ⟨_, rfl⟩ (ff he))
        | (rename_i hb; have hp := h.evs hx hb; simp only [SimV] at hp; obtain ⟨us, e, _⟩ := hp; exact fin (by rw [e]; rfl) ⟨_, rfl⟩ (ff he))
        | (rename_i hb; have hp := h.evs hx hb; simp only [SimV] at hp; obtain ⟨ad, cap, e, _, _, _, hor⟩ := hp
           rcases hor with hor | ⟨sz, blk, off, ea, _⟩
           · cases hor
           · exact fin (by rw [e, ea]; rfl) ⟨_, rfl⟩ (ff he))
    split at hc
    · rename_i k x' hk hx
      injection hc with hc; subst hc
      exact key hk hx he rfl
    · rename_i k x' hk hx
      injection hc with hc; subst hc
      exact key hk hx he rfl
    · cases hc
  · cases hc
end Go.Abs
