/- One operation of a row, in the calculus of walks. -/
import Derived.Test.YtmbleldjdhkkeaaFwAC
set_option linter.unusedSimpArgs false
set_option linter.unusedVariables false
namespace Go.Abs
open Go.RowKit
variable {P : Program} {wr : FuncId → Bool} {c : Ctx} {w : World} {G : Nat → Option (List AVal)} {s : AState} {a : Act}

/-- Nothing is fenced; within a round or not. -/
def WF (ro : Option Nat) : Fence := { Fence.wide with round := ro }

/-- What is known of calls. -/
def UponOk (P : Program) (wr : FuncId → Bool) (G : Nat → Option (List AVal)) (callv : AVal → List AVal → Store → Option (AVal × Store)) : Prop :=
  ∀ (fv : AVal) (args : List AVal) (σ : Store) (r : AVal × Store) (c : Ctx) (w : World) (fu : Value) (us : List Value) (o : Oper) (ro : Option Nat) (m : Nat) (K : Act → World → Prop) (Q : Exit → Act → World → Prop) (a : Act),
    callv fv args σ = some r → GOk G c w → SimS P wr c w σ → SimV c w fv fu → SimL c w args us →
    (∀ c' w' u, Left P wr c w r.1 r.2 c' w' u → K (a.put o.dst u) w') →
    o.uponIn (WF ro) m P a K Q ((do let d ← Deferred.ofValue fu us.toArray; invoke d.target d.args).run P w)

theorem markV_length (σ : Store) (v : AVal) : (markV σ v).length = σ.length := by
  unfold markV
  split
  · split <;> simp
  · rfl
theorem markL_length : ∀ (vs : List AVal) (σ : Store), (markL σ vs).length = σ.length
  | [], σ => rfl
  | v :: vs, σ => by simp only [markL]; rw [markL_length vs, markV_length]
theorem markT_length : ∀ (vs : List AVal) (σ : Store), (mark.markT σ vs).length = σ.length
  | [], σ => rfl
  | v :: vs, σ => by
    unfold mark.markT
    split
    · rename_i h; cases h
    · rename_i cs vs' e; injection e with e1 e2; subst e1; subst e2; rw [markT_length vs, markL_length]
    · rename_i e; injection e with e1 e2; subst e1; subst e2; rw [markT_length vs, markV_length]
theorem mark_length (σ : Store) (v : AVal) : (mark σ v).length = σ.length := by
  unfold mark
  split
  · exact markL_length _ _
  · exact markT_length _ _
  · exact markV_length _ _
theorem markArgs_length : ∀ (vs : List AVal) (σ : Store), (markArgs σ vs).length = σ.length
  | [], σ => rfl
  | v :: vs, σ => by simp only [markArgs]; rw [markArgs_length vs, mark_length]

theorem compOp_defer {app : List (Nat × Nat)} {d : Option Nat} {site : Nat} {o : Op} {r : AOp × Nat} (h : compOp P app d site o = some r) : ∀ c, o ≠ .defer c := by
  intro c e; subst e; simp [compOp] at h

variable {callv : AVal → List AVal → Store → Option (AVal × Store)} {raw : FuncId → Bool}

theorem wpIn_of {o : Oper} {ro : Option Nat} {m : Nat} {K : Act → World → Prop} {Q : Exit → Act → World → Prop} (hd : ∀ c, o.op ≠ .defer c) (h : o.uponIn (WF ro) m P a K Q ((execOp a.eval o).run P w)) : o.wpIn (WF ro) m P a w K Q :=
  ⟨fun _ _ => trivial, by rw [Oper.semAt_eq _ _ _ hd]; exact h⟩

theorem upon_yldC {o : Oper} {ro : Option Nat} {m : Nat} {K : Act → World → Prop} {Q : Exit → Act → World → Prop} {x : Sem Next} {r : AVal × Store} (h : YldC P wr c w x r)
    (hK : ∀ c' w' u, CtxLe c c' → c'.D = c.D → Kept c.K w w' → SimS P wr c' w' r.2 → SimV c' w' r.1 u → K (a.put o.dst u) w') : o.uponIn (WF ro) m P a K Q (x.run P w) := by
  obtain ⟨nx, u, c', w', h1, h2, h3, h4, h5, h6, h7⟩ := h
  rw [h1]
  rcases h2 with rfl | ⟨rfl, rfl⟩
  · exact hK c' w' u h3 h4 h5 h6 h7
  · exact hK c' w' undef h3 h4 h5 h6 h7

theorem call_ok {o : Oper} {ro : Option Nat} {m : Nat} {K : Act → World → Prop} {Q : Exit → Act → World → Prop} (hcall : UponOk P wr G callv) (h : Fr P wr G c w s a) {f : Operand} {args : Array Operand} {ts : Array TypeId} {f' : AOpd} {xs : List AOpd} {site : Nat} {r : AVal × Store}
    (ho : o.op = .call { callee := .value f, args, argTypes := ts }) (hf : compOpd f = some f') (hx : compOpds args.toList = some xs) (he : cop G callv raw s (.call site f' xs) = some r)
    (hK : ∀ c' w' u, CtxLe c c' → c'.D = c.D → Kept c.K w w' → SimS P wr c' w' r.2 → SimV c' w' r.1 u → K (a.put o.dst u) w') : o.uponIn (WF ro) m P a K Q ((execOp a.eval o).run P w) := by
  have hrun : (execOp a.eval o).run P w = (do let d ← Deferred.ofValue (a.eval f) (args.toList.map a.eval).toArray; invoke d.target d.args).run P w := by
    have e : (args.toList.map a.eval).toArray = args.map a.eval := by apply Array.ext'; simp
    rw [e]
    simp only [execOp, ho, resolve]
  rw [hrun]
  have hL := evL_sim h.G h.tm hx (s := s)
  have hfv := h.ev hf
  simp only [cop] at he
  split at he
  · rw [Option.bind_eq_some_iff] at he
    obtain ⟨⟨r1, σ1⟩, hc, hr⟩ := he
    refine hcall _ _ _ _ c w _ _ o ro m K Q a hc h.G h.σ hfv hL fun c' w' u hl => ?_
    obtain ⟨c'', g1, g2, g3, g4, g5⟩ := recv_ok h.σ.n hl hr
    exact hK c'' w' u g1 g2 g3 g4 g5
  · split at he
    · rename_i as' has
      rw [Option.bind_eq_some_iff] at he
      obtain ⟨⟨r1, σ1⟩, hc, hr⟩ := he
      obtain ⟨c1, k1, k2, k3, k4, k5⟩ := markArgs_ok h.σ hL has
      refine hcall _ _ _ _ c1 w _ _ o ro m K Q a hc (h.G.mono k1 (Kept.refl _ w)) k4 (SimV.mono k1 (Kept.refl _ w) _ _ hfv) k5 fun c' w' u hl => ?_
      obtain ⟨c'', g1, g2, g3, g4, g5⟩ := recv_ok (k2.trans h.σ.n) hl hr
      refine hK c'' w' u (k1.trans g1) (g2.trans k3) (g3.mono fun i hi => ?_) g4 g5
      rcases hi with hi | hi
      · exact .inl (k1.F i hi)
      · exact .inr (k3 ▸ hi)
    · cases he

theorem telem_spec {t e : TypeId} (h : telem P t = some e) : P.underlying t = some (.slice e) := by
  unfold telem at h
  split at h
  · rename_i e' hu; injection h with h; subst h; exact hu
  · cases h

/-- What an operation comes to. -/
theorem op_ok {o : Oper} {ro : Option Nat} {m : Nat} {K : Act → World → Prop} {Q : Exit → Act → World → Prop} (hcall : UponOk P wr G callv) (h : Fr P wr G c w s a) {app : List (Nat × Nat)} (happ : ∀ p ∈ app, 0 < p.2) {site site' : Nat} {aop : AOp} {r : AVal × Store}
    (hc : compOp P app o.dst site o.op = some (aop, site')) (he : stepOp G callv raw s aop = some r)
    (hK : ∀ c' w' u, CtxLe c c' → c'.D = c.D → Kept c.K w w' → SimS P wr c' w' r.2 → SimV c' w' r.1 u → K (a.put o.dst u) w') : o.wpIn (WF ro) m P a w K Q := by
  refine wpIn_of (compOp_defer hc) ?_
  unfold stepOp at he
  split at he
  · rename_i hE
    rw [Option.map_eq_some_iff] at he
    obtain ⟨v, hv, rfl⟩ := he
    obtain ⟨u, h1, h2⟩ := eop_ok h hc hE hv
    rw [h1]
    exact hK c w u (CtxLe.refl c) rfl (Kept.refl _ _) h.σ h2
  · rename_i hE
    have key : ∀ {x : Sem Next}, YldC P wr c w x r → execOp a.eval o = x → o.uponIn (WF ro) m P a K Q ((execOp a.eval o).run P w) := fun hy e => by rw [e]; exact upon_yldC hy hK
    have no : ∀ {y : AOp}, y = aop → y.isE = true → o.uponIn (WF ro) m P a K Q ((execOp a.eval o).run P w) := fun e hy => absurd (e ▸ hy) hE
    unfold compOp at hc
    split at hc
    case h_1 x ho =>
      rw [Option.map_eq_some_iff] at hc
      obtain ⟨y, hy, hc⟩ := hc
      injection hc with hc _; exact no hc rfl
    case h_2 x ho =>
      split at hc
      · rename_i d hd
        split at hc
        · rename_i p sz hp
          injection hc with hc; injection hc with hc _; subst hc
          refine key (nown_ok h (happ _ (List.mem_of_find?_eq_some hp)) he) ?_
          simp only [execOp, ho]
          simp [Act.eval]
        · rw [Option.map_eq_some_iff] at hc
          obtain ⟨y, hy, hc⟩ := hc
          injection hc with hc _; exact no hc rfl
      · rw [Option.map_eq_some_iff] at hc
        obtain ⟨y, hy, hc⟩ := hc
        injection hc with hc _; exact no hc rfl
    case h_3 x y z ho =>
      split at hc <;> first | (cases hc; done) | skip
      injection hc with hc; injection hc with hc _; exact no hc rfl
    case h_4 t ho =>
      split at hc
      · rename_i z n hz hn
        split at hc
        · injection hc with hc; injection hc with hc _; subst hc
          refine key (alloc_ok h hz he) ?_
          simp only [execOp, ho]
        · cases hc
      · cases hc
    case h_5 t x ho =>
      rw [Option.map_eq_some_iff] at hc
      obtain ⟨y, hy, hc⟩ := hc
      injection hc with hc _; subst hc
      simp only [cop] at he
      rw [chk_some] at he
      refine key (box_ok (t := t) h hy he.1 he.2) ?_
      simp only [execOp, ho]
    case h_6 t ps ho =>
      split at hc
      · split at hc
        · rw [Option.map_eq_some_iff] at hc
          obtain ⟨qs, hq, hc⟩ := hc
          injection hc with hc _; exact no hc rfl
        · cases hc
      · split at hc
        · split at hc
          · cases hc
          · rw [Option.map_eq_some_iff] at hc
            obtain ⟨qs, hq, hc⟩ := hc
            injection hc with hc _; exact no hc rfl
        · cases hc
      · cases hc
    case h_7 t n ps ho =>
      split at hc <;> first | (cases hc; done) | skip
      rename_i e ht
      split at hc <;> first | (cases hc; done) | skip
      rename_i z k qs hz hk hq
      split at hc <;> first | (cases hc; done) | skip
      rename_i hcond
      injection hc with hc; injection hc with hc _; subst hc
      refine key (bsl_ok h (telem_spec ht) hk hz hcond.1 hcond.2.1 hcond.2.2 hq he) ?_
      simp only [execOp, ho]
    case h_8 t x ho =>
      split at hc <;> first | (cases hc; done) | skip
      injection hc with hc; injection hc with hc _; exact no hc rfl
    case h_9 t x y ho =>
      split at hc
      · rename_i n x' y' hn hx hy
        injection hc with hc; injection hc with hc _; subst hc
        refine key (st_ok h hn hx hy he) ?_
        simp only [execOp, ho]
      · cases hc
    case h_10 x ho =>
      rw [Option.map_eq_some_iff] at hc
      obtain ⟨y, hy, hc⟩ := hc
      injection hc with hc _; exact no hc rfl
    case h_11 op t x y t' ho =>
      rw [Option.map_eq_some_iff] at hc
      obtain ⟨y', hy, hc⟩ := hc
      injection hc with hc _
      refine no hc ?_
      unfold compBin at hy
      repeat' split at hy
      all_goals first | (cases hy; done) | (injection hy with hy; subst hy; rfl) | (simp at *; done)
    case h_12 op t x ho =>
      rw [Option.map_eq_some_iff] at hc
      obtain ⟨y, hy, hc⟩ := hc
      injection hc with hc _; exact no hc rfl
    case h_13 q d x ho =>
      unfold compConv at hc
      split at hc
      · injection hc with hc; injection hc with hc _; exact no hc rfl
      · injection hc with hc; injection hc with hc _; exact no hc rfl
      · split at hc
        · injection hc with hc; injection hc with hc _; exact no hc rfl
        · cases hc
      · split at hc
        · cases hc
        · cases hc
      · rename_i e x' hs hd hx
        split at hc
        · rename_i he8 _
          injection hc with hc; injection hc with hc _; subst hc
          refine key (s2b_ok h hs hd he8 hx he) ?_
          simp only [execOp, ho]
        · cases hc
      · cases hc
    case h_14 t x ho =>
      split at hc
      · cases hc
      · injection hc with hc; injection hc with hc _; exact no hc rfl
      · cases hc
    case h_15 f first cap ho =>
      split at hc <;> first | (cases hc; done) | skip
      injection hc with hc; injection hc with hc _; exact no hc rfl
    case h_16 t x y ho =>
      split at hc <;> first | (cases hc; done) | skip
      rename_i e ht
      split at hc <;> first | (cases hc; done) | skip
      rename_i z n b l c' hz hn hb hl hc'
      split at hc <;> first | (cases hc; done) | skip
      rename_i hcond
      injection hc with hc; injection hc with hc _; subst hc
      refine key (mksl_ok h (telem_spec ht) hz hn hb hcond.1 hcond.2 hl hc' he) ?_
      simp only [execOp, ho]
    case h_17 t x l hh m ho =>
      split at hc <;> first | (cases hc; done) | skip
      rename_i e ht
      split at hc <;> first | (cases hc; done) | skip
      rename_i k y l' h' m' hk hx hl hh' hm
      split at hc <;> first | (cases hc; done) | skip
      rename_i hcond
      split at hc
      · injection hc with hc; injection hc with hc _; subst hc
        simp only [Bool.and_eq_true, decide_eq_true_eq] at hcond
        rename_i p q _
        refine key (slc0_ok (p := p) (q := q) h (telem_spec ht) hk hcond.1 hx he) ?_
        simp only [execOp, ho]
        rfl
      · injection hc with hc; injection hc with hc _; exact no hc rfl
    case h_18 t x f ho =>
      split at hc <;> first | (cases hc; done) | skip
      injection hc with hc; injection hc with hc _; exact no hc rfl
    case h_19 t x f ho =>
      split at hc <;> first | (cases hc; done) | skip
      injection hc with hc; injection hc with hc _; exact no hc rfl
    case h_20 t x i ho =>
      split at hc
      · split at hc
        · split at hc
          · injection hc with hc; injection hc with hc _; exact no hc rfl
          · cases hc
        · cases hc
      · split at hc
        · split at hc
          · cases hc
          · injection hc with hc; injection hc with hc _; exact no hc rfl
        · cases hc
      · cases hc
    case h_21 t x i ho =>
      split at hc
      · split at hc
        · split at hc
          · cases hc
          · injection hc with hc; injection hc with hc _; exact no hc rfl
        · cases hc
      · cases hc
    case h_22 => split at hc <;> simp at hc
    case h_23 => split at hc <;> simp at hc
    case h_24 => split at hc <;> simp at hc
    case h_25 x i ho =>
      rw [Option.map_eq_some_iff] at hc
      obtain ⟨y, hy, hc⟩ := hc
      injection hc with hc _; exact no hc rfl
    case h_26 args ts ho =>
      split at hc
      · split at hc
        · injection hc with hc; injection hc with hc _; exact no hc rfl
        · injection hc with hc; injection hc with hc _; exact no hc rfl
        · cases hc
      · cases hc
    case h_27 args ts ho =>
      rw [Option.map_eq_some_iff] at hc
      obtain ⟨y, hy, hc⟩ := hc
      injection hc with hc _; exact no hc rfl
    case h_28 args ts ho =>
      rw [Option.map_eq_some_iff] at hc
      obtain ⟨y, hy, hc⟩ := hc
      injection hc with hc _; exact no hc rfl
    case h_29 args ts ho =>
      split at hc <;> first | (cases hc; done) | skip
      rename_i x y t u hx ht
      have hargs : args = #[x, y] := Array.ext' (by simpa using hx)
      have hts : ts = #[t, u] := Array.ext' (by simpa using ht)
      subst hargs; subst hts
      obtain ⟨cs, hrun⟩ := run_builtin_op (P := P) (w := w) (a := a) ho
      have fin : ∀ {e : TypeId} {d : TypeDesc} {x' y' : AOpd} {k b : Nat} {z : AVal}, telem P t = some e → P.underlying u = some d → (∀ q, d ≠ .int q) → compOpd x = some x' → compOpd y = some y' → tsize P e = some k → tbytes P e = some b → tzero P e = some z → z.cells.length = k → 0 < k →
          aop = .app site b k x' y' → o.uponIn (WF ro) m P a K Q ((execOp a.eval o).run P w) := by
        intro e d x' y' k b z g1 g2 g3 g4 g5 g6 g7 g8 g9 g10 e1
        subst e1
        rw [hrun]
        have := app_ok (ty := o.type) (consts := cs) h (telem_spec g1) g2 g3 g6 g7 g8 g9 g10 g4 g5 he
        rw [show Array.map a.eval #[x, y] = #[a.eval x, a.eval y] by simp]
        exact upon_yldC this hK
      split at hc <;> first | (cases hc; done) | skip
      all_goals
        rename_i g1 g2 g3 g4
        split at hc <;> first | (cases hc; done) | skip
        rename_i g6 g7 g8
        split at hc <;> first | (cases hc; done) | skip
        rename_i hcond
        injection hc with hc; injection hc with hc _
        exact fin g1 g2 (by simp) g3 g4 g6 g7 g8 hcond.2.2 hcond.1 hc.symm
    case h_30 f args ts ho =>
      split at hc
      · rename_i f' xs hf hx
        injection hc with hc; injection hc with hc _; subst hc
        exact call_ok hcall h ho hf hx he hK
      · cases hc
    case h_31 => cases hc
end Go.Abs
