/- A variable is written; what a call hands back. -/
import Derived.Test.YtmbleldjdhkkeaaFwX
set_option linter.unusedSimpArgs false
set_option linter.unusedVariables false
namespace Go.Abs
open Go.RowKit
variable {P : Program} {wr : FuncId → Bool} {c : Ctx} {w : World} {G : Nat → Option (List AVal)} {s : AState} {a : Act}

theorem setU_get : ∀ (vs us : List Value) (off : Nat), off + vs.length ≤ us.length → ∀ i, (setU us off vs)[i]? = if off ≤ i ∧ i < off + vs.length then vs[i - off]? else us[i]?
  | [], us, off, _, i => by
    simp only [setU, List.length_nil, Nat.add_zero]
    rw [if_neg (by omega)]
  | v :: vs, us, off, h, i => by
    simp only [List.length_cons] at h
    simp only [setU]
    rw [setU_get vs (us.set off v) (off + 1) (by simp; omega)]
    by_cases h1 : off + 1 ≤ i ∧ i < off + 1 + vs.length
    · rw [if_pos h1, if_pos (by simp; omega), show i - off = (i - (off + 1)) + 1 by omega, List.getElem?_cons_succ]
    · rw [if_neg h1]
      by_cases h2 : i = off
      · subst h2
        rw [if_pos (by simp), Nat.sub_self, List.getElem?_set_self (by omega)]; rfl
      · rw [if_neg (by simp only [List.length_cons]; omega), List.getElem?_set_ne (fun e => h2 e.symm)]
theorem setC_pure : ∀ {vs cs : List AVal} {off : Nat}, pureL cs = true → pureL vs = true → pureL (setC cs off vs) = true
  | [], cs, off, h, _ => h
  | v :: vs, cs, off, h, h' => by
    have hv : pureV v = true ∧ pureL vs = true := by simpa [pureL] using h'
    simp only [setC]
    refine setC_pure ?_ hv.2
    have : ∀ (l : List AVal) (i : Nat), pureL l = true → pureL (l.set i v) = true := by
      intro l
      induction l with
      | nil => intro i h; simpa using h
      | cons q l ih =>
        intro i h
        have hq : pureV q = true ∧ pureL l = true := by simpa [pureL] using h
        cases i with
        | zero => simpa [pureL, hv.1] using hq.2
        | succ i => simpa [pureL, hq.1] using ih i hq.2
    exact this cs off h

/-- An element with other cells. -/
theorem recell_sim {e : AVal} {u : Value} {cs2 : List AVal} {us2 : List Value} (h : SimV c w e u) (hp : pureV e = true) (hu : ∀ x ∈ u.cells.toList, oneC x = true) (hL : SimL c w cs2 us2) (hlen : cs2.length = e.cells.length) (ho : ∀ x ∈ us2, oneC x = true) (hpu : pureL cs2 = true) :
    ∃ u', SimV c w (cop.recell e cs2) u' ∧ u'.cells = us2.toArray ∧ pureV (cop.recell e cs2) = true := by
  cases e with
  | agg cs =>
    refine ⟨.agg us2.toArray, ?_, rfl, by simpa [cop.recell, pureV] using hpu⟩
    simp only [cop.recell, SimV]
    exact ⟨us2, rfl, hL, ho⟩
  | tup vs =>
    exfalso
    simp only [SimV] at h
    obtain ⟨us, rfl, hs⟩ := h
    have := hu (.tuple us.toArray) (by simp [Value.cells])
    simp [oneC, Value.oneCell'] at this
  | any => simp [pureV] at hp
  | _ =>
    obtain ⟨q, rfl⟩ := List.length_eq_one_iff.1 (show cs2.length = 1 by simpa [AVal.cells] using hlen)
    simp only [SimL] at hL
    obtain ⟨x, xs, rfl, hx, rfl⟩ := hL
    have hox := ho x (by simp)
    refine ⟨x, by simpa [cop.recell] using hx, ?_, by simpa [cop.recell, pureL] using hpu⟩
    cases x <;> first | rfl | simp [oneC, Value.oneCell'] at hox

theorem st_ok (h : Fr P wr G c w s a) {t : TypeId} {n : Nat} {x y : Operand} {x' y' : AOpd} {r : AVal × Store} {call : AVal → List AVal → Store → Option (AVal × Store)} {raw : FuncId → Bool} (hn : tsize P t = some n) (hx : compOpd x = some x') (hy : compOpd y = some y')
    (he : cop G call raw s (.st n x' y') = some r) : YldC P wr c w (do Instr.storeAt t (a.eval x) (a.eval y); pure .skip) r := by
  simp only [cop] at he
  rw [chk_some] at he
  obtain ⟨⟨hsz, hone⟩, he⟩ := he
  obtain ⟨hL, ho⟩ := (h.ev hy).cells hone
  split at he
  · rename_i b ver off hb
    split at he
    · rename_i v cs hbox
      rw [chk_some] at he
      obtain ⟨⟨rfl, hle⟩, he⟩ := he
      injection he with he; subst he
      have hp := h.evs hx hb
      simp only [SimV] at hp
      obtain ⟨hlt, hv, ad, e, had⟩ := hp
      obtain ⟨h1, h2, us, t', hheap, hL', ho'⟩ := h.σ.box b _ hbox
      obtain rfl := had h1.symm
      have hlen := hL'.length
      have hlen2 := hL.length
      have hsize : (a.eval y).cells.size = n := by simpa [hsz] using hlen2
      have hrun := run_storeRow (P := P) (b := c.ρ b) (o := off) (i := 0) (vs := (a.eval y).cells.toList) hheap (fun o _ => by simp) (by rw [hlen2, hsz]; omega) ho
      have hblt : b < s.σ.length := (List.getElem?_eq_some_iff.1 hbox).1
      have hlt' : c.ρ b < w.heap.size := (Array.getElem?_eq_some_iff.1 hheap).1
      have hrun' : (Instr.storeAt t (a.eval x) (a.eval y)).run P w = .ok () (if (a.eval y).cells.toList = [] then w else layAt w (c.ρ b) (.cells (setU us (off + 0) (a.eval y).cells.toList).toArray t' (0, 0))) := by
        unfold Instr.storeAt
        rw [e]
        simp only [Instr.sureAddr, Sem.run_bind, Sem.run_pure, Result.andThen_ok, storeVar, run_tsize hn]
        rw [if_neg (by simp [hsize])]
        exact hrun
      by_cases hz : (a.eval y).cells.toList = []
      · rw [if_pos hz] at hrun'
        have hz' : (ev G s y').cells = [] := by rw [hz] at hL; cases hc : (ev G s y').cells with
          | nil => rfl
          | cons q qs => rw [hc] at hL; simp [SimL] at hL
        refine ⟨.skip, undef, c, w, by rw [Sem.run_bind, hrun', Result.andThen_ok]; rfl, .inr ⟨rfl, rfl⟩, CtxLe.refl c, rfl, Kept.refl _ _, ?_, by simp only [SimV]; exact ⟨[], rfl, by simp [SimL]⟩⟩
        have : s.σ.set b (.var v (setC cs off (ev G s y').cells)) = s.σ := by
          rw [hz']
          apply List.ext_getElem?
          intro i
          by_cases ei : b = i
          · subst ei; rw [List.getElem?_set_self hblt, hbox]; rfl
          · rw [List.getElem?_set_ne ei]
        show SimS P wr c w (s.σ.set b (.var v (setC cs off (ev G s y').cells)))
        rw [this]; exact h.σ
      · rw [if_neg hz] at hrun'
        have hD := h.σ.dis b _ hbox trivial
        have hk : Kept c.K w (layAt w (c.ρ b) (.cells (setU us (off + 0) (a.eval y).cells.toList).toArray t' (0, 0))) := layAt_kept _ _ _ (fun hK => hK.elim h2 hD) (fun r hr => by rw [hheap] at hr; cases hr)
        refine ⟨.skip, undef, c, _, by rw [Sem.run_bind, hrun', Result.andThen_ok]; rfl, .inr ⟨rfl, rfl⟩, CtxLe.refl c, rfl, hk, ?_, by simp only [SimV]; exact ⟨[], rfl, by simp [SimL]⟩⟩
        refine h.σ.upd hbox (CtxLe.refl c) (fun _ => Iff.rfl) rfl rfl (fun _ _ => ⟨rfl, rfl, rfl, rfl, rfl⟩) hk.F (fun i hi hne => ?_) (fun _ => ⟨.inr (.inl ⟨rfl, trivial⟩), h2⟩) (fun hno => absurd trivial hno) ?_
        · rw [layAt_get, if_neg (fun hh => hne hh.1)]
        · refine ⟨h1, h2, _, t', by rw [layAt_get, if_pos ⟨rfl, hlt'⟩], ?_, setU_one ho' ho⟩
          rw [Nat.add_zero]
          exact setC_sim (SimL.mono (CtxLe.refl c) hk.F _ _ hL') (SimL.mono (CtxLe.refl c) hk.F _ _ hL)
    · cases he
  · rename_i b ver i off hb
    split at he
    · rename_i v k es hbox
      rw [chk_some] at he
      obtain ⟨rfl, he⟩ := he
      rw [Option.bind_eq_some_iff] at he
      obtain ⟨e, hei, he⟩ := he
      rw [chk_some] at he
      obtain ⟨⟨hle, hpu⟩, he⟩ := he
      injection he with he; subst he
      have hp := h.evs hx hb
      simp only [SimV] at hp
      obtain ⟨hlt, hv, ad, e1, had⟩ := hp
      obtain ⟨h1, h2, h3, h4, h5, h6⟩ := h.σ.box b _ hbox
      obtain ⟨hnb, hicp, rfl⟩ := had h1.symm
      have hA := h6 hnb
      obtain ⟨cs, t', fr, hheap, hcsz, hfr, hone', hE⟩ := hA.row
      have hlen2 := hL.length
      have hsize : (a.eval y).cells.size = n := by simpa [hsz] using hlen2
      obtain ⟨u, g1, g2⟩ := hE.get i e hei
      rw [Nat.zero_add] at g2
      have hpe := pureL_get h4 i e hei
      obtain ⟨us, rfl, hLe, hule, hrow, hoe⟩ := CellsAt.sim g1 g2 hpe
      have hil : i < es.length := (List.getElem?_eq_some_iff.1 hei).1
      have hcl : e.cells.length = k := by have := hLe.length; omega
      have hcs : cs = cs.toList.toArray := by simp
      rw [hcs] at hheap
      have hbound : i * k + k ≤ cs.toList.length := by
        rw [Array.length_toList, hcsz, ← Nat.succ_mul]
        exact Nat.mul_le_mul_right _ (by omega)
      have hrun := run_storeRow (P := P) (b := c.ρ b) (o := i * k + off) (i := 0) (vs := (a.eval y).cells.toList) hheap (by simpa using hfr) (by rw [hlen2, hsz]; omega) ho
      have hblt : b < s.σ.length := (List.getElem?_eq_some_iff.1 hbox).1
      have hlt' : c.ρ b < w.heap.size := (Array.getElem?_eq_some_iff.1 hheap).1
      have hrun' : (Instr.storeAt t (a.eval x) (a.eval y)).run P w = .ok () (if (a.eval y).cells.toList = [] then w else layAt w (c.ρ b) (.cells (setU cs.toList (i * k + off + 0) (a.eval y).cells.toList).toArray t' fr)) := by
        unfold Instr.storeAt
        rw [e1]
        simp only [Instr.sureAddr, Sem.run_bind, Sem.run_pure, Result.andThen_ok, storeVar, run_tsize hn]
        rw [if_neg (by simp [hsize]), h2]
        exact hrun
      have hFr : ¬ c.F (c.ρ b) := fun hf => by have := hA.frz.1 hf; cases this
      have hD := h.σ.dis b _ hbox hnb
      obtain ⟨u', r1, r2, r3⟩ := recell_sim g1 hpe hoe (setC_sim (off := off) hLe hL) (by rw [setC_length]) (setU_one hoe ho) (setC_pure (pureV_cells hpe) hpu)
      have hw : ∃ w', (Instr.storeAt t (a.eval x) (a.eval y)).run P w = .ok () w' ∧ Kept c.K w w' ∧ (∀ j, j < w.heap.size → j ≠ c.ρ b → w'.heap[j]? = w.heap[j]?) ∧ w'.heap[c.ρ b]? = some (.cells (setU cs.toList (i * k + off) (a.eval y).cells.toList).toArray t' fr) := by
        by_cases hz : (a.eval y).cells.toList = []
        · rw [if_pos hz] at hrun'
          refine ⟨w, hrun', Kept.refl _ _, fun _ _ _ => rfl, ?_⟩
          rw [hz]; exact hheap
        · rw [if_neg hz] at hrun'
          refine ⟨_, hrun', layAt_kept _ _ _ (fun hK => hK.elim hFr hD) (fun r hr => by rw [hheap] at hr; cases hr), fun j hj hne => by rw [layAt_get, if_neg (fun hh => hne hh.1)], ?_⟩
          rw [layAt_get, if_pos ⟨rfl, hlt'⟩, Nat.add_zero]
      obtain ⟨w', hrun2, hk, hother, hnew⟩ := hw
      refine ⟨.skip, undef, c, w', by rw [Sem.run_bind, hrun2, Result.andThen_ok]; rfl, .inr ⟨rfl, rfl⟩, CtxLe.refl c, rfl, hk, ?_, by simp only [SimV]; exact ⟨[], rfl, by simp [SimL]⟩⟩
      refine h.σ.upd hbox (CtxLe.refl c) (fun _ => Iff.rfl) rfl rfl (fun _ _ => ⟨rfl, rfl, rfl, rfl, rfl⟩) hk.F hother (fun _ => ⟨.inr (.inl ⟨rfl, hnb⟩), hFr⟩) (fun hno => absurd hnb hno) ?_
      have hpes : pureL (es.set i (cop.recell e (setC e.cells off (ev G s y').cells))) = true := by
        have : ∀ (l : List AVal) (i : Nat), pureL l = true → pureL (l.set i (cop.recell e (setC e.cells off (ev G s y').cells))) = true := by
          intro l
          induction l with
          | nil => intro i h; simpa using h
          | cons q l ih =>
            intro i h
            have hq : pureV q = true ∧ pureL l = true := by simpa [pureL] using h
            cases i with
            | zero => simpa [pureL, r3] using hq.2
            | succ i => simpa [pureL, hq.1] using ih i hq.2
        exact this es i h4
      refine ⟨h1, h2, h3, hpes, fun hn => (by rw [hnb] at hn; cases hn), fun _ => ⟨⟨fun hf => absurd hf hFr, fun hf => by cases hf⟩, by simpa using hA.len, _, t', fr, hnew, by simpa [setU_length] using hcsz, by simpa [setU_length] using hfr, ?_, ?_⟩⟩
      · intro x hx
        exact setU_one (cs := cs.toList) (off := i * k + off) (fun q hq => hone' q (by simpa using hq)) ho x (by simpa using hx)
      · refine SimE.mk fun j q hj => ?_
        rw [Nat.zero_add]
        have hvl : (a.eval y).cells.toList.length = n := by simpa using hsize
        have hget : ∀ m x, (setU cs.toList (i * k + off) (a.eval y).cells.toList)[m]? = some x → w'.cell? ⟨c.ρ b, m, none⟩ = some x ∧ oneC x = true := by
          intro m x hm
          refine ⟨?_, setU_one (cs := cs.toList) (fun q hq => hone' q (by simpa using hq)) ho x (List.mem_of_getElem? hm)⟩
          simp only [World.cell?, hnew]
          simpa using hm
        by_cases hji : j = i
        · subst hji
          rw [List.getElem?_set_self hil] at hj
          injection hj with hj; subst hj
          refine ⟨u', SimV.pure (fun _ hf => hf) hk.F _ _ r3 r1, by rw [r2]; simp [setU_length]; exact g2.1, fun m x hm => hget _ x ?_⟩
          rw [r2] at hm
          have hm' : (setU u.cells.toList off (a.eval y).cells.toList)[m]? = some x := by simpa using hm
          have hmk : m < k := by
            have := (List.getElem?_eq_some_iff.1 hm').1
            rw [setU_length] at this; omega
          rw [setU_get _ _ _ (by rw [hvl]; omega)] at hm' ⊢
          rw [hvl] at hm' ⊢
          by_cases hin : off ≤ m ∧ m < off + n
          · rw [if_pos hin] at hm'
            rw [if_pos (by omega), show j * k + m - (j * k + off) = m - off by omega]
            exact hm'
          · rw [if_neg hin] at hm'
            rw [if_neg (by omega)]
            have h0 := (g2.2 m x (by simpa using hm')).1
            simp only [World.cell?, hheap] at h0
            simpa using h0
        · rw [List.getElem?_set_ne (fun e => hji e.symm)] at hj
          obtain ⟨uj, q1, q2⟩ := hE.get j q hj
          rw [Nat.zero_add] at q2
          refine ⟨uj, SimV.pure (fun _ hf => hf) hk.F _ _ (pureL_get h4 j q hj) q1, q2.1, fun m x hm => hget _ x ?_⟩
          have hmk : m < k := by have := (Array.getElem?_eq_some_iff.1 hm).1; have := q2.1; omega
          rw [setU_get _ _ _ (by rw [hvl]; omega), if_neg]
          · have h0 := (q2.2 m x hm).1
            simp only [World.cell?, hheap] at h0
            simpa using h0
          · rw [hvl]
            intro ⟨b1, b2⟩
            rcases Nat.lt_or_gt_of_ne hji with hlt | hgt
            · have : (j + 1) * k ≤ i * k := Nat.mul_le_mul_right _ hlt
              rw [Nat.succ_mul] at this; omega
            · have : (i + 1) * k ≤ j * k := Nat.mul_le_mul_right _ hgt
              rw [Nat.succ_mul] at this; omega
    · cases he
  · cases he

/-- What a call leaves: (n: how many boxes there were) -/
structure Left (P : Program) (wr : FuncId → Bool) (c : Ctx) (w : World) (r : AVal) (σ' : Store) (c' : Ctx) (w' : World) (u : Value) : Prop where
  le : CtxLe c c'
  D : c'.D = c.D
  kept : Kept c.K w w'
  σ : SimS P wr c' w' σ'
  v : SimV c' w' r u
  cut : ∀ ver sz off len, r = .own c.n ver sz off len → SimS P wr (c'.cut c.n) w' (σ'.take c.n)

theorem recv_ok (hn : c.n = s.σ.length) {site : Nat} {r : AVal} {σ' : Store} {x : AVal × Store} {c' : Ctx} {w' : World} {u : Value} (h : Left P wr c w r σ' c' w' u) (he : cop.recv s site (r, σ') = some x) :
    ∃ c'', CtxLe c c'' ∧ c''.D = c.D ∧ Kept c.K w w' ∧ SimS P wr c'' w' x.2 ∧ SimV c'' w' x.1 u := by
  unfold cop.recv at he
  split at he
  · rename_i b ver sz off len σ1 e
    injection e with e1 e2; subst e1; subst e2
    split at he
    · rename_i hb
      split at he
      · rename_i v k es B hbox hB
        rw [chk_some] at he
        obtain ⟨⟨rfl, rfl, hlen, hsite⟩, he⟩ := he
        injection he with he; subst he
        rw [← hn] at hb
        subst hb
        have hcut := h.cut _ _ _ _ rfl
        have hp : s.base + site < σ'.length := (List.getElem?_eq_some_iff.1 hB).1
        have hpn : s.base + site < c.n := by omega
        rw [← hn]
        have hB' : (σ'.take c.n)[s.base + site]? = some B := by rw [List.getElem?_take, if_pos hpn]; exact hB
        obtain ⟨q1, q2, q3, q4, q5, q6⟩ := h.σ.box _ _ hbox
        have hvB := (h.σ.box _ _ hB).vr
        let c1 := c'.cut c.n
        let c'' := c1.at_ (s.base + site) (B.ver + 1) (c'.ρ c.n) k (c'.cp c.n) (c'.nb c.n)
        have hle1 : CtxLe c1 c'' := Ctx.at_le (by show c'.vr _ < _; omega)
        have hle0 : CtxLe c c1 := ⟨h.le.F, Nat.le_refl _, h.le.vr, h.le.same⟩
        refine ⟨c'', hle0.trans hle1, h.D, h.kept, ?_, ?_⟩
        · refine hcut.upd hB' hle1 (fun _ => Iff.rfl) rfl rfl Ctx.at_other (Kept.refl _ _) (fun _ _ _ => rfl) (fun hblk => ?_) (fun _ _ _ => .inl rfl) ?_
          · have hnb : c'.nb c.n = false := by simpa [hasBlk, c'', Ctx.at_] using hblk
            have hA := q6 hnb
            have hρ : c''.ρ (s.base + site) = c'.ρ c.n := by simp [c'', Ctx.at_]
            have hF : ¬ c'.F (c'.ρ c.n) := fun hf => by have := hA.frz.1 hf; cases this
            refine ⟨.inr (.inr ⟨fun y Y hy hne hY hy2 => ?_, ?_⟩), by rw [hρ]; exact hF⟩
            · rw [hρ] at hy2
              have hy' : σ'[y]? = some Y := by
                rw [List.getElem?_take] at hy
                split at hy
                · exact hy
                · cases hy
              have hyn : y < c.n := by
                rw [List.getElem?_take] at hy
                split at hy
                · assumption
                · cases hy
              have := h.σ.apart y c.n Y _ hy' hbox (by omega) hY hnb hy2
              exact hF (hy2 ▸ this)
            · rw [hρ]; exact h.σ.dis _ _ hbox hnb
          · refine ⟨by simp [c'', Ctx.at_], by simp [c'', Ctx.at_], q3, q4, fun hnb => q5 (by simpa [c'', Ctx.at_] using hnb), fun hnb => ?_⟩
            have hnb' : c'.nb c.n = false := by simpa [c'', Ctx.at_] using hnb
            have hA := q6 hnb'
            obtain ⟨cs, t, fr, hheap, hsz, hfr, ho, hE⟩ := hA.row
            refine ⟨by simpa [c'', c1, Ctx.cut, Ctx.at_] using hA.frz, by simpa [c'', Ctx.at_] using hA.len, cs, t, fr, by simpa [c'', Ctx.at_] using hheap, by simpa [c'', Ctx.at_] using hsz, hfr, ho, ?_⟩
            refine SimE.mk fun i e hi => ?_
            obtain ⟨u', g1, g2⟩ := hE.get i e hi
            refine ⟨u', SimV.pure (c := c') (c' := c'') (fun _ hf => hf) (Kept.refl _ _) _ _ (pureL_get q4 i e hi) g1, by simpa [c'', Ctx.at_] using g2⟩
        · have hv := h.v
          simp only [SimV] at hv ⊢
          obtain ⟨p1, p2, ad, cap, rfl, p4, p5, p6⟩ := hv
          obtain ⟨p7, p8, p9⟩ := p6 q1.symm
          exact ⟨hpn, by simp [c'', Ctx.at_], ad, cap, rfl, p4, p5, fun _ => ⟨by simp [c'', Ctx.at_], by simpa [c'', Ctx.at_] using p8, by simpa [c'', Ctx.at_] using p9⟩⟩
      · cases he
    · injection he with he; subst he
      exact ⟨c', h.le, h.D, h.kept, h.σ, h.v⟩
  · injection he with he; subst he
    exact ⟨c', h.le, h.D, h.kept, h.σ, h.v⟩
end Go.Abs
