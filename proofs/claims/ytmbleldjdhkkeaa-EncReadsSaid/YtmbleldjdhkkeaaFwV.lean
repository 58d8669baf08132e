/- All operations that change nothing, together. -/
import Derived.Test.YtmbleldjdhkkeaaFwU
import Derived.Laws.Tables
set_option linter.unusedSimpArgs false
set_option linter.unusedVariables false
namespace Go.Abs
open Go.RowKit
variable {P : Program} {wr : FuncId → Bool} {c : Ctx} {w : World} {G : Nat → Option (List AVal)} {s : AState} {a : Act}

/-! Cells laid over others -/
def setU (cs : List Value) (off : Nat) : List Value → List Value
  | [] => cs
  | v :: vs => setU (cs.set off v) (off + 1) vs

theorem setU_length : ∀ {vs cs : List Value} {off : Nat}, (setU cs off vs).length = cs.length
  | [], _, _ => rfl
  | v :: vs, cs, off => by simp only [setU]; rw [setU_length]; simp
theorem setC_length : ∀ {vs cs : List AVal} {off : Nat}, (setC cs off vs).length = cs.length
  | [], _, _ => rfl
  | v :: vs, cs, off => by simp only [setC]; rw [setC_length]; simp
theorem setU_one : ∀ {vs cs : List Value} {off : Nat}, (∀ x ∈ cs, oneC x = true) → (∀ x ∈ vs, oneC x = true) → ∀ x ∈ setU cs off vs, oneC x = true
  | [], _, _, h, _ => h
  | v :: vs, cs, off, h, h' => by
    simp only [setU]
    refine setU_one (fun x hx => ?_) (fun x hx => h' x (List.mem_cons_of_mem _ hx))
    rcases List.mem_or_eq_of_mem_set hx with hx | rfl
    · exact h x hx
    · exact h' _ List.mem_cons_self
theorem setC_sim : ∀ {vs : List AVal} {xs : List Value} {cs : List AVal} {us : List Value} {off : Nat}, SimL c w cs us → SimL c w vs xs → SimL c w (setC cs off vs) (setU us off xs)
  | [], xs, cs, us, off, h, hv => by simp only [SimL] at hv; subst hv; exact h
  | v :: vs, xs, cs, us, off, h, hv => by
    simp only [SimL] at hv
    obtain ⟨y, ys, rfl, h1, h2⟩ := hv
    simp only [setC, setU]
    exact setC_sim (h.set off h1) h2

theorem setU_foldl (off : Nat) : ∀ (xs us : List Value) (k : Nat), (xs.zipIdx k).foldl (fun (cs : Array Value) (p : Value × Nat) => cs.setIfInBounds (off + p.2) p.1) us.toArray = (setU us (off + k) xs).toArray
  | [], us, k => by simp [setU]
  | x :: xs, us, k => by
    simp only [List.zipIdx_cons, List.foldl_cons, setU]
    rw [List.setIfInBounds_toArray, setU_foldl off xs _ (k + 1)]
    rfl

theorem partsOf_fill {place place' : Nat → Option (Nat × Nat)} (hp : ∀ i p, place i = some p → place' i = some p) (h : Fr P wr G c w s a) : ∀ {ps : List (Nat × Operand)} {qs : List (Nat × Nat × AOpd)} {cs r : List AVal} {us : List Value},
    partsOf place ps = some qs → eop.fillA cs (qs.map fun p => (p.1, p.2.1, ev G s p.2.2)) = some r → SimL c w cs us → (∀ x ∈ us, oneC x = true) →
    ∃ us' : List Value, Instr.fill place' us.toArray (ps.map fun p => (p.1, a.eval p.2)) = some us'.toArray ∧ SimL c w r us' ∧ ∀ x ∈ us', oneC x = true
  | [], qs, cs, r, us, hq, hr, hs, ho => by
    simp only [partsOf] at hq; injection hq with hq; subst hq
    simp only [List.map_nil, eop.fillA] at hr; injection hr with hr; subst hr
    exact ⟨us, rfl, hs, ho⟩
  | (i, x) :: ps, qs, cs, r, us, hq, hr, hs, ho => by
    simp only [partsOf] at hq
    split at hq
    · rename_i off n x' qs' hpl hx hq'
      injection hq with hq; subst hq
      simp only [List.map_cons, eop.fillA] at hr
      rw [chk_some] at hr
      obtain ⟨⟨h1, h2, h3⟩, hr⟩ := hr
      obtain ⟨g1, g2⟩ := (h.ev hx).cells h3
      obtain ⟨us', k1, k2, k3⟩ := partsOf_fill hp h hq' hr (setC_sim (off := off) hs g1) (setU_one ho g2)
      refine ⟨us', ?_, k2, k3⟩
      simp only [List.map_cons, Instr.fill]
      rw [hp _ _ hpl]
      dsimp only
      have hl : (a.eval x).cells.size = n := by have := g1.length; simpa [h1] using this
      have hl2 := hs.length
      rw [if_neg (by simp; omega)]
      have he : Array.foldl (fun (cs : Array Value) (p : Value × Nat) => cs.setIfInBounds (off + p.2) p.1) us.toArray (a.eval x).cells.zipIdx = (setU us off (a.eval x).cells.toList).toArray := by
        have := setU_foldl off (a.eval x).cells.toList us 0
        rw [Nat.add_zero] at this
        rw [← this]
        rw [← Array.foldl_toList]
        simp
      rw [he]
      exact k1
    · cases hq

theorem places_get : ∀ {fs : List Field}, (fs.all fun f => (tsize P f.type).isSome) = true → ∃ places, fs.mapM (fun f => (P.info? f.type).map fun i => (f.offset, i.size)) = some places ∧
    ∀ (i : Nat) x n, fs[i]? = some x → tsize P x.type = some n → places[i]? = some (x.offset, n)
  | [], _ => ⟨[], rfl, fun i x n h => by simp at h⟩
  | f :: fs, h => by
    simp only [List.all_cons, Bool.and_eq_true] at h
    obtain ⟨h1, h2⟩ := h
    obtain ⟨ps, g1, g2⟩ := places_get h2
    rw [Option.isSome_iff_exists] at h1
    obtain ⟨n, hn⟩ := h1
    obtain ⟨i, hi, rfl⟩ := tinfo_of_size hn
    refine ⟨(f.offset, i.size) :: ps, by simp [List.mapM_cons, hi, g1], fun j x m hj hm => ?_⟩
    cases j with
    | zero =>
      simp at hj; subst hj
      rw [hn] at hm; injection hm with hm; subst hm; rfl
    | succ j => simpa using g2 j x m (by simpa using hj) hm

theorem tzero_info {t : TypeId} {z : AVal} (h : tzero P t = some z) : ∃ i v, P.info? t = some i ∧ i.zero = some v ∧ constV v = some z ∧ ∀ vs, v ≠ .tuple vs := by
  unfold tzero at h
  rw [Option.bind_eq_some_iff] at h
  obtain ⟨z', h, hz'⟩ := h
  rw [Option.bind_eq_some_iff] at h
  obtain ⟨v, hv, hz⟩ := h
  rw [Option.bind_eq_some_iff] at hv
  obtain ⟨i, hi, hv⟩ := hv
  have : z' = z := by unfold noTup at hz'; split at hz' <;> simp_all
  subst this
  refine ⟨i, v, hi, hv, hz, fun vs e => ?_⟩
  subst e
  simp only [constV] at hz
  split at hz
  · injection hz with hz; subst hz; simp [noTup] at hz'
  · cases hz

theorem bld_ok (h : Fr P wr G c w s a) {t : TypeId} {ps : Array (Nat × Operand)} {z : List AVal} {qs : List (Nat × Nat × AOpd)} {v : AVal} (hz : tzero P t = some (.agg z))
    (hq : (∃ fs, P.underlying t = some (.struct fs) ∧ (fs.toList.all fun f => (tsize P f.type).isSome) = true ∧ partsOf (fun i => (fieldOf P t i).map (·.2)) ps.toList = some qs) ∨
      (∃ m e n, P.underlying t = some (.array m e) ∧ tsize P e = some n ∧ partsOf (fun i => some (i * n, n)) ps.toList = some qs))
    (he : eop G s (.bld z qs) = some v) : Yld P c w (do pure (.value (← Instr.build t (ps.map fun (i, x) => (i, a.eval x))))) v := by
  simp only [eop] at he
  rw [Option.map_eq_some_iff] at he
  obtain ⟨r, hr, rfl⟩ := he
  obtain ⟨it, zv, hit, hzv, hcz, _⟩ := tzero_info hz
  obtain ⟨us, hus, hL, ho⟩ : ∃ us : List Value, zv = .agg us.toArray ∧ SimL c w z us ∧ ∀ x ∈ us, oneC x = true := by
    have := constV_sim (c := c) (w := w) hcz
    simp only [SimV] at this
    exact this
  have hzc : zv.cells = us.toArray := by rw [hus]; rfl
  rcases hq with ⟨fs, hu, hall, hq⟩ | ⟨m, e, n, hu, hn, hq⟩
  · obtain ⟨pl, hpl, hget⟩ := places_get hall
    have hp : ∀ i p, ((fieldOf P t i).map (·.2)) = some p → pl.toArray[i]? = some p := by
      intro i p hi
      rw [Option.map_eq_some_iff] at hi
      obtain ⟨⟨g, off, n⟩, hi, rfl⟩ := hi
      obtain ⟨fs', x, hu', hx, _, hn, rfl, _⟩ := fieldOf_spec hi
      rw [hu] at hu'; injection hu' with hu'; injection hu' with hu'; subst hu'
      simpa using hget i x n (by simpa using hx) hn
    obtain ⟨us', k1, k2, k3⟩ := partsOf_fill hp h hq hr hL ho
    refine Yld.v (u := .agg us'.toArray) ?_ (by simp only [SimV]; exact ⟨us', rfl, k2, k3⟩)
    refine run_build w t _ _ ?_
    unfold Program.built
    rw [hit, hu]
    simp only [hzv, hpl, hzc]
    rw [Array.toList_map]
    exact k1
  · obtain ⟨ie, hie, rfl⟩ := tinfo_of_size hn
    obtain ⟨us', k1, k2, k3⟩ := partsOf_fill (fun _ _ h => h) h hq hr hL ho
    refine Yld.v (u := .agg us'.toArray) ?_ (by simp only [SimV]; exact ⟨us', rfl, k2, k3⟩)
    refine run_build w t _ _ ?_
    unfold Program.built
    rw [hit, hu]
    simp only [hzv, hie, hzc]
    rw [Array.toList_map]
    exact k1

theorem foldA_run {f : Value → Value → Option Value} {g : Value → Value → Sem Value} (hfg : ∀ x y r w, f x y = some r → (g x y).run P w = .ok r w ∧ atomV r = true) : ∀ {xs : List AVal} {us : List Value} {v r : Value},
    foldA f v xs = some r → SimL c w xs us → atomV v = true → (us.foldlM g v).run P w = .ok r w ∧ atomV r = true
  | [], us, v, r, h, hL, hv => by
    simp only [foldA] at h; injection h with h; subst h
    simp only [SimL] at hL; subst hL
    exact ⟨rfl, hv⟩
  | .atom x :: xs, us, v, r, h, hL, hv => by
    simp only [foldA] at h
    split at h
    · rename_i q hq
      simp only [SimL] at hL
      obtain ⟨u, us', rfl, hu, hL'⟩ := hL
      obtain ⟨rfl, _⟩ := sim_atom hu
      obtain ⟨k1, k2⟩ := hfg _ _ _ w hq
      obtain ⟨k3, k4⟩ := foldA_run hfg h hL' k2
      refine ⟨?_, k4⟩
      rw [List.foldlM_cons, Sem.run_bind, k1, Result.andThen_ok]
      exact k3
    · cases h
  | .agg _ :: xs, _, v, r, h, _, _ | .tup _ :: xs, _, v, r, h, _, _ | .sl _ :: xs, _, v, r, h, _, _ | .sn _ :: xs, _, v, r, h, _, _ | .own .. :: xs, _, v, r, h, _, _ | .ptr .. :: xs, _, v, r, h, _, _ | .ep .. :: xs, _, v, r, h, _, _
  | .fp _ :: xs, _, v, r, h, _, _ | .fn .. :: xs, _, v, r, h, _, _ | .yld .. :: xs, _, v, r, h, _, _ | .mp .. :: xs, _, v, r, h, _, _ | .ifc .. :: xs, _, v, r, h, _, _ | .any :: xs, _, v, r, h, _, _ => by simp [foldA] at h

theorem min2A_run {x y r : Value} (w : World) (h : min2A x y = some r) : (Builtin.min2 x y).run P w = .ok r w ∧ atomV r = true := by
  unfold min2A at h
  split at h
  · injection h with h; subst h; exact ⟨rfl, rfl⟩
  · cases h
theorem max2A_run {x y r : Value} (w : World) (h : max2A x y = some r) : (Builtin.max2 x y).run P w = .ok r w ∧ atomV r = true := by
  unfold max2A at h
  split at h
  · injection h with h; subst h; exact ⟨rfl, rfl⟩
  · cases h

theorem min_ok (h : Fr P wr G c w s a) {xs : Array Operand} {ys : List AOpd} {v : AVal} {ts : Array TypeId} {ty : TypeId} {cs : Array Bool} (hx : compOpds xs.toList = some ys) (he : eop G s (.min ys) = some v) : Yld P c w (builtin .min ts ty cs (xs.map a.eval)) v := by
  simp only [eop] at he
  have hL := evL_sim h.G h.tm hx (s := s)
  split at he
  · rename_i u r heq
    rw [heq] at hL
    rw [Option.map_eq_some_iff] at he
    obtain ⟨z, hz, rfl⟩ := he
    simp only [SimL] at hL
    obtain ⟨y, ys', e, hy, hL'⟩ := hL
    obtain ⟨rfl, ha⟩ := sim_atom hy
    obtain ⟨k1, k2⟩ := foldA_run (P := P) (g := Builtin.min2) (fun x y r w => min2A_run w) hz hL' ha
    refine Yld.v (x := Builtin.min_ ts ty (xs.map a.eval)) (u := z) ?_ (sim_mk k2)
    unfold Builtin.min_
    rw [Array.toList_map, e]
    exact k1
  · cases he

theorem max_ok (h : Fr P wr G c w s a) {xs : Array Operand} {ys : List AOpd} {v : AVal} {ts : Array TypeId} {ty : TypeId} {cs : Array Bool} (hx : compOpds xs.toList = some ys) (he : eop G s (.max ys) = some v) : Yld P c w (builtin .max ts ty cs (xs.map a.eval)) v := by
  simp only [eop] at he
  have hL := evL_sim h.G h.tm hx (s := s)
  split at he
  · rename_i u r heq
    rw [heq] at hL
    rw [Option.map_eq_some_iff] at he
    obtain ⟨z, hz, rfl⟩ := he
    simp only [SimL] at hL
    obtain ⟨y, ys', e, hy, hL'⟩ := hL
    obtain ⟨rfl, ha⟩ := sim_atom hy
    obtain ⟨k1, k2⟩ := foldA_run (P := P) (g := Builtin.max2) (fun x y r w => max2A_run w) hz hL' ha
    refine Yld.v (x := Builtin.max_ ts ty (xs.map a.eval)) (u := z) ?_ (sim_mk k2)
    unfold Builtin.max_
    rw [Array.toList_map, e]
    exact k1
  · cases he

theorem conv_ok (h : Fr P wr G c w s a) {q d : TypeId} {site site' : Nat} {x : Operand} {aop : AOp} {v : AVal} (hc : compConv P q d site x = some (aop, site')) (hE : aop.isE = true) (he : eop G s aop = some v) :
    Yld P c w (do pure (.value (← convert q d (a.eval x)))) v := by
  unfold compConv at hc
  split at hc
  · rename_i k1 k x' h1 h2 h3
    injection hc with hc; injection hc with hc _; subst hc
    simp only [eop] at he
    split at he
    · rename_i k' n hb
      injection he with he; subst he
      obtain ⟨e, _⟩ := sim_atom (h.evs h3 hb)
      refine Yld.v (u := .int k (k.wrap n)) ?_ (sim_mk rfl)
      unfold convert
      rw [e]
      simp [run_underlying h1, run_underlying h2, Conv.intToInt]
    · cases he
  · rename_i x' h1 h2 h3
    injection hc with hc; injection hc with hc _; subst hc
    simp only [eop] at he
    split at he
    · rename_i b hb
      injection he with he; subst he
      obtain ⟨e, _⟩ := sim_atom (h.evs h3 hb)
      refine Yld.v (u := .string b) ?_ (sim_mk rfl)
      unfold convert
      rw [e]
      simp [run_underlying h1, run_underlying h2]
    · cases he
  · rename_i e x' h1 h2 h3
    split at hc
    · rename_i he8
      injection hc with hc; injection hc with hc _; subst hc
      simp only [eop] at he
      split at he
      · rename_i es hcont
        rw [Option.map_eq_some_iff] at he
        obtain ⟨bs, hbs, rfl⟩ := he
        have hb := b2s_run (P := P) h (h.ev h3) hcont hbs
        obtain ⟨ad, cap, e1, _⟩ := cont_row h (h.ev h3) hcont
        refine Yld.v (u := .string ⟨bs.toArray⟩) ?_ (sim_mk rfl)
        rw [e1] at hb ⊢
        rw [run_convert_bytes_string w q d e ad es.length cap h1 he8 h2]
        exact hb
      · cases he
    · cases hc
  · split at hc
    · split at hc
      · all_goals first | (cases hc; done) | (injection hc with hc; injection hc with hc _; subst hc; simp [AOp.isE] at hE; done)
      · cases hc
    · cases hc
  · split at hc
    · all_goals first | (cases hc; done) | (injection hc with hc; injection hc with hc _; subst hc; simp [AOp.isE] at hE; done)
    · cases hc
  · cases hc

theorem run_builtin_op {o : Oper} {b : Builtin} {args : Array Operand} {ts : Array TypeId} (ho : o.op = .call { callee := .builtin b, args, argTypes := ts }) :
    ∃ cs : Array Bool, (execOp a.eval o).run P w = (builtin b ts o.type cs (args.map a.eval)).run P w := by
  refine ⟨args.map (fun | .const _ => true | _ => false), ?_⟩
  simp only [execOp, ho, resolve, Sem.run_bind, Sem.run_pure, Result.andThen_ok, invoke]
  congr 2

/-- What an operation that changes nothing comes to. -/
theorem eop_ok (h : Fr P wr G c w s a) {app : List (Nat × Nat)} {o : Oper} {site site' : Nat} {aop : AOp} {v : AVal} (hc : compOp P app o.dst site o.op = some (aop, site')) (hE : aop.isE = true) (he : eop G s aop = some v) :
    Yld P c w (execOp a.eval o) v := by
  have mv : ∀ {x : Operand} {y : AOpd}, compOpd x = some y → eop G s (.mv y) = some v → Yld P c w (pure (.value (a.eval x))) v := by
    intro x y hx he
    simp only [eop] at he
    injection he with he; subst he
    exact yld_pure (h.ev hx)
  unfold compOp at hc
  split at hc
  case h_1 x ho =>
    rw [Option.map_eq_some_iff] at hc
    obtain ⟨y, hy, hc⟩ := hc
    injection hc with hc _; subst hc
    simp only [execOp, ho]
    exact mv hy he
  case h_2 x ho =>
    simp only [execOp, ho]
    split at hc
    · split at hc
      · all_goals first | (cases hc; done) | (injection hc with hc; injection hc with hc _; subst hc; simp [AOp.isE] at hE; done)
      · rw [Option.map_eq_some_iff] at hc
        obtain ⟨y, hy, hc⟩ := hc
        injection hc with hc _; subst hc
        exact mv hy he
    · rw [Option.map_eq_some_iff] at hc
      obtain ⟨y, hy, hc⟩ := hc
      injection hc with hc _; subst hc
      exact mv hy he
  case h_3 x y z ho =>
    split at hc
    · rename_i x' y' z' hx hy hz
      injection hc with hc; injection hc with hc _; subst hc
      simp only [execOp, ho]
      simp only [eop] at he
      split at he
      · rename_i t hb
        injection he with he; subst he
        have e := sim_bool (h.evs hx hb)
        refine ⟨if t then a.eval y else a.eval z, ?_, ?_⟩
        · rw [e]; simp [asBool]
        · cases t
          · exact h.ev hz
          · exact h.ev hy
      · cases he
    · cases hc
  case h_4 t ho =>
    split at hc <;> first | (cases hc; done) | skip
    split at hc <;> first | (cases hc; done) | skip
    all_goals first | (cases hc; done) | (injection hc with hc; injection hc with hc _; subst hc; simp [AOp.isE] at hE; done)
  case h_5 e x ho =>
    rw [Option.map_eq_some_iff] at hc
    obtain ⟨y, hy, hc⟩ := hc
    injection hc with hc _; subst hc; simp [AOp.isE] at hE
  case h_6 t ps ho =>
    simp only [execOp, ho]
    split at hc
    · rename_i z fs hz hu
      split at hc
      · rename_i hall
        rw [Option.map_eq_some_iff] at hc
        obtain ⟨qs, hq, hc⟩ := hc
        injection hc with hc _; subst hc
        exact bld_ok h hz (.inl ⟨fs, hu, hall, hq⟩) he
      · cases hc
    · rename_i z m e hz hu
      split at hc
      · rename_i n hn
        split at hc
        · cases hc
        · rw [Option.map_eq_some_iff] at hc
          obtain ⟨qs, hq, hc⟩ := hc
          injection hc with hc _; subst hc
          exact bld_ok h hz (.inr ⟨m, e, n, hu, hn, hq⟩) he
      · cases hc
    · cases hc
  case h_7 t n ps ho =>
    split at hc <;> first | (cases hc; done) | skip
    split at hc <;> first | (cases hc; done) | skip
    split at hc <;> first | (cases hc; done) | skip
    all_goals first | (cases hc; done) | (injection hc with hc; injection hc with hc _; subst hc; simp [AOp.isE] at hE; done)
  case h_8 t x ho =>
    split at hc
    · rename_i g n y hg hn hy
      injection hc with hc; injection hc with hc _; subst hc
      simp only [execOp, ho]
      exact load_ok h hg hn hy he
    · cases hc
  case h_9 t x y ho =>
    split at hc <;> first | (cases hc; done) | skip
    all_goals first | (cases hc; done) | (injection hc with hc; injection hc with hc _; subst hc; simp [AOp.isE] at hE; done)
  case h_10 x ho =>
    rw [Option.map_eq_some_iff] at hc
    obtain ⟨y, hy, hc⟩ := hc
    injection hc with hc _; subst hc
    exact nilc_ok h ho hy he
  case h_11 op t x y t' ho =>
    rw [Option.map_eq_some_iff] at hc
    obtain ⟨y', hy, hc⟩ := hc
    injection hc with hc _; subst hc
    exact bin_ok h ho hy he
  case h_12 op t x ho =>
    rw [Option.map_eq_some_iff] at hc
    obtain ⟨y, hy, hc⟩ := hc
    injection hc with hc _; subst hc
    simp only [execOp, ho]
    simp only [eop] at he
    split at he
    · rename_i u hb
      rw [Option.map_eq_some_iff] at he
      obtain ⟨r, hr, rfl⟩ := he
      obtain ⟨e, _⟩ := sim_atom (h.evs hy hb)
      obtain ⟨k1, k2⟩ := aun_run (P := P) hr w
      rw [e]
      exact Yld.v k1 (sim_mk k2)
    · cases he
  case h_13 q d x ho =>
    simp only [execOp, ho]
    exact conv_ok h hc hE he
  case h_14 t x ho =>
    split at hc
    · cases hc
    · rename_i d y hno hu hy
      injection hc with hc; injection hc with hc _; subst hc
      simp only [execOp, ho]
      simp only [eop] at he
      injection he with he; subst he
      refine Yld.v (u := .iface t (a.eval x)) ?_ (by simp only [SimV]; exact ⟨_, rfl, h.ev hy⟩)
      unfold Instr.makeInterface
      rw [Sem.run_bind, run_underlying hu, Result.andThen_ok]
      cases d <;> first | rfl | exact absurd rfl (hno _)
    · cases hc
  case h_15 f first cap ho =>
    split at hc
    · rename_i p q hp hq
      injection hc with hc; injection hc with hc _; subst hc
      simp only [execOp, ho]
      simp only [eop] at he
      injection he with he; subst he
      refine Yld.v (u := .func (.func f) (first.map a.eval) (cap.map a.eval)) rfl ?_
      simp only [SimV]
      refine ⟨first.toList.map a.eval, cap.toList.map a.eval, ?_, evL_sim h.G h.tm hp, evL_sim h.G h.tm hq⟩
      congr 1 <;> (apply Array.ext'; simp)
    · cases hc
  case h_16 t x y ho =>
    split at hc <;> first | (cases hc; done) | skip
    split at hc <;> first | (cases hc; done) | skip
    split at hc <;> first | (cases hc; done) | skip
    all_goals first | (cases hc; done) | (injection hc with hc; injection hc with hc _; subst hc; simp [AOp.isE] at hE; done)
  case h_17 t x l hh m ho =>
    split at hc
    · rename_i e ht
      have hu : P.underlying t = some (.slice e) := by
        unfold telem at ht
        split at ht
        · rename_i e' hu; injection ht with ht; subst ht; exact hu
        · cases ht
      split at hc
      · rename_i k y l' h' m' hk hx hl hh' hm
        split at hc
        · rename_i hcond
          split at hc
          · injection hc with hc; injection hc with hc _; subst hc; simp [AOp.isE] at hE
          · injection hc with hc; injection hc with hc _; subst hc
            simp only [execOp, ho]
            refine slc_ok h hu hk hx hl hh' hm (fun hs => ?_) he
            simp only [Bool.and_eq_true, Bool.or_eq_true] at hcond
            rcases hcond.2 with h0 | h0
            · simp_all
            · exact h0
        · cases hc
      · cases hc
    · cases hc
  case h_18 t x f ho =>
    split at hc
    · rename_i g off n y hf hy
      injection hc with hc; injection hc with hc _; subst hc
      simp only [execOp, ho]
      exact fa_ok h hf hy he
    · cases hc
  case h_19 t x f ho =>
    split at hc
    · rename_i g off n y hf hy
      injection hc with hc; injection hc with hc _; subst hc
      simp only [execOp, ho]
      exact fld_ok h hf hy he
    · cases hc
  case h_20 t x i ho =>
    split at hc
    · rename_i e y j hu hx hi
      split at hc
      · rename_i k hk
        split at hc
        · injection hc with hc; injection hc with hc _; subst hc
          simp only [execOp, ho]
          exact ia_ok h hu hk hx hi he
        · cases hc
      · cases hc
    · rename_i m e y j hu hx hi
      split at hc
      · rename_i k hk
        split at hc
        · cases hc
        · injection hc with hc; injection hc with hc _; subst hc
          simp only [execOp, ho]
          exact iaa_ok h hu hk hx hi he
      · cases hc
    · cases hc
  case h_21 t x i ho =>
    split at hc
    · rename_i m e y j hu hx hi
      split at hc
      · rename_i g k hg hk
        split at hc
        · cases hc
        · injection hc with hc; injection hc with hc _; subst hc
          simp only [execOp, ho]
          exact ixa_ok h hu hg hk hx hi he
      · cases hc
    · cases hc
  case h_22 => split at hc <;> simp at hc
  case h_23 => split at hc <;> simp at hc
  case h_24 => split at hc <;> simp at hc
  case h_25 x i ho =>
    rw [Option.map_eq_some_iff] at hc
    obtain ⟨y, hy, hc⟩ := hc
    injection hc with hc _; subst hc
    simp only [execOp, ho]
    exact ext_ok h hy he
  case h_26 args ts ho =>
    unfold Yld
    obtain ⟨cs, hrun⟩ := run_builtin_op (P := P) (w := w) (a := a) ho
    rw [hrun]
    split at hc
    · rename_i x t hx ht
      have hargs : args = #[x] := Array.ext' (by simpa using hx)
      subst hargs
      rw [show Array.map a.eval #[x] = #[a.eval x] by simp]
      split at hc
      · rename_i e y hu hy
        injection hc with hc; injection hc with hc _; subst hc
        exact len_ok h ht hu hy he
      · rename_i y hu hy
        injection hc with hc; injection hc with hc _; subst hc
        exact lenS_ok h ht hu hy he
      · cases hc
    · cases hc
  case h_27 args ts ho =>
    unfold Yld
    obtain ⟨cs, hrun⟩ := run_builtin_op (P := P) (w := w) (a := a) ho
    rw [hrun]
    rw [Option.map_eq_some_iff] at hc
    obtain ⟨ys, hy, hc⟩ := hc
    injection hc with hc _; subst hc
    exact min_ok h hy he
  case h_28 args ts ho =>
    unfold Yld
    obtain ⟨cs, hrun⟩ := run_builtin_op (P := P) (w := w) (a := a) ho
    rw [hrun]
    rw [Option.map_eq_some_iff] at hc
    obtain ⟨ys, hy, hc⟩ := hc
    injection hc with hc _; subst hc
    exact max_ok h hy he
  case h_29 args ts ho =>
    split at hc <;> first | (cases hc; done) | skip
    split at hc <;> first | (cases hc; done) | skip
    all_goals
      split at hc <;> first | (cases hc; done) | skip
      split at hc <;> first | (cases hc; done) | skip
      all_goals first | (cases hc; done) | (injection hc with hc; injection hc with hc _; subst hc; simp [AOp.isE] at hE; done)
  case h_30 f args ts ho =>
    split at hc <;> first | (cases hc; done) | skip
    all_goals first | (cases hc; done) | (injection hc with hc; injection hc with hc _; subst hc; simp [AOp.isE] at hE; done)
  case h_31 => cases hc
end Go.Abs
