/- Operations by halves, and all in a row. -/
import Derived.Test.YtmbleldjdhkkeaaFwC
set_option linter.unusedSimpArgs false
set_option linter.unusedVariables false
namespace Go.Abs
variable {G : Nat → Option (List AVal)} {callv : AVal → List AVal → Store → Option (AVal × Store)} {raw : FuncId → Bool}

theorem ev_congr {s s' : AState} {x : AOpd} (h : ∀ t ∈ opdTmp x, s.tm t = s'.tm t) : ev G s x = ev G s' x := by
  cases x with
  | t n => exact h n (by simp [opdTmp])
  | c v => rfl
  | g n => rfl
theorem evo_congr {s s' : AState} {x : Option AOpd} (h : ∀ t ∈ opdTmpO x, s.tm t = s'.tm t) : evo G s x = evo G s' x := by
  cases x with
  | none => rfl
  | some x => exact congrArg some (ev_congr h)
theorem evL_congr {s s' : AState} : ∀ {xs : List AOpd}, (∀ t ∈ xs.flatMap opdTmp, s.tm t = s'.tm t) → xs.map (ev G s) = xs.map (ev G s')
  | [], _ => rfl
  | x :: xs, h => by
    simp only [List.flatMap_cons, List.mem_append] at h
    simp only [List.map_cons]
    rw [ev_congr (fun t ht => h t (.inl ht)), evL_congr (fun t ht => h t (.inr ht))]
theorem parts_congr {s s' : AState} : ∀ {ps : List (Nat × Nat × AOpd)}, (∀ t ∈ ps.flatMap fun p => opdTmp p.2.2, s.tm t = s'.tm t) → (ps.map fun p => (p.1, p.2.1, ev G s p.2.2)) = ps.map fun p => (p.1, p.2.1, ev G s' p.2.2)
  | [], _ => rfl
  | x :: xs, h => by
    simp only [List.flatMap_cons, List.mem_append] at h
    simp only [List.map_cons]
    rw [ev_congr (fun t ht => h t (.inl ht)), parts_congr (fun t ht => h t (.inr ht))]
theorem parts2_congr {s s' : AState} : ∀ {ps : List (Nat × AOpd)}, (∀ t ∈ ps.flatMap fun p => opdTmp p.2, s.tm t = s'.tm t) → ∀ p ∈ ps, ev G s p.2 = ev G s' p.2
  | [], _, p, hp => by simp at hp
  | x :: xs, h, p, hp => by
    simp only [List.flatMap_cons, List.mem_append] at h
    rcases List.mem_cons.1 hp with rfl | hp
    · exact ev_congr (fun t ht => h t (.inl ht))
    · exact parts2_congr (fun t ht => h t (.inr ht)) p hp

theorem foot_congr {s s' : AState} {o : AOp} (h : ∀ t ∈ o.reads, s.tm t = s'.tm t) : foot G s o = foot G s' o := by
  cases o <;> simp only [foot] <;> simp only [AOp.reads, List.mem_append] at h
  · rw [ev_congr h]
  · rw [ev_congr h]
  · rename_i m k; rw [ev_congr (fun t ht => h t (.inl ht))]

/-- What an operation that changes nothing reads. -/
theorem eop_congr {s s' : AState} {o : AOp} (h : ∀ t ∈ o.reads, s.tm t = s'.tm t) (hf : ∀ b, foot G s o = some b → s.σ[b]? = s'.σ[b]?) : eop G s o = eop G s' o := by
  cases o <;> simp only [AOp.reads, List.mem_append] at h <;> (try simp only [eop])
  case mv x => rw [ev_congr h]
  case pick a b c => rw [ev_congr (x := a) (fun t ht => h t (.inl (.inl ht))), ev_congr (x := b) (fun t ht => h t (.inl (.inr ht))), ev_congr (x := c) (fun t ht => h t (.inr ht))]
  case ld g n x =>
    have hf' := hf
    simp only [foot] at hf'
    rw [ev_congr h] at hf' ⊢
    split
    · rename_i b ver off hb; rw [hb] at hf'; rw [hf' b rfl]
    · rename_i b ver i off hb; rw [hb] at hf'; rw [hf' b rfl]
    · rfl
    · rfl
  case nilc x => rw [ev_congr h]
  case bin op x y => rw [ev_congr (x := x) (fun t ht => h t (.inl ht)), ev_congr (x := y) (fun t ht => h t (.inr ht))]
  case beq n x y => rw [ev_congr (x := x) (fun t ht => h t (.inl ht)), ev_congr (x := y) (fun t ht => h t (.inr ht))]
  case isnil k n x => rw [ev_congr h]
  case eqagg n x y => rw [ev_congr (x := x) (fun t ht => h t (.inl ht)), ev_congr (x := y) (fun t ht => h t (.inr ht))]
  case un op x => rw [ev_congr h]
  case i2i k x => rw [ev_congr h]
  case b2s x =>
    have hf' := hf
    simp only [foot] at hf'
    rw [ev_congr h] at hf' ⊢
    have : cont s.σ (ev G s' x) = cont s'.σ (ev G s' x) := by
      unfold cont
      split
      · rfl
      · rfl
      · rename_i b ver sz off len hb; rw [hb] at hf'; rw [hf' b rfl]
      · rfl
    rw [this]
  case s2s x => rw [ev_congr h]
  case fld a b c x => rw [ev_congr h]
  case fa o x => rw [ev_congr h]
  case ia n x y => rw [ev_congr (x := x) (fun t ht => h t (.inl ht)), ev_congr (x := y) (fun t ht => h t (.inr ht))]
  case iaa n m x y => rw [ev_congr (x := x) (fun t ht => h t (.inl ht)), ev_congr (x := y) (fun t ht => h t (.inr ht))]
  case ixa n m k x y => rw [ev_congr (x := x) (fun t ht => h t (.inl ht)), ev_congr (x := y) (fun t ht => h t (.inr ht))]
  case slc n x l hh m => rw [ev_congr (x := x) (fun t ht => h t (.inl (.inl (.inl ht)))), evo_congr (x := l) (fun t ht => h t (.inl (.inl (.inr ht)))), evo_congr (x := hh) (fun t ht => h t (.inl (.inr ht))), evo_congr (x := m) (fun t ht => h t (.inr ht))]
  case ext x i => rw [ev_congr h]
  case bld z ps => rw [parts_congr h]
  case mkfn f a b => rw [evL_congr (xs := a) (fun t ht => h t (.inl ht)), evL_congr (xs := b) (fun t ht => h t (.inr ht))]
  case mkif t x => rw [ev_congr h]
  case len x => rw [ev_congr h]
  case lenS x => rw [ev_congr h]
  case min xs => rw [evL_congr h]
  case max xs => rw [evL_congr h]
  case lookup z ok m k =>
    have hf' := hf
    simp only [foot] at hf'
    rw [ev_congr (x := m) (fun t ht => h t (.inl ht))] at hf' ⊢
    rw [ev_congr (x := k) (fun t ht => h t (.inr ht))]
    cases hm : ev G s' m <;> rw [hm] at hf'
    case mp b ver => simp only [hf' b rfl]
    case atom v => cases v <;> first | rfl | (rename_i q; cases q <;> rfl)
    all_goals rfl

theorem cop_congr {s s' : AState} {o : AOp} (h : ∀ t ∈ o.reads, s.tm t = s'.tm t) (hσ : s.σ = s'.σ) (hb : s.base = s'.base) : cop G callv raw s o = cop G callv raw s' o := by
  obtain ⟨tm, σ, base⟩ := s
  obtain ⟨tm', σ', base'⟩ := s'
  simp only at hσ hb
  subst hσ; subst hb
  have ec : ∀ {x : AOpd}, (∀ t ∈ opdTmp x, tm t = tm' t) → ev G ⟨tm, σ, base⟩ x = ev G ⟨tm', σ, base⟩ x := fun h => ev_congr h
  have ecL : ∀ {xs : List AOpd}, (∀ t ∈ xs.flatMap opdTmp, tm t = tm' t) → xs.map (ev G ⟨tm, σ, base⟩) = xs.map (ev G ⟨tm', σ, base⟩) := fun h => evL_congr h
  have ecP : ∀ {ps : List (Nat × AOpd)}, (∀ t ∈ ps.flatMap (fun p => opdTmp p.2), tm t = tm' t) → ∀ p ∈ ps, ev G ⟨tm, σ, base⟩ p.2 = ev G ⟨tm', σ, base⟩ p.2 := fun h => parts2_congr h
  cases o <;> simp only [AOp.reads, List.mem_append] at h <;> (try simp only [cop])
  case slc0 k n x => rw [ec h]; rfl
  case s2b k x => rw [ec h]; rfl
  case alloc => rfl
  case box k x => rw [ec h]; rfl
  case bsl k z n ps =>
    have e1 : (ps.map fun p => (p.1, frz σ (ev G ⟨tm, σ, base⟩ p.2))) = ps.map fun p => (p.1, frz σ (ev G ⟨tm', σ, base⟩ p.2)) := List.map_congr_left fun p hp => by rw [ecP h p hp]
    have e2 : (ps.map fun p => ev G ⟨tm, σ, base⟩ p.2) = ps.map fun p => ev G ⟨tm', σ, base⟩ p.2 := List.map_congr_left fun p hp => by rw [ecP h p hp]
    rw [e1, e2]; rfl
  case nown => rfl
  case mksl k b z x y => rw [ec (x := x) (fun t ht => h t (.inl ht)), ec (x := y) (fun t ht => h t (.inr ht))]; rfl
  case mkmap => rfl
  case mks x => rw [ec h]
  case st n x y => rw [ec (x := x) (fun t ht => h t (.inl ht)), ec (x := y) (fun t ht => h t (.inr ht))]
  case mapupd m k v => rw [ec (x := m) (fun t ht => h t (.inl (.inl ht))), ec (x := k) (fun t ht => h t (.inl (.inr ht))), ec (x := v) (fun t ht => h t (.inr ht))]
  case app k b n x y => rw [ec (x := x) (fun t ht => h t (.inl ht)), ec (x := y) (fun t ht => h t (.inr ht))]; rfl
  case call k f args => rw [ec (x := f) (fun t ht => h t (.inl ht)), ecL (xs := args) (fun t ht => h t (.inr ht))]; rfl

theorem stepOp_congr {s s' : AState} {o : AOp} (h : ∀ t ∈ o.reads, s.tm t = s'.tm t) (hσ : s.σ = s'.σ) (hb : s.base = s'.base) : stepOp G callv raw s o = stepOp G callv raw s' o := by
  unfold stepOp
  rw [eop_congr h (fun b _ => by rw [hσ]), cop_congr h hσ hb, hσ]
theorem stepF_congr {s s' : AState} {o : AOp} {fl : Bool} {av : List Nat} (h : ∀ t ∈ o.reads, s.tm t = s'.tm t) (hσ : s.σ = s'.σ) (hb : s.base = s'.base) : stepF G callv raw s o fl av = stepF G callv raw s' o fl av := by
  unfold stepF
  rw [stepOp_congr h hσ hb]
  congr 1
  funext r
  have : flagOk G s o fl av r.2 = flagOk G s' o fl av r.2 := by
    unfold flagOk
    rw [foot_congr h, hσ, hb]
  rw [this]

/-! The halves -/
theorem put_σ (s : AState) (d : Option Nat) (v : AVal) : (s.put d v).σ = s.σ ∧ (s.put d v).base = s.base := by cases d <;> exact ⟨rfl, rfl⟩
theorem put_tm (s : AState) (d : Option Nat) (v : AVal) (t : Nat) : (s.put d v).tm t = if d = some t then v else s.tm t := by
  cases d with
  | none => simp [AState.put]
  | some d =>
    simp only [AState.put, upd]
    by_cases h : t = d
    · subst h; simp
    · rw [if_neg h, if_neg (fun e => h (by injection e with e; exact e.symm))]

theorem wantedA_put {s : AState} {g : Option (Nat × Bool)} {d : Option Nat} (h : wantedA s g = some false) : wantedA (s.put d (.tup [])) g = some false := by
  cases g with
  | none => cases h
  | some p =>
    obtain ⟨t, want⟩ := p
    simp only [wantedA] at h ⊢
    rw [put_tm]
    by_cases e : d = some t
    · rw [if_pos e]
    · rw [if_neg e]; exact h

theorem shut_run : ∀ (gs : GOps) (ds : List Nat) (g : Option (Nat × Bool)) (s : AState), shutG ds gs = true → wantedA s g = some false → (∀ t ∈ ds, s.tm t = .tup []) →
    ∃ s', (∀ rest, runOps G callv raw (flatG g gs ++ rest) s = runOps G callv raw rest s') ∧ s'.σ = s.σ ∧ s'.base = s.base ∧ wantedA s' g = some false ∧ (∀ t, s'.tm t = s.tm t ∨ s'.tm t = .tup []) ∧
      (∀ lo hi, inG lo hi gs = true → ∀ t, (t < lo ∨ hi ≤ t) → s'.tm t = s.tm t)
  | .nil, ds, g, s, _, hg, _ => ⟨s, fun _ => rfl, rfl, rfl, hg, fun _ => .inl rfl, fun _ _ _ _ _ => rfl⟩
  | .one d op fl av r, ds, g, s, hs, hg, hds => by
    simp only [shutG] at hs
    have hput : ∀ t ∈ d.toList ++ ds, (s.put d (.tup [])).tm t = .tup [] := by
      intro t ht
      rw [put_tm]
      split
      · rfl
      · rename_i hne
        rcases List.mem_append.1 ht with ht | ht
        · exact absurd (by cases d <;> simp at ht; subst ht; rfl) hne
        · exact hds t ht
    obtain ⟨s', h1, h2, h3, h4, h5, h6⟩ := shut_run r _ g _ hs (wantedA_put hg) hput
    refine ⟨s', fun rest => ?_, h2.trans (put_σ _ _ _).1, h3.trans (put_σ _ _ _).2, h4, fun t => ?_, fun lo hi hin t ht => ?_⟩
    · rw [← h1 rest]
      simp only [flatG, List.cons_append, runOps, hg]
    · rcases h5 t with h | h
      · rw [h, put_tm]
        split
        · exact .inr rfl
        · exact .inl rfl
      · exact .inr h
    · simp only [inG, Bool.and_eq_true, List.all_eq_true, decide_eq_true_eq] at hin
      rw [h6 lo hi hin.2 t ht, put_tm]
      split
      · rename_i e; subst e
        have := hin.1 t (by simp)
        omega
      · rfl
  | .sc d lo' hi' c w sub x y r, ds, g, s, hs, hg, hds => by
    simp only [shutG, Bool.and_eq_true] at hs
    obtain ⟨⟨hc, hs1⟩, hs2⟩ := hs
    have hc' : s.tm c = .tup [] := hds c (by simpa using hc)
    obtain ⟨s1, h1, h2, h3, h4, h5, h6⟩ := shut_run sub ds (some (c, w)) s hs1 (by simp [wantedA, hc']) hds
    have hg1 : wantedA s1 g = some false := by
      cases g with
      | none => cases hg
      | some p =>
        obtain ⟨t, want⟩ := p
        simp only [wantedA] at hg ⊢
        rcases h5 t with h | h
        · rw [h]; exact hg
        · rw [h]
    have hds1 : ∀ t ∈ d :: ds, (s1.put (some d) (.tup [])).tm t = .tup [] := by
      intro t ht
      rw [put_tm]
      split
      · rfl
      · rename_i hne
        rcases List.mem_cons.1 ht with rfl | ht
        · exact absurd rfl hne
        · rcases h5 t with h | h
          · rw [h]; exact hds t ht
          · exact h
    obtain ⟨s', k1, k2, k3, k4, k5, k6⟩ := shut_run r _ g _ hs2 (wantedA_put hg1) hds1
    refine ⟨s', fun rest => ?_, k2.trans ((put_σ _ _ _).1.trans h2), k3.trans ((put_σ _ _ _).2.trans h3), k4, fun t => ?_, fun lo hi hin t ht => ?_⟩
    · simp only [flatG, List.append_assoc, List.cons_append]
      rw [h1, ← k1 rest]
      simp only [runOps, hg1]
    · rcases k5 t with h | h
      · rw [h, put_tm]
        split
        · exact .inr rfl
        · exact h5 t
      · exact .inr h
    · simp only [inG, Bool.and_eq_true, decide_eq_true_eq] at hin
      obtain ⟨⟨⟨q1, q2, q3, q4⟩, q5⟩, q6⟩ := hin
      rw [k6 lo hi q6 t ht, put_tm]
      split
      · rename_i e; injection e with e; subst e; omega
      · exact h6 lo hi q5 t ht

/-- The same, but for what is forgotten. -/
def Agree (ds : List (Nat × Nat)) (s sF : AState) : Prop := s.σ = sF.σ ∧ s.base = sF.base ∧ ∀ t, s.tm t = sF.tm t ∨ (s.tm t = .any ∧ ∃ p ∈ ds, p.1 ≤ t ∧ t < p.2)

theorem Agree.off {ds : List (Nat × Nat)} {s sF : AState} (h : Agree ds s sF) {l : List Nat} (hl : ∀ p ∈ ds, offO p.1 p.2 l = true) : ∀ t ∈ l, s.tm t = sF.tm t := by
  intro t ht
  rcases h.2.2 t with h | ⟨_, p, hp, h1, h2⟩
  · exact h
  · have := hl p hp
    simp only [offO, List.all_eq_true, decide_eq_true_eq] at this
    have := this t ht
    omega

theorem Agree.put {ds : List (Nat × Nat)} {s sF : AState} (h : Agree ds s sF) (d : Option Nat) (v : AVal) (σ : Store) : Agree ds ({ s with σ := σ }.put d v) ({ sF with σ := σ }.put d v) := by
  refine ⟨by rw [(put_σ _ _ _).1, (put_σ _ _ _).1], by rw [(put_σ _ _ _).2, (put_σ _ _ _).2]; exact h.2.1, fun t => ?_⟩
  rw [put_tm, put_tm]
  split
  · exact .inl rfl
  · exact h.2.2 t

open Classical in
theorem group_run : ∀ (gs : GOps) (ds : List (Nat × Nat)) (g : Option (Nat × Bool)) (s sF s' : AState), okG gs = true → (∀ p ∈ ds, offG p.1 p.2 gs = true) → Agree ds s sF → wantedA sF g = some true →
    (∀ c w, g = some (c, w) → ∃ lo hi, inG lo hi gs = true ∧ (c < lo ∨ hi ≤ c)) → runG G callv raw gs s = some s' →
    ∃ sF', (∀ rest, runOps G callv raw (flatG g gs ++ rest) sF = runOps G callv raw rest sF') ∧ Agree (ints gs ++ ds) s' sF' ∧ wantedA sF' g = some true ∧ sF'.base = sF.base ∧
      (∀ lo hi, inG lo hi gs = true → ∀ t, (t < lo ∨ hi ≤ t) → sF'.tm t = sF.tm t)
  | .nil, ds, g, s, sF, s', _, _, ha, hg, _, hr => by
    simp only [runG] at hr; injection hr with hr; subst hr
    exact ⟨sF, fun _ => rfl, by simpa [ints] using ha, hg, rfl, fun _ _ _ _ _ => rfl⟩
  | .one d op fl av r, ds, g, s, sF, s', hok, hoff, ha, hg, hw, hr => by
    simp only [okG] at hok
    simp only [runG] at hr
    rw [Option.bind_eq_some_iff] at hr
    obtain ⟨x, hx, hr⟩ := hr
    have hoff' : ∀ p ∈ ds, offO p.1 p.2 op.reads = true ∧ offO p.1 p.2 d.toList = true ∧ offG p.1 p.2 r = true := by
      intro p hp
      have := hoff p hp
      simp only [offG, Bool.and_eq_true] at this
      exact ⟨this.1.1, this.1.2, this.2⟩
    have hstep := stepF_congr (G := G) (callv := callv) (raw := raw) (o := op) (fl := fl) (av := av) (ha.off fun p hp => (hoff' p hp).1) ha.1 ha.2.1
    have hgw : wantedA ({ sF with σ := x.2 }.put d x.1) g = some true := by
      cases g with
      | none => rfl
      | some p =>
        obtain ⟨c, w⟩ := p
        obtain ⟨lo, hi, h1, h2⟩ := hw c w rfl
        simp only [inG, Bool.and_eq_true, List.all_eq_true, decide_eq_true_eq] at h1
        simp only [wantedA] at hg ⊢
        rw [put_tm, if_neg (fun e => by subst e; have := h1.1 c (by simp); omega)]
        exact hg
    obtain ⟨sF', h1, h2, h3, hbase, h4⟩ := group_run r ds g _ _ s' hok (fun p hp => (hoff' p hp).2.2) (ha.put d x.1 x.2) hgw
      (fun c w e => by
        obtain ⟨lo, hi, h1, h2⟩ := hw c w e
        simp only [inG, Bool.and_eq_true] at h1
        exact ⟨lo, hi, h1.2, h2⟩) hr
    refine ⟨sF', fun rest => ?_, by simpa [ints] using h2, h3, hbase.trans (put_σ _ _ _).2, fun lo hi hin t ht => ?_⟩
    · rw [← h1 rest]
      simp only [flatG, List.cons_append, runOps, hg]
      rw [← hstep, hx]
      rfl
    · simp only [inG, Bool.and_eq_true, List.all_eq_true, decide_eq_true_eq] at hin
      rw [h4 lo hi hin.2 t ht, put_tm, if_neg (fun e => by subst e; have := hin.1 t (by simp); omega)]
  | .sc d lo0 hi0 c w sub x y r, ds, g, s, sF, s', hok, hoff, ha, hg, hw, hr => by
    simp only [okG, Bool.and_eq_true] at hok
    obtain ⟨⟨⟨⟨⟨⟨ok1, ok2⟩, ok3⟩, ok4⟩, ok5⟩, ok6⟩, ok7⟩ := hok
    have hoff' : ∀ p ∈ ds, offO p.1 p.2 (opdTmp x ++ opdTmp y ++ [d, c]) = true ∧ offG p.1 p.2 sub = true ∧ offG p.1 p.2 r = true := by
      intro p hp
      have := hoff p hp
      simp only [offG, Bool.and_eq_true] at this
      exact ⟨this.1.1, this.1.2, this.2⟩
    have hc : s.tm c = sF.tm c := ha.off (l := opdTmp x ++ opdTmp y ++ [d, c]) (fun p hp => (hoff' p hp).1) c (by simp)
    have hcoff : c < lo0 ∨ hi0 ≤ c := by
      simp only [offO, List.all_eq_true, decide_eq_true_eq] at ok5
      exact ok5 c (by simp)
    have hdoff : d < lo0 ∨ hi0 ≤ d := by
      simp only [offO, List.all_eq_true, decide_eq_true_eq] at ok5
      exact ok5 d (by simp)
    simp only [runG] at hr
    rw [Option.bind_eq_some_iff] at hr
    obtain ⟨z, hz, hr⟩ := hr
    split at hz
    rotate_left
    · cases hz
    rename_i b hb
    have hb' : sF.tm c = .atom (.bool b) := hc ▸ hb
    -- behind the second half
    have fin : ∀ (s1 : AState), (∀ rest, runOps G callv raw (flatG (some (c, w)) sub ++ rest) sF = runOps G callv raw rest s1) → s1.σ = z.2 → s1.base = sF.base → (∀ t, (t < lo0 ∨ hi0 ≤ t) → s1.tm t = sF.tm t) →
        (if b then ev G s1 x else ev G s1 y) = z.1 →
        ∃ sF', (∀ rest, runOps G callv raw (flatG g (.sc d lo0 hi0 c w sub x y r) ++ rest) sF = runOps G callv raw rest sF') ∧ Agree (ints (.sc d lo0 hi0 c w sub x y r) ++ ds) s' sF' ∧ wantedA sF' g = some true ∧ sF'.base = sF.base ∧
          (∀ lo hi, inG lo hi (.sc d lo0 hi0 c w sub x y r) = true → ∀ t, (t < lo ∨ hi ≤ t) → sF'.tm t = sF.tm t) := by
      intro s1 g1 g2 g3 g4 g5
      have hg1 : wantedA s1 g = some true := by
        cases g with
        | none => rfl
        | some p =>
          obtain ⟨c', w'⟩ := p
          obtain ⟨lo, hi, h1, h2⟩ := hw c' w' rfl
          simp only [inG, Bool.and_eq_true, decide_eq_true_eq] at h1
          simp only [wantedA] at hg ⊢
          rw [g4 c' (by omega)]
          exact hg
      have hstep : stepF G callv raw s1 (.pick (.t c) x y) false [] = some (z.1, z.2) := by
        unfold stepF stepOp
        simp only [AOp.isE, if_true, eop]
        have : ev G s1 (.t c) = .atom (.bool b) := by show s1.tm c = _; rw [g4 c hcoff, hb']
        rw [this]
        simp only [Option.map_some, Option.bind_some]
        rw [g5, g2]
        rw [chk_some]
        refine ⟨?_, rfl⟩
        unfold flagOk
        simp [AOp.isE]
      have hag : Agree ((lo0, hi0) :: ds) { s with tm := upd (clr lo0 hi0 s.tm) d z.1, σ := z.2 } ({ s1 with σ := z.2 }.put (some d) z.1) := by
        refine ⟨rfl, ha.2.1.trans g3.symm, fun t => ?_⟩
        rw [put_tm]
        by_cases e : t = d
        · subst e; simp [upd]
        · rw [if_neg (fun h => e (by injection h with h; exact h.symm))]
          simp only [upd, if_neg e, clr]
          by_cases hin : lo0 ≤ t ∧ t < hi0
          · rw [if_pos hin]; exact .inr ⟨rfl, (lo0, hi0), by simp, hin⟩
          · rw [if_neg hin]
            show s.tm t = s1.tm t ∨ _
            rw [g4 t (by omega)]
            rcases ha.2.2 t with h | ⟨h, p, hp, h'⟩
            · exact .inl h
            · exact .inr ⟨h, p, by simp [hp], h'⟩
      have hgw : wantedA ({ s1 with σ := z.2 }.put (some d) z.1) g = some true := by
        cases g with
        | none => rfl
        | some p =>
          obtain ⟨c', w'⟩ := p
          obtain ⟨lo, hi, h1, h2⟩ := hw c' w' rfl
          simp only [inG, Bool.and_eq_true, decide_eq_true_eq] at h1
          simp only [wantedA] at hg1 ⊢
          rw [put_tm, if_neg (fun e => by injection e with e; subst e; omega)]
          exact hg1
      obtain ⟨sF', h1, h2, h3, hbase, h4⟩ := group_run r ((lo0, hi0) :: ds) g _ _ s' ok2 (fun p hp => by
          rcases List.mem_cons.1 hp with rfl | hp
          · exact ok4
          · exact (hoff' p hp).2.2) hag hgw
        (fun c' w' e => by
          obtain ⟨lo, hi, h1, h2⟩ := hw c' w' e
          simp only [inG, Bool.and_eq_true] at h1
          exact ⟨lo, hi, h1.2, h2⟩) hr
      refine ⟨sF', fun rest => ?_, ?_, h3, hbase.trans g3, fun lo hi hin t ht => ?_⟩
      · rw [← h1 rest]
        simp only [flatG, List.append_assoc, List.cons_append]
        rw [g1]
        simp only [runOps, hg1]
        rw [hstep]
        rfl
      · refine ⟨h2.1, h2.2.1, fun t => ?_⟩
        rcases h2.2.2 t with h | ⟨h, p, hp, h'⟩
        · exact .inl h
        · refine .inr ⟨h, p, ?_, h'⟩
          simp only [ints, List.cons_append, List.mem_cons, List.mem_append] at hp ⊢
          rcases hp with hp | hp | hp
          · exact .inr (.inl hp)
          · exact .inl hp
          · exact .inr (.inr hp)
      · simp only [inG, Bool.and_eq_true, decide_eq_true_eq] at hin
        obtain ⟨⟨⟨q1, q2, q3, q4⟩, q5⟩, q6⟩ := hin
        rw [h4 lo hi q6 t ht, put_tm, if_neg (fun e => by injection e with e; subst e; omega)]
        exact g4 t (by omega)
    split at hz
    · rename_i hbw
      subst hbw
      rw [Option.map_eq_some_iff] at hz
      obtain ⟨s1', hsub, rfl⟩ := hz
      obtain ⟨sF1, h1, h2, h3, hbase, h4⟩ := group_run sub ds (some (c, b)) s sF s1' ok1 (fun p hp => (hoff' p hp).2.1) ha (by simp [wantedA, hb'])
        (fun c' w' e => by injection e with e; injection e with e1 e2; subst e1; exact ⟨lo0, hi0, ok3, hcoff⟩) hsub
      refine fin sF1 h1 h2.1.symm hbase (h4 lo0 hi0 ok3) ?_
      · have hx : ∀ q, (∀ p ∈ ints sub ++ ds, offO p.1 p.2 (opdTmp q) = true) → ev G sF1 q = ev G s1' q := fun q hq => (ev_congr (h2.off hq)).symm
        have hoffx : ∀ q, (q = x ∨ q = y) → (∀ p ∈ ints sub, offO p.1 p.2 (opdTmp q) = true) → ∀ p ∈ ints sub ++ ds, offO p.1 p.2 (opdTmp q) = true := by
          intro q hq h p hp
          rcases List.mem_append.1 hp with hp | hp
          · exact h p hp
          · have := (hoff' p hp).1
            simp only [offO, List.all_eq_true, decide_eq_true_eq] at this ⊢
            intro t ht
            refine this t ?_
            rcases hq with rfl | rfl <;> simp [ht]
        simp only [List.all_eq_true] at ok7
        cases b
        · simp only [Bool.false_eq_true, if_false] at ok7 ⊢
          exact hx y (hoffx y (.inr rfl) fun p hp => ok7 p hp)
        · simp only [if_true] at ok7 ⊢
          exact hx x (hoffx x (.inl rfl) fun p hp => ok7 p hp)
    · rename_i hbw
      injection hz with hz; subst hz
      obtain ⟨sF1, h1, h2, h3, h4, h5, h6⟩ := shut_run (callv := callv) (raw := raw) (G := G) sub [] (some (c, w)) sF ok6 (by simp [wantedA, hb']; cases b <;> cases w <;> simp_all) (by simp)
      refine fin sF1 h1 (h2.trans ha.1.symm) h3 (h6 lo0 hi0 ok3) ?_
      have hoff2 : ∀ q, offO lo0 hi0 (opdTmp q) = true → (q = x ∨ q = y) → ev G sF1 q = ev G s q := by
        intro q h hq
        refine ev_congr fun t ht => ?_
        simp only [offO, List.all_eq_true, decide_eq_true_eq] at h
        rw [h6 lo0 hi0 ok3 t (h t ht)]
        refine (ha.off (l := opdTmp x ++ opdTmp y ++ [d, c]) (fun p hp => (hoff' p hp).1) t ?_).symm
        rcases hq with rfl | rfl <;> simp [ht]
      simp only [offO, List.all_append, Bool.and_eq_true] at ok5
      cases b <;> cases w <;> simp at hbw
      · simp only [Bool.false_eq_true, if_false, if_true] at ok5 ⊢
        exact hoff2 y ok5.1 (.inr rfl)
      · simp only [Bool.false_eq_true, if_false, if_true] at ok5 ⊢
        exact hoff2 x ok5.1 (.inl rfl)
end Go.Abs
