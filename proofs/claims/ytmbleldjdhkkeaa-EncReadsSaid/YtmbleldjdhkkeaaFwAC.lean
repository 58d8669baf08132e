/- The operations that change something: literals of slices, make, bytes of strings. -/
import Derived.Test.YtmbleldjdhkkeaaFwAB
set_option linter.unusedSimpArgs false
set_option linter.unusedVariables false
namespace Go.Abs
open Go.RowKit
variable {P : Program} {wr : FuncId → Bool} {c : Ctx} {w : World} {G : Nat → Option (List AVal)} {s : AState} {a : Act}

/-- One element anew. -/
theorem Flat.set {sz i : Nat} {es : List AVal} {us : List Value} {v : AVal} {u : Value} (h : Flat c w sz es us) (hi : i < es.length) (hv : SimV c w v u) (hu : u.cells.size = sz) (ho : ∀ x ∈ u.cells.toList, oneC x = true) :
    Flat c w sz (es.set i v) (setU us (i * sz) u.cells.toList) := by
  have hbd : i * sz + u.cells.toList.length ≤ us.length := by
    rw [h.len]
    have : u.cells.toList.length = sz := by simpa using hu
    rw [this, ← Nat.succ_mul]
    exact Nat.mul_le_mul_right _ hi
  have hul : u.cells.toList.length = sz := by simpa using hu
  refine ⟨by rw [setU_length, h.len, List.length_set], setU_one h.one ho, fun k e hk => ?_⟩
  by_cases hki : k = i
  · subst hki
    rw [List.getElem?_set_self hi] at hk
    injection hk with hk; subst hk
    refine ⟨u, hv, hu, fun j x hj => ?_⟩
    have hjl : j < sz := by have := (Array.getElem?_eq_some_iff.1 hj).1; omega
    rw [setU_get _ _ _ hbd, if_pos (by omega), Nat.add_sub_cancel_left]
    simpa using hj
  · rw [List.getElem?_set_ne (fun e => hki e.symm)] at hk
    obtain ⟨u', h1, h2, h3⟩ := h.el k e hk
    refine ⟨u', h1, h2, fun j x hj => ?_⟩
    have hjl : j < sz := by have := (Array.getElem?_eq_some_iff.1 hj).1; omega
    rw [setU_get _ _ _ hbd, if_neg]
    · exact h3 j x hj
    · rw [hul]
      intro ⟨b1, b2⟩
      rcases Nat.lt_or_gt_of_ne hki with hlt | hgt
      · have : (k + 1) * sz ≤ i * sz := Nat.mul_le_mul_right _ hlt
        rw [Nat.succ_mul] at this; omega
      · have : (i + 1) * sz ≤ k * sz := Nat.mul_le_mul_right _ hgt
        rw [Nat.succ_mul] at this; omega

theorem flat_zero {z : AVal} {zv : Value} {k : Nat} (hz : SimV c w z zv) (hs : zv.cells.size = k) (ho : ∀ x ∈ zv.cells.toList, oneC x = true) : ∀ n, Flat c w k (List.replicate n z) (zrow zv.cells.toList n)
  | 0 => Flat.nil
  | n + 1 => by
    have h1 : Flat c w k [z] zv.cells.toList := ⟨by simpa using hs, ho, fun i e hi => by
      cases i with
      | zero => simp at hi; subst hi; exact ⟨zv, hz, hs, fun j x hj => by simpa using hj⟩
      | succ i => simp at hi⟩
    simpa [List.replicate_succ, zrow] using h1.append (flat_zero hz hs ho n)

/-- The parts of a literal, laid. -/
theorem fillP_ok {sz : Nat} : ∀ {ps : List (Nat × AVal)} {vs : List (Nat × Value)} {es r : List AVal} {us : List Value}, cop.fillP sz es (ps.map fun p => (p.1, some p.2)) = some r → ps.map (·.1) = vs.map (·.1) → SimL c w (ps.map (·.2)) (vs.map (·.2)) → Flat c w sz es us → pureL es = true →
    ∃ us' : List Value, Instr.fill (fun i => some (i * sz, sz)) us.toArray vs = some us'.toArray ∧ Flat c w sz r us' ∧ pureL r = true ∧ r.length = es.length
  | [], vs, es, r, us, hr, hi, hs, hf, hp => by
    obtain rfl : vs = [] := by cases vs with | nil => rfl | cons _ _ => simp at hi
    simp only [List.map_nil, cop.fillP] at hr; injection hr with hr; subst hr
    exact ⟨us, rfl, hf, hp, rfl⟩
  | (i, v) :: ps, vs, es, r, us, hr, hi, hs, hf, hp => by
    cases vs with
    | nil => simp at hi
    | cons q vs =>
      obtain ⟨j, u⟩ := q
      simp only [List.map_cons, List.cons.injEq] at hi
      obtain ⟨rfl, hi⟩ := hi
      simp only [List.map_cons, cop.fillP] at hr
      rw [chk_some] at hr
      obtain ⟨⟨h1, h2, h3, h4⟩, hr⟩ := hr
      simp only [List.map_cons, SimL] at hs
      obtain ⟨u0, us0, e0, hv, hs'⟩ := hs
      injection e0 with e1 e2; subst e1; subst e2
      obtain ⟨hL, ho⟩ := hv.cells h4
      have hus : u.cells.size = sz := by have := hL.length; simpa [h3] using this
      have hpe : pureL (es.set i v) = true := by
        have : ∀ (l : List AVal) (i : Nat), pureL l = true → pureL (l.set i v) = true := by
          intro l
          induction l with
          | nil => intro i h; simpa using h
          | cons q l ih =>
            intro i h
            have hq : pureV q = true ∧ pureL l = true := by simpa [pureL] using h
            cases i with
            | zero => simpa [pureL, h2] using hq.2
            | succ i => simpa [pureL, hq.1] using ih i hq.2
        exact this es i hp
      obtain ⟨us', k1, k2, k3, k4⟩ := fillP_ok hr hi hs' (hf.set h1 hv hus ho) hpe
      refine ⟨us', ?_, k2, k3, by simpa using k4⟩
      simp only [Instr.fill]
      have hul : us.length = es.length * sz := hf.len
      have hle : i * sz + sz ≤ us.length := by rw [hul, ← Nat.succ_mul]; exact Nat.mul_le_mul_right _ h1
      rw [if_neg (by simp; omega)]
      have he : Array.foldl (fun (cs : Array Value) (p : Value × Nat) => cs.setIfInBounds (i * sz + p.2) p.1) us.toArray u.cells.zipIdx = (setU us (i * sz) u.cells.toList).toArray := by
        have := setU_foldl (i * sz) u.cells.toList us 0
        rw [Nat.add_zero] at this
        rw [← this]
        rw [← Array.foldl_toList]
        simp
      rw [he]
      exact k1

/-- All of them frozen. -/
theorem frzArgs_of {σ : Store} : ∀ {sz : Nat} {ps : List (Nat × AVal)} {es r : List AVal}, cop.fillP sz es (ps.map fun p => (p.1, frz σ p.2)) = some r → ∃ vs : List (Nat × AVal), frzArgs σ (ps.map (·.2)) = some (vs.map (·.2)) ∧ (ps.map fun p => (p.1, frz σ p.2)) = vs.map (fun p => (p.1, some p.2)) ∧ vs.map (·.1) = ps.map (·.1)
  | sz, [], es, r, h => ⟨[], rfl, rfl, rfl⟩
  | sz, (i, v) :: ps, es, r, h => by
    simp only [List.map_cons] at h
    cases hv : frz σ v with
    | none => rw [hv] at h; simp [cop.fillP] at h
    | some v' =>
      rw [hv] at h
      simp only [cop.fillP] at h
      rw [chk_some] at h
      obtain ⟨vs, h1, h2, h3⟩ := frzArgs_of h.2
      exact ⟨(i, v') :: vs, by simp only [List.map_cons, frzArgs, hv, h1], by simp only [List.map_cons, hv, h2], by simp [h3]⟩

theorem partsS_ev (h : Fr P wr G c w s a) : ∀ {ps : List (Nat × Operand)} {qs : List (Nat × AOpd)}, partsS ps = some qs → qs.map (·.1) = (ps.map fun p => (p.1, a.eval p.2)).map (·.1) ∧ SimL c w (qs.map fun p => ev G s p.2) ((ps.map fun p => (p.1, a.eval p.2)).map (·.2))
  | [], qs, hq => by simp only [partsS] at hq; injection hq with hq; subst hq; exact ⟨rfl, by simp [SimL]⟩
  | (i, x) :: ps, qs, hq => by
    simp only [partsS] at hq
    split at hq
    · rename_i x' qs' hx hq'
      injection hq with hq; subst hq
      obtain ⟨h1, h2⟩ := partsS_ev h hq'
      refine ⟨by simpa using h1, ?_⟩
      simp only [List.map_cons, SimL]
      exact ⟨_, _, rfl, h.ev hx, h2⟩
    · cases hq

theorem bsl_ok (h : Fr P wr G c w s a) {t e : TypeId} {z : AVal} {k n site : Nat} {ps : Array (Nat × Operand)} {qs : List (Nat × AOpd)} {r : AVal × Store} {call : AVal → List AVal → Store → Option (AVal × Store)} {raw : FuncId → Bool}
    (ht : P.underlying t = some (.slice e)) (hk : tsize P e = some k) (hz : tzero P e = some z) (hzl : z.cells.length = k) (hpos : 0 < k) (hbig : n * k ≤ 2 ^ 24) (hq : partsS ps.toList = some qs)
    (he : cop G call raw s (.bsl site z n qs) = some r) : YldC P wr c w (do pure (.value (← Instr.buildSlice t n (ps.map fun (i, x) => (i, a.eval x))))) r := by
  obtain ⟨i, zv, hi, hzv, hcz, hnt⟩ := tzero_info hz
  obtain ⟨hLz, hoz, h1z, h2z, h3z⟩ := constV_cells (c := c) (w := w) hcz hnt
  have hzsim : SimV c w z zv := constV_sim hcz
  have hik : i.size = k := by simpa [tsize, hi] using hk
  have hzs : zv.cells.size = k := by have := hLz.length; simpa [hzl] using this
  simp only [cop] at he
  rw [hzl] at he
  split at he
  · rename_i es hfill
    obtain ⟨B, hB, rfl⟩ := lay_spec he
    obtain ⟨e1, e2⟩ := partsS_ev h hq
    have hfill' : cop.fillP k (List.replicate n z) ((qs.map fun p => (p.1, ev G s p.2)).map fun p => (p.1, frz s.σ p.2)) = some es := by
      rw [List.map_map]; exact hfill
    obtain ⟨vs, g1, g2, g3⟩ := frzArgs_of hfill'
    rw [g2] at hfill'
    have e2' : SimL c w ((qs.map fun p => (p.1, ev G s p.2)).map (·.2)) ((ps.toList.map fun p => (p.1, a.eval p.2)).map (·.2)) := by
      rw [List.map_map]; exact e2
    obtain ⟨c1, k1, k2, k3, k4, k5⟩ := markArgs_ok h.σ e2' g1
    have hpz : ∀ m, pureL (List.replicate m z) = true := by
      intro m
      induction m with
      | zero => simp [pureL]
      | succ m ih => simpa [List.replicate_succ, pureL, h3z] using ih
    have hf0 := (flat_zero (c := c) (w := w) hzsim hzs hoz n).mono (c' := c1) k1.F (Kept.refl _ _) (hpz n)
    obtain ⟨us, u1, u2, u3, u4⟩ := fillP_ok hfill' (by rw [g3, List.map_map]; exact e1) k5 hf0 (hpz n)
    have hlenes : es.length = n := by simpa using u4
    have hB' : (markArgs s.σ ((qs.map fun p => (p.1, ev G s p.2)).map (·.2)))[s.base + site]? = some B := by
      rw [List.map_map]; exact hB
    have hka := alloc_kept w (.cells us.toArray e (0, 0)) c1.K k4.K
    have hE : SimE c1 (w.alloc (.cells us.toArray e (0, 0))) w.heap.size k es 0 := by
      refine (u2.mono (fun _ hf => hf) hka.F u3).simE fun j q hj => ?_
      rw [Nat.zero_add]
      simp only [World.cell?, alloc_new]
      simpa using hj
    obtain ⟨c', p1, pd, p2, p3, p4⟩ := new_arr (cap := n) (us := us) (es := es) e (0, 0) k4 hB' hpos u3 u2.one (fun o _ => by simp) (by rw [u2.len, hlenes]) (by omega) hE
    have hrun : (Instr.buildSlice t n (ps.map fun (i, x) => (i, a.eval x))).run P w = .ok (.slice (some ⟨w.heap.size, 0, none⟩) n n) (w.alloc (.cells us.toArray e (0, 0))) := by
      unfold Instr.buildSlice
      rw [Sem.run_bind, run_underlying ht, Result.andThen_ok]
      dsimp only
      rw [Sem.run_bind, run_tsize hk, Result.andThen_ok]
      rw [if_neg (by omega)]
      have hfl : Instr.fill (fun i => some (i * k, k)) (zrow zv.cells.toList n).toArray (ps.toList.map fun p => (p.1, a.eval p.2)) = some us.toArray := u1
      have hfl' : (ps.map fun (i, x) => (i, a.eval x)).toList = ps.toList.map fun p => (p.1, a.eval p.2) := by rw [Array.toList_map]
      rw [hfl']
      by_cases h0 : n * k = 0
      · have hn0 : n = 0 := by
          rcases Nat.mul_eq_zero.1 h0 with h | h
          · exact h
          · omega
        have e0 : (Array.range (n * k)).map ((#[] : Array Value)[· % (#[] : Array Value).size]!) = (zrow zv.cells.toList n).toArray := by
          subst hn0; simp [zrow]
        rw [if_pos h0]
        simp only [Sem.run_bind, Sem.run_pure, Result.andThen_ok]
        rw [e0, hfl]
        simp [newRow]
      · have e0 : (Array.range (n * k)).map (zv.cells[· % zv.cells.size]!) = (zrow zv.cells.toList n).toArray := zrow_eq zv.cells n _ (by omega) (by rw [hzs])
        rw [if_neg h0]
        have hzr : (zeroValue e).run P w = .ok zv w := by simp [zeroValue, typeInfo, hi, hzv]
        simp only [Sem.run_bind, Sem.run_pure, Result.andThen_ok, hzr]
        rw [e0, hfl]
        simp [newRow]
    refine ⟨.value _, .slice (some ⟨w.heap.size, 0, none⟩) n n, c', _, by rw [Sem.run_bind, hrun, Result.andThen_ok]; rfl, .inl rfl, k1.trans p1, pd.trans k3, ?_, ?_, ?_⟩
    · refine p2.mono fun i hi => ?_
      rcases hi with hi | hi
      · exact .inl (k1.F i hi)
      · exact .inr (k3 ▸ hi)
    · rw [List.map_map] at p3
      have e3 : (fun x : Nat × AVal => x.snd) ∘ (fun p : Nat × AOpd => (p.fst, ev G s p.snd)) = fun p => ev G s p.snd := rfl
      rw [e3] at p3
      simpa [hzl] using p3
    · have := p4 n (Nat.le_refl _)
      simpa [hzl] using this
  · cases he

theorem mksl_ok (h : Fr P wr G c w s a) {t e : TypeId} {z : AVal} {n bytes : Nat} {x y : Operand} {x' y' : AOpd} {site : Nat} {r : AVal × Store} {call : AVal → List AVal → Store → Option (AVal × Store)} {raw : FuncId → Bool} (hu : P.underlying t = some (.slice e)) (hz : tzero P e = some z) (hn : tsize P e = some n) (hb : tbytes P e = some bytes)
    (hzl : z.cells.length = n) (hpos : 0 < n) (hx : compOpd x = some x') (hy : compOpd y = some y') (he : cop G call raw s (.mksl site bytes z x' y') = some r) :
    YldC P wr c w (do pure (.value (← Instr.makeSlice t (a.eval x) (a.eval y)))) r := by
  simp only [cop] at he
  split at he
  · rename_i l m hl hm
    rw [chk_some] at he
    obtain ⟨hc, he⟩ := he
    obtain ⟨B, hB, rfl⟩ := lay_spec he
    obtain ⟨i, zv, hi, hzv, hcz, hnt⟩ := tzero_info hz
    obtain ⟨hL, ho, h1, h2, h3⟩ := constV_cells (c := c) (w := w) hcz hnt
    obtain ⟨k1, e1⟩ := idx_sim (h.ev hx) hl
    obtain ⟨k2, e2⟩ := idx_sim (h.ev hy) hm
    have hin : i.size = n := by simpa [tsize, hi] using hn
    have hib : i.bytes = bytes := by simpa [tbytes, hi] using hb
    have hzs : zv.cells.size = n := by have := hL.length; simpa [hzl] using this
    obtain ⟨m', rfl⟩ := Int.eq_ofNat_of_zero_le (show 0 ≤ m by omega)
    obtain ⟨l', rfl⟩ := Int.eq_ofNat_of_zero_le hc.1
    have hlm : l' ≤ m' := Int.ofNat_le.1 hc.2.1
    have hroom : m' * bytes ≤ maxRoom := by have := hc.2.2.1; exact_mod_cast this
    have hroom2 : m' ≤ maxRoom := by have := hc.2.2.2; exact_mod_cast this
    have hfz := flat_zero (c := c) (w := w) (constV_sim hcz) hzs ho m'
    have hul : (zrow zv.cells.toList m').length = m' * n := by rw [hfz.len]; simp
    have hpure : ∀ k, pureL (List.replicate k z) = true := by
      intro k
      induction k with
      | zero => simp [pureL]
      | succ k ih => simpa [List.replicate_succ, pureL, h3] using ih
    have hka := alloc_kept w (.cells (zrow zv.cells.toList m').toArray e (0, 0)) c.K h.σ.K
    have hE : SimE c (w.alloc (.cells (zrow zv.cells.toList m').toArray e (0, 0))) w.heap.size n (List.replicate l' z) 0 := by
      have h0 : SimE c (w.alloc (.cells (zrow zv.cells.toList m').toArray e (0, 0))) w.heap.size n (List.replicate m' z) 0 := by
        refine (hfz.mono (fun _ hf => hf) hka.F (hpure _)).simE fun j q hj => ?_
        rw [Nat.zero_add]
        simp only [World.cell?, alloc_new]
        simpa using hj
      have := h0.take l'
      simpa [List.take_replicate, Nat.min_eq_left hlm] using this
    obtain ⟨c', g1, gd, g2, g3, g4⟩ := new_arr (cap := m') (us := zrow zv.cells.toList m') (es := List.replicate l' z) e (0, 0) h.σ hB hpos (hpure l') hfz.one (fun o _ => by simp) hul (by simpa using hlm) hE
    rw [hzl]
    refine YldC.v (u := .slice (some ⟨w.heap.size, 0, none⟩) l' m') ?_ g1 gd g2 (by simpa using g3) (by simpa using g4 l' hlm)
    have w1 : IntKind.i64.wrap (l' : Int) = l' := by
      unfold maxRoom at hroom2
      simp only [IntKind.wrap, IntKind.bits, IntKind.signed]
      simp
      omega
    have w2 : IntKind.i64.wrap (m' : Int) = m' := by
      unfold maxRoom at hroom2
      simp only [IntKind.wrap, IntKind.bits, IntKind.signed]
      simp
      omega
    have hb1 : ¬ ((281474976710656 : Int) < (bytes : Int) * (m' : Int)) := by
      have : (bytes : Int) * (m' : Int) = ((m' * bytes : Nat) : Int) := by rw [Int.mul_comm]; exact (Int.natCast_mul ..).symm
      rw [this]
      unfold maxRoom at hroom
      omega
    have hb2 : ¬ (roomBytes < m' * bytes) := by
      unfold maxRoom at hroom
      simp only [roomBytes]
      omega
    unfold Instr.makeSlice
    rw [e1, e2]
    have c1 : ((m' : Int) < 0) = False := by simp
    have c2 : ((l' : Int) < 0) = False := by simp
    have c3 : ((m' : Int) < (l' : Int)) = False := by simp; omega
    have hcells : ¬ m' * n = 0 → (Array.range (m' * n)).map (zv.cells[· % zv.cells.size]!) = (zrow zv.cells.toList m').toArray := fun h0 => zrow_eq zv.cells m' _ (by omega) (by rw [hzs])
    have ha1 : (asInt (.int k1 (l' : Int))).run P w = .ok (l' : Int) w := rfl
    have ha2 : (asInt (.int k2 (m' : Int))).run P w = .ok (m' : Int) w := rfl
    by_cases h0 : m' * n = 0
    · have hm0 : m' = 0 := by
        rcases Nat.mul_eq_zero.1 h0 with h | h
        · exact h
        · omega
      subst hm0
      obtain rfl : l' = 0 := by omega
      have hw0 : IntKind.i64.wrap 0 = 0 := by decide
      simp [run_underlying hu, ha1, ha2, typeInfo, hi, hib, sizeOf, hin, newRow, zrow, askRoom, hw0]
      simp_all [zrow, newRow, askRoom]
      have hr0 : (Array.range 0).map (fun _ : Nat => (default : Value)) = #[] := by apply Array.ext'; simp
      rw [hr0]
    · simp [run_underlying hu, ha1, ha2, typeInfo, hi, hib, w1, w2, hb1, c1, c2, c3, sizeOf, hin, zeroValue, hzv, newRow, askRoom, hb2, hcells h0]
      exact fun h => absurd h h0
  · cases he

theorem s2b_ok (h : Fr P wr G c w s a) {q d e : TypeId} {x : Operand} {x' : AOpd} {site : Nat} {r : AVal × Store} {call : AVal → List AVal → Store → Option (AVal × Store)} {raw : FuncId → Bool} (hs : P.underlying q = some .string) (hd : P.underlying d = some (.slice e)) (he8 : P.underlying e = some (.int .u8))
    (hx : compOpd x = some x') (he : cop G call raw s (.s2b site x') = some r) : YldC P wr c w (do pure (.value (← convert q d (a.eval x)))) r := by
  simp only [cop] at he
  split at he
  · rename_i b hb
    obtain ⟨B, hB, rfl⟩ := lay_spec he
    have e1 := (sim_atom (h.evs hx hb)).1
    have hrun := run_bytes_of_string (P := P) w q d e b hs hd he8
    have hge := grownCap_ge w b.size 0 e
    generalize grownCap w b.size 0 e = cap at hrun hge
    have hrow : bytesRow b cap = ((b.toList.map fun x => Value.int .u8 (x.toNat : Int)) ++ List.replicate (cap - b.size) (Value.int .u8 0)).toArray := by
      apply Array.ext'
      rw [ByteArray.toList_eq]
      simp [bytesRow]
    rw [hrow] at hrun
    have hbl : b.toList.length = b.size := by rw [ByteArray.toList_eq]; simp
    have hlen : ((b.toList.map fun x => Value.int .u8 (x.toNat : Int)) ++ List.replicate (cap - b.size) (Value.int .u8 0)).length = cap * 1 := by
      simp [hbl]; omega
    have hone : ∀ q ∈ (b.toList.map fun x => Value.int .u8 (x.toNat : Int)) ++ List.replicate (cap - b.size) (Value.int .u8 0), oneC q = true := by
      intro q hq
      rcases List.mem_append.1 hq with hq | hq
      · obtain ⟨x, _, rfl⟩ := List.mem_map.1 hq; simp [oneC, Value.oneCell']
      · rw [(List.mem_replicate.1 hq).2]; simp [oneC, Value.oneCell']
    have hσd : SimS P wr c w.drew s.σ := h.σ.drew
    have hwd : Kept c.K w w.drew := (Kept.refl c.K w).drew
    have hp : pureL (b.toList.map abyte) = true := by
      generalize b.toList = l
      induction l with
      | nil => simp [pureL]
      | cons q l ih => simpa [pureL, abyte, pureV] using ih
    generalize hsz : ((b.toList.map fun x => Value.int .u8 (x.toNat : Int)) ++ List.replicate (cap - b.size) (Value.int .u8 0)).toArray.size = m at hrun
    have hmlen : m = cap * 1 := by rw [← hsz]; simpa using hlen
    have hE : SimE c (w.drew.alloc (.cells ((b.toList.map fun x => Value.int .u8 (x.toNat : Int)) ++ List.replicate (cap - b.size) (Value.int .u8 0)).toArray e (m, m + 1))) w.drew.heap.size 1 (b.toList.map abyte) 0 := by
      refine SimE.mk fun j q hj => ?_
      rw [List.getElem?_map, Option.map_eq_some_iff] at hj
      obtain ⟨p, hp', rfl⟩ := hj
      refine ⟨.int .u8 p.toNat, by simp [abyte, SimV, atomV], by simp [Value.cells], fun i x hi => ?_⟩
      cases i with
      | zero =>
        simp [Value.cells] at hi
        subst hi
        refine ⟨?_, by simp [oneC, Value.oneCell']⟩
        simp only [World.cell?, alloc_new]
        have hjl := (List.getElem?_eq_some_iff.1 hp').1
        simp only [Nat.zero_add, Nat.mul_one, Nat.add_zero, List.getElem?_toArray]
        rw [List.getElem?_append_left (by simpa using hjl), List.getElem?_map, hp']
        rfl
      | succ i => simp [Value.cells] at hi
    obtain ⟨c', g1, gd, g2, g3, g4⟩ := new_arr (cap := cap) (es := b.toList.map abyte) e (m, m + 1) hσd hB (by omega) hp hone (fun o ho => by rw [hlen, ← hmlen] at ho; simp; omega) hlen (by simp [hbl]; omega) hE
    refine YldC.v (u := .slice (some ⟨w.heap.size, 0, none⟩) b.size cap) ?_ g1 gd (hwd.trans g2 (fun _ hf => hf)) g3 (g4 _ hge)
    rw [e1]; exact hrun
  · cases he
end Go.Abs
