/- The operations that change something: arrays. -/
import Derived.Laws.AppendOwn
import Derived.Laws.IdiomStrings
import Derived.Laws.Strings
import Derived.Test.YtmbleldjdhkkeaaFwY
set_option linter.unusedSimpArgs false
set_option linter.unusedVariables false
namespace Go.Abs
open Go.RowKit
variable {P : Program} {wr : FuncId → Bool} {c : Ctx} {w : World} {G : Nat → Option (List AVal)} {s : AState} {a : Act}

/-- Elements one behind the other, in cells. -/
structure Flat (c : Ctx) (w : World) (sz : Nat) (es : List AVal) (us : List Value) : Prop where
  len : us.length = es.length * sz
  one : ∀ x ∈ us, oneC x = true
  el : ∀ (k : Nat) (e : AVal), es[k]? = some e → ∃ u, SimV c w e u ∧ u.cells.size = sz ∧ ∀ (j : Nat) (x : Value), u.cells[j]? = some x → us[k * sz + j]? = some x

theorem Flat.nil {sz : Nat} : Flat c w sz [] [] := ⟨by simp, by simp, fun k e h => by simp at h⟩
theorem Flat.append {sz : Nat} {es es' : List AVal} {us us' : List Value} (h : Flat c w sz es us) (h' : Flat c w sz es' us') : Flat c w sz (es ++ es') (us ++ us') := by
  refine ⟨by simp [h.len, h'.len, Nat.add_mul], fun x hx => ?_, fun k e hk => ?_⟩
  · rcases List.mem_append.1 hx with hx | hx
    · exact h.one x hx
    · exact h'.one x hx
  · by_cases hlt : k < es.length
    · rw [List.getElem?_append_left hlt] at hk
      obtain ⟨u, h1, h2, h3⟩ := h.el k e hk
      exact ⟨u, h1, h2, fun j x hj => List.getElem?_append_left (List.getElem?_eq_some_iff.1 (h3 j x hj)).1 ▸ h3 j x hj⟩
    · rw [List.getElem?_append_right (by omega)] at hk
      obtain ⟨u, h1, h2, h3⟩ := h'.el _ e hk
      refine ⟨u, h1, h2, fun j x hj => ?_⟩
      have e1 : k * sz + j = us.length + ((k - es.length) * sz + j) := by
        rw [h.len, ← Nat.add_assoc, ← Nat.add_mul, Nat.add_sub_cancel' (by omega)]
      rw [e1, List.getElem?_append_right (by omega), Nat.add_sub_cancel_left]
      exact h3 j x hj
theorem Flat.mono {c' : Ctx} {w' : World} {sz : Nat} {es : List AVal} {us : List Value} (h : Flat c w sz es us) (hF : ∀ i, c.F i → c'.F i) (hk : Kept c.F w w') (hp : pureL es = true) : Flat c' w' sz es us :=
  ⟨h.len, h.one, fun k e hk' => let ⟨u, h1, h2, h3⟩ := h.el k e hk'; ⟨u, SimV.pure hF hk _ _ (pureL_get hp k e hk') h1, h2, h3⟩⟩
theorem Flat.simE {sz blk off : Nat} {es : List AVal} {us : List Value} (h : Flat c w sz es us) (hr : RowAt w blk off us) : SimE c w blk sz es off := by
  refine SimE.mk fun k e hk => ?_
  obtain ⟨u, h1, h2, h3⟩ := h.el k e hk
  refine ⟨u, h1, h2, fun j x hj => ⟨?_, h.one x (List.mem_of_getElem? (h3 j x hj))⟩⟩
  have := hr _ x (h3 j x hj)
  rwa [← Nat.add_assoc] at this

theorem SimE.flat {sz blk : Nat} : ∀ {es : List AVal} {off : Nat}, SimE c w blk sz es off → pureL es = true → ∃ us, Flat c w sz es us ∧ RowAt w blk off us
  | [], off, _, _ => ⟨[], Flat.nil, fun j x h => by simp at h⟩
  | e :: es, off, h, hp => by
    simp only [SimE] at h
    obtain ⟨⟨u, h1, h2⟩, h3⟩ := h
    have hp' : pureV e = true ∧ pureL es = true := by simpa [pureL] using hp
    obtain ⟨us, g1, g2⟩ := SimE.flat h3 hp'.2
    obtain ⟨vs, rfl, hL, hlen, hrow, ho⟩ := CellsAt.sim h1 h2 hp'.1
    have hf1 : Flat c w sz [e] u.cells.toList := ⟨by simpa using hlen, ho, fun k x hk => by
      cases k with
      | zero => simp at hk; subst hk; exact ⟨u, h1, h2.1, fun j x hj => by simpa using hj⟩
      | succ k => simp at hk⟩
    refine ⟨u.cells.toList ++ us, by simpa using hf1.append g1, fun j x hj => ?_⟩
    by_cases hlt : j < u.cells.toList.length
    · rw [List.getElem?_append_left hlt] at hj; exact hrow j x hj
    · rw [List.getElem?_append_right (by omega)] at hj
      have := g2 _ x hj
      rwa [show off + sz + (j - u.cells.toList.length) = off + j by omega] at this

theorem slc0_ok (h : Fr P wr G c w s a) {t e : TypeId} {k site : Nat} {x : Operand} {y : AOpd} {p q : IntKind} {call : AVal → List AVal → Store → Option (AVal × Store)} {raw : FuncId → Bool} {r : AVal × Store} (hu : P.underlying t = some (.slice e)) (hk : tsize P e = some k) (hpos : 0 < k)
    (hx : compOpd x = some y) (he : cop G call raw s (.slc0 site k y) = some r) :
    YldC P wr c w (do pure (.value (← Instr.sliceAt t (a.eval x) none (some (.int p 0)) (some (.int q 0))))) r := by
  have run : ∀ {ad : Option Addr} {len cap : Nat}, a.eval x = .slice ad len cap → lay s site (fun v => .arr v false k []) (fun b v => .own b v k 0 0) = some r →
      YldC P wr c w (do pure (.value (← Instr.sliceAt t (a.eval x) none (some (.int p 0)) (some (.int q 0))))) r := by
    intro ad len cap e1 he
    obtain ⟨B, hB, rfl⟩ := lay_spec he
    obtain ⟨c', h1, hd, h3, h4⟩ := new_none h.σ hB hpos
    refine YldC.v (u := .slice ad 0 0) ?_ h1 hd (Kept.refl _ _) h3 (h4 ad)
    unfold Instr.sliceAt
    rw [Sem.run_bind, run_underlying hu, Result.andThen_ok]
    dsimp only
    unfold Instr.slice
    rw [Sem.run_bind, run_underlying hu, Result.andThen_ok, e1]
    dsimp only
    simp [Instr.sliceBounds, Instr.sliceBound, asIntOf, run_tsize hk]
  have hv := h.ev hx (s := s)
  simp only [cop] at he
  split at he
  · rename_i es hb
    rw [hb] at hv; simp only [SimV] at hv
    obtain ⟨ad, cap, e1, _⟩ := hv
    exact run e1 he
  · rename_i hb
    rw [hb] at hv; simp only [SimV] at hv
    obtain ⟨_, _, ad, cap, e1, _⟩ := hv
    exact run e1 he
  · rename_i hb
    rw [hb] at hv
    exact run (sim_atom hv).1 he
  · cases he

/-! append -/
theorem run_app_grow {t u ty e : TypeId} {d : TypeDesc} {i : TypeInfo} {z x : Value} {base : Option Addr} {sLen sCap n : Nat} {olds news : List Value} (ht : P.underlying t = some (.slice e)) (hu : P.underlying u = some d) (hd : ∀ k, d ≠ .int k) (hi : P.info? e = some i) (hz : i.zero = some z)
    (hlen : (Builtin.lenOf x).run P w = .ok n w) (hold : (Builtin.firstCells i.size sLen (.slice base sLen sCap)).run P w.drew = .ok olds.toArray w.drew) (hnew : (Builtin.firstCells i.size n x).run P w.drew = .ok news.toArray w.drew)
    (hg : sCap < sLen + n) (h63 : ((sLen + n : Nat) : Int) ≤ 9223372036854775807) (hfit : Builtin.nextslicecap (sLen + n) sCap * i.bytes ≤ 281474976710656) :
    (Builtin.append_ #[t, u] ty #[.slice base sLen sCap, x]).run P w =
      .ok (.slice (some ⟨w.heap.size, 0, none⟩) (sLen + n) (grownCap w (sLen + n) sCap e)) (w.drew.alloc (.cells (olds ++ news ++ (Builtin.zeroCells z.cells (grownCap w (sLen + n) sCap e - (sLen + n))).toList).toArray e)) := by
  have hn : ¬ (sLen + n ≤ sCap) := by omega
  have h63' : ¬ (9223372036854775807 < ((sLen : Int) + (n : Int))) := by omega
  have h48' : ¬ (281474976710656 < Builtin.nextslicecap (sLen + n) sCap * i.bytes) := by omega
  have hk : (d matches .int _) = false := by cases d <;> first | rfl | exact absurd rfl (hd _)
  simp [Builtin.append_, run_underlying ht, run_underlying hu, hk, sizeOf, typeInfo, zeroValue, hi, hz, hlen, hn, h63', h48', Question.forced, hold, hnew, newRow, grownCap]
  congr 2
  apply Array.ext'
  simp

theorem run_app_fits {t u ty e : TypeId} {d : TypeDesc} {i : TypeInfo} {x : Value} {base : Option Addr} {sLen sCap n : Nat} {news : List Value} (ht : P.underlying t = some (.slice e)) (hu : P.underlying u = some d) (hd : ∀ k, d ≠ .int k) (hi : P.info? e = some i)
    (hlen : (Builtin.lenOf x).run P w = .ok n w) (hnew : (Builtin.firstCells i.size n x).run P w = .ok news.toArray w) (hg : sLen + n ≤ sCap) :
    (Builtin.append_ #[t, u] ty #[.slice base sLen sCap, x]).run P w = (do (match base with | some a => storeCells (a.add (sLen * i.size)) news | none => pure ()); pure (Value.slice base (sLen + n) sCap)).run P w := by
  have hk : (d matches .int _) = false := by cases d <;> first | rfl | exact absurd rfl (hd _)
  simp [Builtin.append_, run_underlying ht, run_underlying hu, hk, sizeOf, typeInfo, hi, hlen, hg, hnew]
  cases base with
  | none => rfl
  | some ad =>
    simp only [map_eq_pure_bind, Sem.run_bind]
    rfl

theorem loadCells_drew {blk o : Nat} {us : List Value} (h : RowAt w blk o us) : (loadCells ⟨blk, o, none⟩ us.length).run P w.drew = .ok us.toArray w.drew :=
  run_loadCells_row (w := w.drew) (fun j x hj => h j x hj)

/-- What is appended. -/
theorem appended_ok (h : Fr P wr G c w s a) {sz : Nat} {y : Operand} {y' : AOpd} {ys : List AVal} (hy : compOpd y = some y')
    (he : (match ev G s y' with
      | .atom (.string b) => chk (sz = 1) (some (b.toList.map abyte))
      | .sl es => chk (unif sz es = true) (some es)
      | .sn es => chk (unif sz es = true) (some es)
      | .own b ver k off len => chk (k = sz) (cont s.σ (.own b ver k off len))
      | v => cont s.σ v) = some ys) :
    ∃ news, Flat c w sz ys news ∧ pureL ys = true ∧ (Builtin.lenOf (a.eval y)).run P w = .ok ys.length w ∧ (Builtin.firstCells sz ys.length (a.eval y)).run P w = .ok news.toArray w ∧ (Builtin.firstCells sz ys.length (a.eval y)).run P w.drew = .ok news.toArray w.drew := by
  have hv := h.ev hy (s := s)
  have fromSl : ∀ {ad : Option Addr} {cap : Nat}, a.eval y = .slice ad ys.length cap → pureL ys = true → (ys = [] ∨ ∃ blk off, ad = some ⟨blk, off, none⟩ ∧ SimE c w blk sz ys off) →
      ∃ news, Flat c w sz ys news ∧ pureL ys = true ∧ (Builtin.lenOf (a.eval y)).run P w = .ok ys.length w ∧ (Builtin.firstCells sz ys.length (a.eval y)).run P w = .ok news.toArray w ∧ (Builtin.firstCells sz ys.length (a.eval y)).run P w.drew = .ok news.toArray w.drew := by
    intro ad cap e1 hp hor
    rw [e1]
    rcases hor with rfl | ⟨blk, off, rfl, hE⟩
    · refine ⟨[], Flat.nil, hp, rfl, ?_, ?_⟩
      · cases ad with
        | none => rfl
        | some ad => simp only [Builtin.firstCells, List.length_nil, Nat.zero_mul]; rfl
      · cases ad with
        | none => rfl
        | some ad => simp only [Builtin.firstCells, List.length_nil, Nat.zero_mul]; rfl
    · obtain ⟨us, g1, g2⟩ := hE.flat hp
      refine ⟨us, g1, hp, rfl, ?_, ?_⟩
      · simp only [Builtin.firstCells]; rw [← g1.len]; exact run_loadCells_row g2
      · simp only [Builtin.firstCells]; rw [← g1.len]; exact loadCells_drew g2
  have fromCont : ∀ {v : AVal}, ev G s y' = v → cont s.σ v = some ys → (∀ es, v ≠ .sl es) → (∀ b ver k o l, v = .own b ver k o l → k = sz) →
      ∃ news, Flat c w sz ys news ∧ pureL ys = true ∧ (Builtin.lenOf (a.eval y)).run P w = .ok ys.length w ∧ (Builtin.firstCells sz ys.length (a.eval y)).run P w = .ok news.toArray w ∧ (Builtin.firstCells sz ys.length (a.eval y)).run P w.drew = .ok news.toArray w.drew := by
    intro v hev hc hno hk
    obtain ⟨ad, cap, e1, hcap, hp, hor⟩ := cont_row h (hev ▸ hv) hc
    refine fromSl e1 hp ?_
    rcases hor with hor | ⟨blk, off, sz', rfl, hE, hown⟩
    · exact .inl hor
    · refine .inr ⟨blk, off, rfl, ?_⟩
      have : sz' = sz := by
        unfold cont at hc
        split at hc
        · injection hc with hc; subst hc
          exfalso
          obtain ⟨e, _⟩ := sim_atom (hev ▸ hv : SimV c w (.atom (.slice none 0 0)) (a.eval y))
          rw [e] at e1; injection e1 with e1; cases e1
        · exact absurd rfl (hno _)
        · rename_i b ver k off' len
          exact (hown _ _ _ _ _ rfl).trans (hk _ _ _ _ _ rfl)
        · cases hc
      rw [← this]; exact hE
  split at he
  · rename_i b hb
    rw [chk_some] at he
    obtain ⟨rfl, he⟩ := he
    injection he with he; subst he
    have e1 := (sim_atom (h.evs hy hb)).1
    rw [e1]
    have hsz : (b.toList.map abyte).length = b.size := by rw [ByteArray.toList_eq]; simp
    have hcells : (b.extract 0 b.size).data.map (fun x => Value.int .u8 (x.toNat : Int)) = (b.toList.map fun x => Value.int .u8 (x.toNat : Int)).toArray := by
      apply Array.ext'
      rw [ByteArray.toList_eq]
      simp
    have hf : ∀ w', (Builtin.firstCells 1 (b.toList.map abyte).length (.string b)).run P w' = .ok (b.toList.map fun x => Value.int .u8 (x.toNat : Int)).toArray w' := by
      intro w'
      rw [hsz]
      simp only [Builtin.firstCells]
      rw [hcells]
      rfl
    refine ⟨b.toList.map fun x => Value.int .u8 (x.toNat : Int), ⟨by simp, ?_, fun k e hk => ?_⟩, ?_, ?_, hf w, hf w.drew⟩
    · intro x hx
      obtain ⟨q, _, rfl⟩ := List.mem_map.1 hx
      simp [oneC, Value.oneCell']
    · rw [List.getElem?_map, Option.map_eq_some_iff] at hk
      obtain ⟨q, hq, rfl⟩ := hk
      refine ⟨.int .u8 q.toNat, by simp [abyte, SimV, atomV], by simp [Value.cells], fun j x hj => ?_⟩
      cases j with
      | zero =>
        simp [Value.cells] at hj
        subst hj
        rw [Nat.mul_one, Nat.add_zero, List.getElem?_map, hq]; rfl
      | succ j => simp [Value.cells] at hj
    · generalize b.toList = l
      induction l with
      | nil => simp [pureL]
      | cons q l ih => simpa [pureL, abyte, pureV] using ih
    · rw [hsz]; rfl
  · rename_i es hb
    rw [chk_some] at he
    obtain ⟨hun, he⟩ := he
    injection he with he; subst he
    have hs := h.evs hy hb
    simp only [SimV] at hs
    obtain ⟨ad, cap, e1, hcap, hp, _, hor⟩ := hs
    refine fromSl e1 hp ?_
    rcases hor with hor | ⟨sz', blk, off, rfl, hF, hE⟩
    · exact .inl hor
    · by_cases hne : es = []
      · exact .inl hne
      · have := hE.unif hp hun hne
        subst this
        exact .inr ⟨blk, off, rfl, hE⟩
  · rename_i es hb
    rw [chk_some] at he
    obtain ⟨hun, he⟩ := he
    injection he with he; subst he
    have hs := h.evs hy hb
    simp only [SimV] at hs
    obtain ⟨ad, cap, e1, hcap, hp, hor⟩ := hs
    refine fromSl e1 hp ?_
    rcases hor with hor | ⟨sz', blk, off, rfl, hF, hE⟩
    · exact .inl hor
    · by_cases hne : es = []
      · exact .inl hne
      · have := hE.unif hp hun hne
        subst this
        exact .inr ⟨blk, off, rfl, hE⟩
  · rename_i b ver k off len hb
    rw [chk_some] at he
    exact fromCont hb he.2 (fun es e => by cases e) (fun _ _ _ _ _ e => by injection e with _ _ e; exact e ▸ he.1)
  · rename_i hno1 hno2 hno2' hno3
    exact fromCont rfl he (fun es e => hno2 _ e) (fun b ver k o l e => absurd e (hno3 _ _ _ _ _))

/-- More elements, in the same block. -/
theorem more_arr {σ : Store} {b ver sz : Nat} {es ys : List AVal} {news : List Value} (h : SimS P wr c w σ) (hb : σ[b]? = some (.arr ver false sz es)) (hnb : c.nb b = false) (hf : Flat c w sz ys news) (hp : pureL ys = true) (hle : es.length + ys.length ≤ c.cp b) :
    ∃ c' w', (storeCells ⟨c.ρ b, es.length * sz, none⟩ news).run P w = .ok () w' ∧ CtxLe c c' ∧ c'.D = c.D ∧ Kept c.K w w' ∧ SimS P wr c' w' (σ.set b (.arr (ver + 1) false sz (es ++ ys))) ∧
      ∀ len cap, len ≤ cap → cap ≤ c.cp b → ∀ ad, (0 < cap → ad = ⟨c.ρ b, 0, none⟩) → SimV c' w' (.own b (ver + 1) sz 0 len) (.slice (some ad) len cap) := by
  obtain ⟨h1, h2, h3, h4, h5, h6⟩ := h.box b _ hb
  have hA := h6 hnb
  obtain ⟨cs, t', fr, hheap, hcsz, hfr, hone', hE⟩ := hA.row
  have hcs : cs = cs.toList.toArray := by simp
  rw [hcs] at hheap
  have hblt : b < σ.length := (List.getElem?_eq_some_iff.1 hb).1
  have hlt' : c.ρ b < w.heap.size := (Array.getElem?_eq_some_iff.1 hheap).1
  have hbd : es.length * sz + news.length ≤ cs.toList.length := by
    rw [hf.len, ← Nat.add_mul]
    have : cs.toList.length = c.cp b * sz := by rw [Array.length_toList]; exact hcsz
    rw [this]
    exact Nat.mul_le_mul_right _ hle
  have hFr : ¬ c.F (c.ρ b) := fun hf => by have := hA.frz.1 hf; cases this
  have hD := h.dis b _ hb hnb
  have hrun := run_storeRow (P := P) (b := c.ρ b) (o := es.length * sz) (i := 0) (vs := news) hheap (by simpa using hfr) (by omega) hf.one
  have hw : ∃ w', (storeCells ⟨c.ρ b, es.length * sz, none⟩ news).run P w = .ok () w' ∧ Kept c.K w w' ∧ (∀ j, j < w.heap.size → j ≠ c.ρ b → w'.heap[j]? = w.heap[j]?) ∧ w'.heap[c.ρ b]? = some (.cells (setU cs.toList (es.length * sz) news).toArray t' fr) := by
    by_cases hz : news = []
    · rw [if_pos hz] at hrun
      refine ⟨w, hrun, Kept.refl _ _, fun _ _ _ => rfl, ?_⟩
      rw [hz]; exact hheap
    · rw [if_neg hz] at hrun
      refine ⟨_, hrun, layAt_kept _ _ _ (fun hK => hK.elim hFr hD) (fun r hr => by rw [hheap] at hr; cases hr), fun j hj hne => by rw [layAt_get, if_neg (fun hh => hne hh.1)], ?_⟩
      rw [layAt_get, if_pos ⟨rfl, hlt'⟩, Nat.add_zero]
  obtain ⟨w', hrun2, hk, hother, hnew⟩ := hw
  let c' := c.at_ b (ver + 1) (c.ρ b) sz (c.cp b) false
  have hle' : CtxLe c c' := Ctx.at_le (by omega)
  refine ⟨c', w', hrun2, hle', rfl, hk, ?_, fun len cap hl hc ad had => ?_⟩
  · refine h.upd hb hle' (fun _ => Iff.rfl) rfl rfl Ctx.at_other hk.F (fun i hi hne => hother i hi (by simpa [c', Ctx.at_] using hne)) (fun _ => ⟨.inr (.inl ⟨by simp [c', Ctx.at_], hnb⟩), by simpa [c', Ctx.at_] using hFr⟩) (fun hno => absurd (by simp [hasBlk, c', Ctx.at_]) hno) ?_
    refine ⟨by simp [c', Ctx.at_], by simp [c', Ctx.at_], h3, pureL_append h4 hp, fun hn => by simp [c', Ctx.at_] at hn, fun _ => ⟨⟨fun hf => absurd hf (by simpa [c', Ctx.at_] using hFr), fun hf => (by cases hf)⟩, by simpa [c', Ctx.at_] using hle, _, t', fr, by simpa [c', Ctx.at_] using hnew, by simpa [c', Ctx.at_, setU_length] using hcsz, by simpa [setU_length] using hfr, ?_, ?_⟩⟩
    · intro x hx
      exact setU_one (cs := cs.toList) (off := es.length * sz) (fun q hq => hone' q (by simpa using hq)) hf.one x (by simpa using hx)
    · have hg : ∀ m x, (setU cs.toList (es.length * sz) news)[m]? = some x → w'.cell? ⟨c.ρ b, m, none⟩ = some x := by
        intro m x hm
        simp only [World.cell?, hnew]
        simpa using hm
      have hρ : c'.ρ b = c.ρ b := by simp [c', Ctx.at_]
      rw [hρ]
      refine SimE.append ?_ ?_
      · refine SimE.mk fun j q hj => ?_
        rw [Nat.zero_add]
        obtain ⟨uj, q1, q2⟩ := hE.get j q hj
        rw [Nat.zero_add] at q2
        refine ⟨uj, SimV.pure (c := c) (c' := c') (fun _ hf => hf) hk.F _ _ (pureL_get h4 j q hj) q1, q2.1, fun m x hm => ⟨hg _ x ?_, (q2.2 m x hm).2⟩⟩
        have hmk : m < sz := by have := (Array.getElem?_eq_some_iff.1 hm).1; have := q2.1; omega
        have hjl : j < es.length := (List.getElem?_eq_some_iff.1 hj).1
        have : (j + 1) * sz ≤ es.length * sz := Nat.mul_le_mul_right _ hjl
        rw [Nat.succ_mul] at this
        rw [setU_get _ _ _ hbd, if_neg (by omega)]
        have h0 := (q2.2 m x hm).1
        simp only [World.cell?, hheap] at h0
        simpa using h0
      · rw [Nat.zero_add]
        refine (hf.mono (c' := c') (fun _ hf => hf) hk.F hp).simE fun j x hj => hg _ x ?_
        have hjl : j < news.length := (List.getElem?_eq_some_iff.1 hj).1
        rw [setU_get _ _ _ hbd, if_pos (by omega), Nat.add_sub_cancel_left]
        exact hj
  · simp only [SimV]
    refine ⟨?_, by simp [c', Ctx.at_], _, _, rfl, hl, (by intro e; cases e), fun _ => ⟨by simp [c', Ctx.at_], by simp [c', Ctx.at_], fun _ => ⟨by simpa [c', Ctx.at_] using hc, _, rfl, fun hp' => by simpa [c', Ctx.at_] using had hp'⟩⟩⟩
    show b < c.n
    rw [h.n]; exact hblt

theorem zeroCells_list {z : AVal} {zv : Value} {e : TypeId} {k : Nat} (hL : SimL c w z.cells zv.cells.toList) (hz : z.cells.length = k) (hpos : 0 < k) (n : Nat) :
    (Builtin.zeroCells zv.cells n).toList = zrow zv.cells.toList n := by
  have hs : zv.cells.size = k := by have := hL.length; simpa [hz] using this
  unfold Builtin.zeroCells
  rw [zrow_eq zv.cells n _ (by omega) rfl]

theorem app_ok (h : Fr P wr G c w s a) {t u ty e : TypeId} {d : TypeDesc} {z : AVal} {k bytes site : Nat} {x y : Operand} {x' y' : AOpd} {consts : Array Bool} {r : AVal × Store} {call : AVal → List AVal → Store → Option (AVal × Store)} {raw : FuncId → Bool}
    (ht : P.underlying t = some (.slice e)) (hu : P.underlying u = some d) (hd : ∀ q, d ≠ .int q) (hk : tsize P e = some k) (hb : tbytes P e = some bytes) (hz : tzero P e = some z) (hzl : z.cells.length = k) (hpos : 0 < k)
    (hx : compOpd x = some x') (hy : compOpd y = some y') (he : cop G call raw s (.app site bytes k x' y') = some r) :
    YldC P wr c w (builtin .append #[t, u] ty consts #[a.eval x, a.eval y]) r := by
  obtain ⟨i, zv, hi, hzv, hcz, hnt⟩ := tzero_info hz
  obtain ⟨hLz, hoz, h1z, h2z, h3z⟩ := constV_cells (c := c) (w := w) hcz hnt
  have hik : i.size = k := by simpa [tsize, hi] using hk
  have hib : i.bytes = bytes := by simpa [tbytes, hi] using hb
  have hzs : zv.cells.size = k := by have := hLz.length; simpa [hzl] using this
  simp only [cop] at he
  split at he
  · rename_i ys hys
    obtain ⟨news, hf, hp, hlen, hn1, hn2⟩ := appended_ok h hy hys
    rw [← hik] at hn1 hn2
    -- a block of its own
    have grow : ∀ {base : Option Addr} {es : List AVal} {olds : List Value} {sCap b : Nat} {B : Box}, a.eval x = .slice base es.length sCap → s.σ[b]? = some B → Flat c w k es olds → pureL es = true →
        (Builtin.firstCells i.size es.length (.slice base es.length sCap)).run P w.drew = .ok olds.toArray w.drew → sCap < es.length + ys.length → es.length ≤ sCap → (es.length + ys.length) * bytes ≤ maxRoom → es.length + ys.length ≤ maxRoom →
        YldC P wr c w (builtin .append #[t, u] ty consts #[a.eval x, a.eval y]) (.own b (B.ver + 1) k 0 (es.length + ys.length), s.σ.set b (.arr (B.ver + 1) false k (es ++ ys))) := by
      intro base es olds sCap b B e1 hB hfo hpo hold hlt hcap hroom hroom2
      have hbig : Builtin.nextslicecap (es.length + ys.length) sCap * i.bytes ≤ 281474976710656 := by
        rw [hib]
        exact growslice_fits hlt (by have := hroom; unfold maxRoom at this; omega)
      have hrun := run_app_grow (ty := ty) ht hu hd hi hzv hlen hold hn2 hlt (by unfold maxRoom at hroom2; omega) hbig
      have hge := grownCap_ge w (es.length + ys.length) sCap e
      generalize hcapE : grownCap w (es.length + ys.length) sCap e = cap' at hrun hge
      rw [zeroCells_list (e := e) hLz hzl hpos] at hrun
      have hwd : Kept c.K w w.drew := (Kept.refl c.K w).drew
      have hone : ∀ q ∈ olds ++ news ++ zrow zv.cells.toList (cap' - (es.length + ys.length)), oneC q = true := by
        intro q hq
        rcases List.mem_append.1 hq with hq | hq
        · rcases List.mem_append.1 hq with hq | hq
          · exact hfo.one q hq
          · exact hf.one q hq
        · exact hoz q (zrow_mem hq)
      have hlenU : (olds ++ news ++ zrow zv.cells.toList (cap' - (es.length + ys.length))).length = cap' * k := by
        have hzl' : zv.cells.toList.length = k := by simpa using hzs
        simp only [List.length_append, hfo.len, hf.len, zrow_length, hzl']
        rw [← Nat.add_mul, ← Nat.add_mul]
        congr 1
        omega
      have hσd : SimS P wr c w.drew s.σ := h.σ.drew
      have hka := alloc_kept w.drew (.cells (olds ++ news ++ zrow zv.cells.toList (cap' - (es.length + ys.length))).toArray e (0, 0)) c.K hσd.K
      have hE : SimE c (w.drew.alloc (.cells (olds ++ news ++ zrow zv.cells.toList (cap' - (es.length + ys.length))).toArray e (0, 0))) w.drew.heap.size k (es ++ ys) 0 := by
        refine ((hfo.append hf).mono (fun _ hf => hf) (hwd.trans hka (fun _ hf => hf)).F (pureL_append hpo hp)).simE fun j q hj => ?_
        rw [Nat.zero_add]
        simp only [World.cell?, alloc_new]
        have hjl := (List.getElem?_eq_some_iff.1 hj).1
        have : (olds ++ news ++ zrow zv.cells.toList (cap' - (es.length + ys.length)))[j]? = some q := by
          rw [List.getElem?_append_left hjl]; exact hj
        simpa using this
      obtain ⟨c', g1, gd, g2, g3, g4⟩ := new_arr (cap := cap') (es := es ++ ys) e (0, 0) hσd hB hpos (pureL_append hpo hp) hone (fun o _ => by simp) hlenU (by simpa using hge) hE
      have hrun' : (Builtin.append_ #[t, u] ty #[a.eval x, a.eval y]).run P w = .ok (.slice (some ⟨w.drew.heap.size, 0, none⟩) (es.length + ys.length) cap') (w.drew.alloc (.cells (olds ++ news ++ zrow zv.cells.toList (cap' - (es.length + ys.length))).toArray e (0, 0))) := by
        rw [e1]; exact hrun
      exact YldC.v hrun' g1 gd (hwd.trans g2 (fun _ hf => hf)) g3 (g4 _ (by simpa using hge))
    split at he
    · rename_i hb'
      have e1 := (sim_atom (h.evs hx hb')).1
      rw [chk_some] at he
      obtain ⟨⟨hroom, hroom2⟩, he⟩ := he
      split at he
      · rename_i hnil
        injection he with he; subst he
        subst hnil
        have hrun := run_app_fits (ty := ty) (base := none) (sLen := 0) (sCap := 0) ht hu hd hi hlen hn1 (by simp)
        refine ⟨_, .slice none 0 0, c, w, ?_, .inl rfl, CtxLe.refl c, rfl, Kept.refl _ _, h.σ, sim_mk rfl⟩
        rw [e1]
        show (do pure (Next.value (← Builtin.append_ #[t, u] ty #[.slice none 0 0, a.eval y])) : Sem Next).run P w = _
        rw [Sem.run_bind, hrun]; rfl
      · rename_i hnn
        obtain ⟨B, hB, rfl⟩ := lay_spec he
        have := grow (base := none) (es := []) (olds := []) (sCap := 0) (b := s.base + site) e1 hB Flat.nil (by simp [pureL]) rfl (by simp; exact List.length_pos_iff.2 hnn) (Nat.le_refl _) (by simpa using hroom) (by simpa using hroom2)
        simpa using this
    · rename_i b ver q off len hb'
      split at he
      · rename_i v k' es hbox
        rw [chk_some] at he
        obtain ⟨⟨rfl, rfl, rfl, rfl, hroom, hroom2⟩, he⟩ := he
        injection he with he; subst he
        have hv := h.evs hx hb'
        simp only [SimV] at hv
        obtain ⟨hlt, hver, ad, cap, e1, hcap, hnil, hcur⟩ := hv
        obtain ⟨h1, h2, h3, h4, h5, h6⟩ := h.σ.box b _ hbox
        obtain ⟨q1, q2, q3⟩ := hcur h1.symm
        have hlenY : ys.length = ys.length := rfl
        by_cases hnb : c.nb b = true
        · obtain ⟨_, r2, r3⟩ := q2 hnb
          have hes := h5 hnb
          subst hes
          subst r3
          by_cases hys0 : ys = []
          · subst hys0
            -- nothing at all
            have hrun := run_app_fits (ty := ty) (base := ad) (sLen := 0) (sCap := 0) ht hu hd hi hlen hn1 (by simp)
            have hn0 : news = [] := List.length_eq_zero_iff.1 (by rw [hf.len]; simp)
            subst hn0
            obtain ⟨c', g1, gd, g3, g4⟩ := new_none h.σ hbox hpos
            refine ⟨_, .slice ad 0 0, c', w, ?_, .inl rfl, g1, gd, Kept.refl _ _, ?_, ?_⟩
            · rw [e1]
              show (do pure (Next.value (← Builtin.append_ #[t, u] ty #[.slice ad 0 0, a.eval y])) : Sem Next).run P w = _
              rw [Sem.run_bind, hrun]
              cases ad <;> rfl
            · simpa [Box.ver] using g3
            · simpa [Box.ver] using g4 ad
          · have hold : (Builtin.firstCells i.size ([] : List AVal).length (.slice ad ([] : List AVal).length 0)).run P w.drew = .ok ([] : List Value).toArray w.drew := by
              cases ad with
              | none => rfl
              | some ad => simp only [Builtin.firstCells, List.length_nil, Nat.zero_mul]; rfl
            have := grow (base := ad) (es := []) (olds := []) (sCap := 0) (b := b) e1 hbox Flat.nil (by simp [pureL]) hold (by simp; exact List.length_pos_iff.2 hys0) (Nat.le_refl _) hroom hroom2
            simpa [Box.ver] using this
        · have hnb : c.nb b = false := by simpa using hnb
          obtain ⟨r1, ad', rfl, r2⟩ := q3 hnb
          have hA := h6 hnb
          obtain ⟨cs, t', fr, hheap, hcsz, hfr, hone', hE⟩ := hA.row
          rw [h2] at q1
          subst q1
          obtain ⟨olds, hfo, hro⟩ := hE.flat h4
          by_cases hfit : es.length + ys.length ≤ cap
          · obtain ⟨c', w', g0, g1, gd, gk, g2, g3⟩ := more_arr h.σ hbox hnb hf hp (by omega)
            have hrun := run_app_fits (ty := ty) (base := some ad') (sLen := es.length) (sCap := cap) ht hu hd hi hlen hn1 hfit
            have hst : (storeCells (ad'.add (es.length * i.size)) news).run P w = .ok () w' := by
              by_cases hc0 : cap = 0
              · have hn0 : news = [] := List.length_eq_zero_iff.1 (by rw [hf.len]; have : ys.length = 0 := (by omega); simp [this])
                subst hn0
                rw [← g0]; rfl
              · rw [r2 (by omega), addr_add, hik]; simpa using g0
            refine ⟨_, .slice (some ad') (es.length + ys.length) cap, c', w', ?_, .inl rfl, g1, gd, gk, g2, g3 _ cap hfit (by omega) ad' (fun hp' => by simpa using r2 hp')⟩
            rw [e1]
            show (do pure (Next.value (← Builtin.append_ #[t, u] ty #[.slice (some ad') es.length cap, a.eval y])) : Sem Next).run P w = _
            rw [Sem.run_bind, hrun, Sem.run_bind]
            dsimp only
            rw [hst]; rfl
          · have hold : (Builtin.firstCells i.size es.length (.slice (some ad') es.length cap)).run P w.drew = .ok olds.toArray w.drew := by
              simp only [Builtin.firstCells]
              rw [hik, ← hfo.len]
              by_cases hc0 : cap = 0
              · have : es = [] := List.length_eq_zero_iff.1 (by omega)
                subst this
                have hn0 : olds = [] := List.length_eq_zero_iff.1 (by rw [hfo.len]; simp)
                subst hn0; rfl
              · rw [r2 (by omega)]; simpa using loadCells_drew hro
            have := grow (base := some ad') (es := es) (olds := olds) (sCap := cap) (b := b) e1 hbox hfo h4 hold (by omega) hcap hroom hroom2
            simpa [Box.ver] using this
      · cases he
    · cases he
  · cases he
end Go.Abs
