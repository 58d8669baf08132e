/- Arguments of any plain type, opened: the abstract machine's values of them, and what they look like. -/
import Derived.Test.YtmbleldjdhkkeaaFwRow
set_option linter.unusedSimpArgs false
set_option linter.unusedVariables false
namespace Go.Abs
open Go.ChangeShapes Go.WideShapes Go.ChangeAt Go.RowKit

/-- The cells of a type's value (n: how deep it is looked). -/
def TypL (P : Program) : Nat → TypeId → List AVal → Prop
  | 0, _, _ => False
  | n + 1, t, as =>
    match P.underlying t with
    | some .bool => ∃ b, as = [abool b]
    | some (.int k) => ∃ i, as = [.atom (.int k i)] ∧ (Lit.int k i).wf = true
    | some .string => ∃ s : ByteArray, as = [.atom (.string s)] ∧ s.size ≤ maxLen
    | some (.slice e) => ∃ es : List AVal, as = [.sl es] ∧ es.length ≤ maxLen ∧ ∀ x ∈ es, TypL P n e x.cells ∧ (tagg P e = some true → ∃ cs, x = .agg cs) ∧ (tagg P e = some false → x.cells = [x])
    | some (.struct fs) => as.length = P.cellsOf t ∧ ∀ f ∈ fs.toList, TypL P n f.type ((as.drop f.offset).take (P.cellsOf f.type))
    | some (.array m e) => as.length = P.cellsOf t ∧ ∀ i, i < m → TypL P n e ((as.drop (i * P.cellsOf e)).take (P.cellsOf e))
    | _ => False

/-- Only such types, down to the ground. -/
def plainTy (P : Program) : Nat → TypeId → Bool
  | 0, _ => false
  | n + 1, t =>
    match P.underlying t with
    | some .bool | some (.int _) | some .string => true
    | some (.slice e) => plainTy P n e && decide (0 < P.cellsOf e) && (match P.underlying e with | some (.struct _) | some (.array _ _) => true | some _ => decide (P.cellsOf e = 1) | none => false)
    | some (.struct fs) => fs.toList.all fun f => plainTy P n f.type
    | some (.array _ e) => plainTy P n e
    | _ => false

/-- the fields lie one behind the other -/
def tiles (P : Program) : List Field → Nat → Nat → Bool
  | [], off, e => decide (off = e)
  | f :: fs, off, e => decide (f.offset = off) && tiles P fs (off + P.cellsOf f.type) e
/-- every cell of the struct lies in one of its fields; of the array, in one of its elements -/
def fullTy (P : Program) : Nat → TypeId → Bool
  | 0, _ => false
  | n + 1, t =>
    match P.underlying t with
    | some (.slice e) => fullTy P n e
    | some (.struct fs) => (fs.toList.all fun f => fullTy P n f.type) && tiles P fs.toList 0 (P.cellsOf t)
    | some (.array m e) => fullTy P n e && decide (P.cellsOf t = m * P.cellsOf e)
    | _ => true


/-- Cell by cell. -/
theorem simL_of {c : Ctx} {w : World} : ∀ {as : List AVal} {us : List Value}, as.length = us.length → (∀ (j : Nat) (a : AVal) (u : Value), as[j]? = some a → us[j]? = some u → SimV c w a u) → SimL c w as us
  | [], [], _, _ => by simp [SimL]
  | [], _ :: _, h, _ => by simp at h
  | _ :: _, [], h, _ => by simp at h
  | a :: as, u :: us, h, hj => by
    simp only [SimL]
    exact ⟨u, us, rfl, hj 0 a u rfl rfl, simL_of (by simpa using h) fun j x y hx hy => hj (j + 1) x y (by simpa using hx) (by simpa using hy)⟩

theorem pureL_of : ∀ {as : List AVal}, (∀ a ∈ as, pureV a = true) → pureL as = true
  | [], _ => by simp [pureL]
  | a :: as, h => by simp [pureL, h a (by simp), pureL_of (as := as) fun x hx => h x (by simp [hx])]
theorem oneL_of : ∀ {as : List AVal}, (∀ a ∈ as, oneA a = true) → oneL as = true
  | [], _ => by simp [oneL]
  | a :: as, h => by simp [oneL, h a (by simp), oneL_of (as := as) fun x hx => h x (by simp [hx])]

/-- What is known of a row of cells. -/
structure Row1 (c : Ctx) (w : World) (us : List Value) (as : List AVal) : Prop where
  len : as.length = us.length
  sim : ∀ (j : Nat) (a : AVal) (u : Value), as[j]? = some a → us[j]? = some u → SimV c w a u ∧ oneC u = true ∧ oneA a = true ∧ pureV a = true

theorem Row1.one {c : Ctx} {w : World} {a : AVal} {u : Value} (h : SimV c w a u) (h1 : oneC u = true) (h2 : oneA a = true) (h3 : pureV a = true) : Row1 c w [u] [a] :=
  ⟨rfl, fun j x y hx hy => by
    cases j with
    | zero => simp at hx hy; subst hx; subst hy; exact ⟨h, h1, h2, h3⟩
    | succ j => simp at hx⟩
theorem Row1.get {c : Ctx} {w : World} {us : List Value} {as : List AVal} (h : Row1 c w us as) {j : Nat} {a : AVal} (ha : as[j]? = some a) : ∃ u, us[j]? = some u ∧ SimV c w a u ∧ oneC u = true ∧ oneA a = true ∧ pureV a = true := by
  have hl := (List.getElem?_eq_some_iff.1 ha).1
  have : j < us.length := by rw [← h.len]; exact hl
  exact ⟨us[j], List.getElem?_eq_getElem this, h.sim j a _ ha (List.getElem?_eq_getElem this)⟩
theorem Row1.simL {c : Ctx} {w : World} {us : List Value} {as : List AVal} (h : Row1 c w us as) : SimL c w as us := simL_of h.len fun j a u ha hu => (h.sim j a u ha hu).1
theorem Row1.pure {c : Ctx} {w : World} {us : List Value} {as : List AVal} (h : Row1 c w us as) : pureL as = true := pureL_of fun a ha => by
  obtain ⟨j, hj, rfl⟩ := List.mem_iff_getElem.1 ha
  obtain ⟨u, _, _, _, _, h4⟩ := h.get (List.getElem?_eq_getElem hj)
  exact h4
theorem Row1.ones {c : Ctx} {w : World} {us : List Value} {as : List AVal} (h : Row1 c w us as) : ∀ u ∈ us, oneC u = true := fun u hu => by
  obtain ⟨j, hj, rfl⟩ := List.mem_iff_getElem.1 hu
  have : j < as.length := by rw [h.len]; exact hj
  exact (h.sim j _ _ (List.getElem?_eq_getElem this) (List.getElem?_eq_getElem hj)).2.1
theorem Row1.oneL {c : Ctx} {w : World} {us : List Value} {as : List AVal} (h : Row1 c w us as) : oneL as = true := oneL_of fun a ha => by
  obtain ⟨j, hj, rfl⟩ := List.mem_iff_getElem.1 ha
  obtain ⟨u, _, _, _, h3, _⟩ := h.get (List.getElem?_eq_getElem hj)
  exact h3

/-- A choice along a row of places. -/
theorem rowChoice {Q : Nat → AVal → Prop} : ∀ n, (∀ j, j < n → ∃ a, Q j a) → ∃ as : List AVal, as.length = n ∧ ∀ (j : Nat) (a : AVal), as[j]? = some a → Q j a
  | 0, _ => ⟨[], rfl, fun j a h => by simp at h⟩
  | n + 1, h => by
    obtain ⟨as, h1, h2⟩ := rowChoice n fun j hj => h j (by omega)
    obtain ⟨a, ha⟩ := h n (by omega)
    refine ⟨as ++ [a], by simp [h1], fun j x hx => ?_⟩
    by_cases hj : j < as.length
    · rw [List.getElem?_append_left hj] at hx; exact h2 j x hx
    · rw [List.getElem?_append_right (by omega)] at hx
      have : j - as.length = 0 := by
        have := (List.getElem?_eq_some_iff.1 hx).1
        simp at this; omega
      have e : j = n := by omega
      rw [this] at hx
      simp at hx
      subst hx; subst e; exact ha

theorem Row1.append {c : Ctx} {w : World} {us us' : List Value} {as as' : List AVal} (h : Row1 c w us as) (h' : Row1 c w us' as') : Row1 c w (us ++ us') (as ++ as') := by
  refine ⟨by simp [h.len, h'.len], fun j a u ha hu => ?_⟩
  by_cases hj : j < as.length
  · rw [List.getElem?_append_left hj] at ha
    rw [List.getElem?_append_left (by rw [← h.len]; exact hj)] at hu
    exact h.sim j a u ha hu
  · rw [List.getElem?_append_right (by omega)] at ha
    rw [List.getElem?_append_right (by have := h.len; omega), ← h.len] at hu
    exact h'.sim _ a u ha hu
theorem Row1.nil {c : Ctx} {w : World} : Row1 c w [] [] := ⟨rfl, fun j a u h => by simp at h⟩

/-- Fields one behind the other. -/
theorem fields_open {c : Ctx} {w : World} {P : Program} {Q : TypeId → List AVal → Prop} {us : List Value} : ∀ (fs : List Field) (off : Nat), tiles P fs off us.length = true → off ≤ us.length →
    (∀ f ∈ fs, ∃ as, Row1 c w ((us.drop f.offset).take (P.cellsOf f.type)) as ∧ Q f.type as) → (∀ f ∈ fs, f.offset + P.cellsOf f.type ≤ us.length) →
    ∃ as, Row1 c w (us.drop off) as ∧ ∀ f ∈ fs, off ≤ f.offset ∧ Q f.type ((as.drop (f.offset - off)).take (P.cellsOf f.type))
  | [], off, ht, _, _, _ => by
    simp only [tiles, decide_eq_true_eq] at ht
    subst ht
    exact ⟨[], by simpa using Row1.nil, fun f hf => by simp at hf⟩
  | f :: fs, off, ht, hle, hf, hb => by
    simp only [tiles, Bool.and_eq_true, decide_eq_true_eq] at ht
    obtain ⟨rfl, ht⟩ := ht
    obtain ⟨as1, r1, q1⟩ := hf f (by simp)
    have hb1 := hb f (by simp)
    obtain ⟨as2, r2, q2⟩ := fields_open fs _ ht hb1 (fun g hg => hf g (by simp [hg])) (fun g hg => hb g (by simp [hg]))
    have hl1 : as1.length = P.cellsOf f.type := by rw [r1.len]; simp; omega
    refine ⟨as1 ++ as2, ?_, fun g hg => ?_⟩
    · have e : us.drop f.offset = (us.drop f.offset).take (P.cellsOf f.type) ++ us.drop (f.offset + P.cellsOf f.type) := by
        rw [← List.drop_drop]; exact (List.take_append_drop _ _).symm
      rw [e]
      exact r1.append r2
    · rcases List.mem_cons.1 hg with rfl | hg
      · refine ⟨Nat.le_refl _, ?_⟩
        rw [Nat.sub_self, List.drop_zero, ← hl1, List.take_left]
        exact q1
      · obtain ⟨h1, h2⟩ := q2 g hg
        refine ⟨by omega, ?_⟩
        rw [List.drop_append, List.drop_eq_nil_of_le (by omega), List.nil_append, hl1, show g.offset - f.offset - P.cellsOf f.type = g.offset - (f.offset + P.cellsOf f.type) by omega]
        exact h2
/-- Elements one behind the other. -/
theorem elems_open {c : Ctx} {w : World} {Q : List AVal → Prop} {k : Nat} {us : List Value} : ∀ (m : Nat), us.length = m * k → (∀ i, i < m → ∃ as, Row1 c w ((us.drop (i * k)).take k) as ∧ Q as) →
    ∃ as, Row1 c w us as ∧ ∀ i, i < m → Q ((as.drop (i * k)).take k)
  | 0, hl, _ => by
    obtain rfl : us = [] := List.length_eq_zero_iff.1 (by simpa using hl)
    exact ⟨[], Row1.nil, fun i hi => by omega⟩
  | m + 1, hl, h => by
    rw [Nat.succ_mul] at hl
    obtain ⟨as1, r1, q1⟩ := elems_open (us := us.take (m * k)) (k := k) m (by rw [List.length_take]; omega) (fun i hi => by
      obtain ⟨as, r, q⟩ := h i (by omega)
      refine ⟨as, ?_, q⟩
      have : i * k + k ≤ m * k := by rw [← Nat.succ_mul]; exact Nat.mul_le_mul_right _ hi
      rw [List.drop_take, List.take_take, Nat.min_eq_left (by omega)]
      exact r)
    obtain ⟨as2, r2, q2⟩ := h m (by omega)
    have hl1 : as1.length = m * k := by rw [r1.len]; simp; omega
    have e2 : (us.drop (m * k)).take k = us.drop (m * k) := List.take_of_length_le (by simp; omega)
    rw [e2] at r2
    have hl2 : as2.length = k := by rw [r2.len]; simp; omega
    refine ⟨as1 ++ as2, ?_, fun i hi => ?_⟩
    · have := r1.append r2
      rwa [List.take_append_drop] at this
    · by_cases hi' : i < m
      · have : i * k + k ≤ m * k := by rw [← Nat.succ_mul]; exact Nat.mul_le_mul_right _ hi'
        rw [List.drop_append_of_le_length (by omega), List.take_append_of_le_length (by simp; omega)]
        exact q1 i hi'
      · have e : i = m := by omega
        subst e
        rw [← hl1, List.drop_left, ← hl2, List.take_length]
        exact q2

section
variable {H : Type} {enc : TypeId × Value → H} {P : Program} {W : World}

/-- The cells of a part. -/
def cellA (W : World) (u : Value) (a : AVal) : Prop := SimV (ctx0 W) W a u ∧ oneC u = true ∧ oneA a = true ∧ pureV a = true

/-- An argument's cells: there are the abstract machine's. -/
theorem arg_open : ∀ (n : Nat) (t : TypeId) (us : List Value) (y : DataW H × List MemPlace), plainTy P n t = true → fullTy P n t = true → ∀ m, DataW.trod enc P W 0 (fun _ => true) true m t us = some y →
    ∃ as, Row1 (ctx0 W) W us as ∧ TypL P n t as
  | 0, t, us, y, hp, _, m, h => by simp [plainTy] at hp
  | n + 1, t, us, y, hp, hfu, m, h => by
    unfold plainTy at hp
    unfold fullTy at hfu
    cases hu : P.underlying t with
    | none => rw [hu] at hp; simp at hp
    | some d =>
      rw [hu] at hp hfu
      cases d with
      | bool =>
        obtain ⟨b, rfl, _⟩ := DataW.trod_bool hu h
        exact ⟨[abool b], Row1.one (by simp [SimV, atomV]) (by simp [oneC, Value.oneCell']) rfl (by simp [pureV]), by simp only [TypL, hu]; exact ⟨b, rfl⟩⟩
      | int k =>
        obtain ⟨i, rfl, _, hw⟩ := DataW.trod_int hu h
        exact ⟨[.atom (.int k i)], Row1.one (by simp [SimV, atomV]) (by simp [oneC, Value.oneCell']) rfl (by simp [pureV]), by simp only [TypL, hu]; exact ⟨i, rfl, hw⟩⟩
      | string =>
        obtain ⟨s, rfl, _, hs⟩ := DataW.trod_string hu h
        exact ⟨[.atom (.string s)], Row1.one (by simp [SimV, atomV]) (by simp [oneC, Value.oneCell']) rfl (by simp [pureV]), by simp only [TypL, hu]; exact ⟨s, rfl, hs⟩⟩
      | slice e =>
        simp only [Bool.and_eq_true, decide_eq_true_eq] at hp
        obtain ⟨⟨hpe, hpos⟩, hone⟩ := hp
        rcases DataW.trod_slice hu h with ⟨rfl, _⟩ | ⟨a, len, cap, elems, rest, m', rfl, rfl, _, _, hlc, hcm, hel, hget, _, _⟩
        · refine ⟨[.sl []], Row1.one ?_ (by simp [oneC, Value.oneCell']) rfl (by simp [pureV]), by simp only [TypL, hu]; exact ⟨[], rfl, by simp, by simp⟩⟩
          simp only [SimV]
          exact ⟨none, 0, rfl, Nat.le_refl _, by simp [pureL], fun _ => rfl, .inl trivial⟩
        · have key : ∀ i, i < len → ∃ x : AVal, (∃ (us' : List Value), us'.length = P.cellsOf e ∧ (∀ j, j < P.cellsOf e → W.cell? ((a.add (i * P.cellsOf e)).add j) = us'[j]?) ∧ Row1 (ctx0 W) W us' x.cells ∧ pureV x = true ∧
              (∃ u, SimV (ctx0 W) W x u ∧ u.cells = us'.toArray)) ∧ TypL P n e x.cells ∧ (tagg P e = some true → ∃ cs, x = .agg cs) ∧ (tagg P e = some false → x.cells = [x]) := by
            intro i hi
            have hg := hget i hi
            obtain ⟨y', hy'⟩ : ∃ y', elems[i]? = some y' := ⟨elems[i], List.getElem?_eq_getElem (by omega)⟩
            rw [hy', Option.bind_eq_some_iff] at hg
            obtain ⟨us', hc, ht⟩ := hg
            obtain ⟨_, hlen, hcell⟩ := World.cells?_some hc
            obtain ⟨as, hr, hty⟩ := arg_open n e us' y' hpe hfu _ ht
            cases hue : P.underlying e with
            | none => rw [hue] at hone; cases hone
            | some d =>
              by_cases hagg : tagg P e = some true
              · refine ⟨.agg as, ⟨us', hlen, hcell, hr, by simpa [pureV] using hr.pure, .agg us'.toArray, ?_, rfl⟩, hty, fun _ => ⟨as, rfl⟩, fun h => by rw [hagg] at h; cases h⟩
                simp only [SimV]
                exact ⟨us', rfl, hr.simL, hr.ones⟩
              · have h1 : P.cellsOf e = 1 := by
                  rw [hue] at hone
                  cases d <;> simp at hone <;> first | exact hone | (exfalso; apply hagg; simp [tagg, hue])
                have hl1 : as.length = 1 := by rw [hr.len, hlen, h1]
                obtain ⟨x, rfl⟩ := List.length_eq_one_iff.1 hl1
                obtain ⟨u, rfl⟩ := List.length_eq_one_iff.1 (hlen.trans h1)
                obtain ⟨g1, g2, g3, g4⟩ := hr.sim 0 x u rfl rfl
                have hx : x.cells = [x] := by cases x <;> first | rfl | simp [oneA] at g3
                have hu' : u.cells = #[u] := by cases u <;> first | rfl | simp [oneC, Value.oneCell'] at g2
                exact ⟨x, ⟨[u], hlen, hcell, by rw [hx]; exact hr, g4, u, g1, by rw [hu']⟩, by rw [hx]; exact hty, fun h => absurd h hagg, fun _ => hx⟩
          obtain ⟨es, hes, hq⟩ := rowChoice len key
          have hpure : pureL es = true := pureL_of fun x hx => by
            obtain ⟨j, hj, rfl⟩ := List.mem_iff_getElem.1 hx
            obtain ⟨⟨_, _, _, _, h4, _⟩, _⟩ := hq j _ (List.getElem?_eq_getElem hj)
            exact h4
          refine ⟨[.sl es], Row1.one ?_ (by simp [oneC, Value.oneCell']) rfl (by simp [pureV]), ?_⟩
          · simp only [SimV]
            refine ⟨some a, cap, by rw [hes], by omega, hpure, fun e => (by cases e), ?_⟩
            by_cases hz : es = []
            · exact .inl hz
            · have hl0 : 0 < len := by
                rw [← hes]; exact List.length_pos_iff.2 hz
              obtain ⟨blk, off, spot⟩ := a
              have h0 : ∃ u, W.cell? ⟨blk, off, spot⟩ = some u := by
                obtain ⟨⟨us', g1, g2, _⟩, _⟩ := hq 0 es[0] (List.getElem?_eq_getElem (by omega))
                have := g2 0 hpos
                simp only [Nat.zero_mul] at this
                have hadd : ∀ a : Addr, a.add 0 = a := fun a => by unfold Addr.add; simp
                rw [hadd, hadd] at this
                exact ⟨_, this.trans (List.getElem?_eq_getElem (by omega))⟩
              obtain ⟨u0, h0⟩ := h0
              have hspot : spot = none := by simpa using World.cell?_spot h0
              subst hspot
              have hblk : blk < W.heap.size := by
                have := h0
                unfold World.cell? at this
                cases hh : W.heap[blk]? with
                | none => simp [hh] at this
                | some o => exact (Array.getElem?_eq_some_iff.1 hh).1
              refine .inr ⟨P.cellsOf e, blk, off, rfl, hblk, SimE.mk fun k e' hk => ?_⟩
              obtain ⟨⟨us', g1, g2, g3, g4, u, g5, g6⟩, _⟩ := hq k e' hk
              refine ⟨u, g5, by rw [g6]; simpa using g1, fun j x hj => ?_⟩
              rw [g6] at hj
              have hj' : us'[j]? = some x := by simpa using hj
              have hjl : j < us'.length := (List.getElem?_eq_some_iff.1 hj').1
              have h2 := g2 j (by omega)
              rw [add_plain, add_plain] at h2
              refine ⟨h2.trans hj', g3.ones x (List.mem_of_getElem? hj')⟩
          · simp only [TypL, hu]
            refine ⟨es, rfl, by omega, fun x hx => ?_⟩
            obtain ⟨j, hj, rfl⟩ := List.mem_iff_getElem.1 hx
            exact (hq j _ (List.getElem?_eq_getElem hj)).2
      | struct fs =>
        obtain ⟨xs, m', rfl, _, hl, hxl, hget⟩ := DataW.trod_struct hu h
        simp only [Bool.and_eq_true, List.all_eq_true] at hfu
        simp only [List.all_eq_true] at hp
        obtain ⟨hff, hcov⟩ := hfu
        have hfld : ∀ f ∈ fs.toList, ∃ as, Row1 (ctx0 W) W ((us.drop f.offset).take (P.cellsOf f.type)) as ∧ TypL P n f.type as := by
          intro f hf
          obtain ⟨i, hi, rfl⟩ := List.mem_iff_getElem.1 hf
          have hi' : i < fs.size := by simpa using hi
          have hg := hget i fs[i] (Array.getElem?_eq_getElem hi')
          rw [List.getElem?_eq_getElem (by omega)] at hg
          have e : fs.toList[i] = fs[i] := by simp
          rw [e]
          exact arg_open n _ _ _ (hp _ (by simp)) (hff _ (by simp)) _ hg
        have hb : ∀ f ∈ fs.toList, f.offset + P.cellsOf f.type ≤ us.length := by
          have : ∀ (l : List Field) (off e : Nat), tiles P l off e = true → off ≤ e ∧ ∀ f ∈ l, f.offset + P.cellsOf f.type ≤ e := by
            intro l
            induction l with
            | nil => intro off e h; simp only [tiles, decide_eq_true_eq] at h; exact ⟨by omega, fun f hf => by simp at hf⟩
            | cons g l ih =>
              intro off e h
              simp only [tiles, Bool.and_eq_true, decide_eq_true_eq] at h
              obtain ⟨h1, h2⟩ := ih _ _ h.2
              refine ⟨by omega, fun f hf => ?_⟩
              rcases List.mem_cons.1 hf with rfl | hf
              · omega
              · exact h2 f hf
          rw [hl]
          exact (this _ _ _ hcov).2
        obtain ⟨as, r, q⟩ := fields_open (Q := TypL P n) fs.toList 0 (by rw [hl]; exact hcov) (Nat.zero_le _) hfld hb
        refine ⟨as, by simpa using r, ?_⟩
        simp only [TypL, hu]
        have : as.length = us.length := by simpa using r.len
        refine ⟨by rw [this, hl], fun f hf => ?_⟩
        have := (q f hf).2
        simpa using this
      | array k e =>
        simp only [Bool.and_eq_true, decide_eq_true_eq] at hfu
        obtain ⟨hfe, hck⟩ := hfu
        obtain ⟨m', rfl, hl, hel⟩ : ∃ m', m = m' + 1 ∧ us.length = P.cellsOf t ∧ ∀ i, i < k → ∃ y', DataW.trod enc P W 0 (fun _ => true) true m' e ((us.drop (i * P.cellsOf e)).take (P.cellsOf e)) = some y' := by
          cases m with
          | zero => simp [DataW.trod] at h
          | succ m' =>
            refine ⟨m', rfl, ?_⟩
            unfold DataW.trod at h
            rw [hu] at h
            simp only at h
            split at h
            · rename_i hl
              refine ⟨hl, fun i hi => ?_⟩
              rw [Option.map_eq_some_iff] at h
              obtain ⟨xs, hm, _⟩ := h
              have hlen : xs.length = k := by simpa using mapM_some_length hm
              have := mapM_some_get hm i i (by simp [hi])
              rw [List.getElem?_eq_getElem (by omega)] at this
              exact ⟨_, this⟩
            · cases h
        obtain ⟨as, r, q⟩ := elems_open (Q := TypL P n e) (us := us) (c := ctx0 W) (w := W) (k := P.cellsOf e) k (by rw [hl, hck]) fun i hi => by
          obtain ⟨y', hy'⟩ := hel i hi
          exact arg_open n e _ y' (by simpa using hp) hfe _ hy'
        refine ⟨as, r, ?_⟩
        simp only [TypL, hu]
        exact ⟨by rw [r.len, hl], q⟩
      | _ => simp at hp

/-- A value of a type. -/
def TypV (P : Program) (n : Nat) (t : TypeId) (a : AVal) : Prop := (tagg P t = some true → ∃ cs, a = .agg cs) ∧ (tagg P t = some false → a.cells = [a]) ∧ TypL P n t a.cells
def TypA (P : Program) (n : Nat) : List TypeId → List AVal → Prop
  | [], as => as = []
  | t :: ts, as => ∃ a as', as = a :: as' ∧ TypV P n t a ∧ TypA P n ts as'

section
variable {n : Nat} {t : TypeId} {cs : List AVal}
theorem typL_bool (hu : P.underlying t = some .bool) (h : TypL P (n + 1) t cs) : ∃ b, cs = [abool b] := by
  unfold TypL at h; rw [hu] at h; exact h
theorem typL_int {k : IntKind} (hu : P.underlying t = some (.int k)) (h : TypL P (n + 1) t cs) : ∃ i, cs = [.atom (.int k i)] ∧ (Lit.int k i).wf = true := by
  unfold TypL at h; rw [hu] at h; exact h
theorem typL_string (hu : P.underlying t = some .string) (h : TypL P (n + 1) t cs) : ∃ s : ByteArray, cs = [.atom (.string s)] ∧ s.size ≤ maxLen := by
  unfold TypL at h; rw [hu] at h; exact h
theorem typL_slice {e : TypeId} (hu : P.underlying t = some (.slice e)) (h : TypL P (n + 1) t cs) : ∃ es : List AVal, cs = [.sl es] ∧ es.length ≤ maxLen ∧ ∀ x ∈ es, TypV P n e x := by
  unfold TypL at h; rw [hu] at h
  obtain ⟨es, h1, h2, h3⟩ := h
  exact ⟨es, h1, h2, fun x hx => ⟨(h3 x hx).2.1, (h3 x hx).2.2, (h3 x hx).1⟩⟩
theorem typL_struct {fs : Array Field} (hu : P.underlying t = some (.struct fs)) (h : TypL P (n + 1) t cs) : cs.length = P.cellsOf t ∧ ∀ f ∈ fs.toList, TypL P n f.type ((cs.drop f.offset).take (P.cellsOf f.type)) := by
  unfold TypL at h; rw [hu] at h; exact h
theorem typL_array {m : Nat} {e : TypeId} (hu : P.underlying t = some (.array m e)) (h : TypL P (n + 1) t cs) : cs.length = P.cellsOf t ∧ ∀ i, i < m → TypL P n e ((cs.drop (i * P.cellsOf e)).take (P.cellsOf e)) := by
  unfold TypL at h; rw [hu] at h; exact h
theorem typV_bool {a : AVal} (hu : P.underlying t = some .bool) (h : TypV P (n + 1) t a) : ∃ b, a = abool b := by
  obtain ⟨_, h2, h3⟩ := h
  rw [h2 (by simp [tagg, hu])] at h3
  obtain ⟨b, h4⟩ := typL_bool hu h3
  injection h4 with h4 _
  exact ⟨b, h4⟩
theorem typV_int {k : IntKind} {a : AVal} (hu : P.underlying t = some (.int k)) (h : TypV P (n + 1) t a) : ∃ i, a = .atom (.int k i) ∧ (Lit.int k i).wf = true := by
  obtain ⟨_, h2, h3⟩ := h
  rw [h2 (by simp [tagg, hu])] at h3
  obtain ⟨i, h4, h5⟩ := typL_int hu h3
  injection h4 with h4 _
  exact ⟨i, h4, h5⟩
theorem typV_slice {e : TypeId} {a : AVal} (hu : P.underlying t = some (.slice e)) (h : TypV P (n + 1) t a) : ∃ es : List AVal, a = .sl es ∧ es.length ≤ maxLen ∧ ∀ x ∈ es, TypV P n e x := by
  obtain ⟨_, h2, h3⟩ := h
  rw [h2 (by simp [tagg, hu])] at h3
  obtain ⟨es, h4, h5⟩ := typL_slice hu h3
  injection h4 with h4 _
  exact ⟨es, h4, h5⟩
theorem typV_struct {fs : Array Field} {a : AVal} (hu : P.underlying t = some (.struct fs)) (h : TypV P (n + 1) t a) : ∃ cs, a = .agg cs ∧ cs.length = P.cellsOf t ∧ ∀ f ∈ fs.toList, TypL P n f.type ((cs.drop f.offset).take (P.cellsOf f.type)) := by
  obtain ⟨h1, _, h3⟩ := h
  obtain ⟨cs, rfl⟩ := h1 (by simp [tagg, hu])
  exact ⟨cs, rfl, typL_struct hu h3⟩
/-- A choice along a list. -/
theorem listChoice {α : Type} (f : α → AVal) {Q : α → Prop} : ∀ {es : List AVal}, (∀ x ∈ es, ∃ y, x = f y ∧ Q y) → ∃ ys : List α, es = ys.map f ∧ ∀ y ∈ ys, Q y
  | [], _ => ⟨[], rfl, fun y hy => by simp at hy⟩
  | e :: es, h => by
    obtain ⟨y, rfl, hy⟩ := h e (by simp)
    obtain ⟨ys, rfl, hys⟩ := listChoice f (es := es) fun x hx => h x (by simp [hx])
    exact ⟨y :: ys, rfl, fun z hz => by rcases List.mem_cons.1 hz with rfl | hz; exact hy; exact hys z hz⟩
end
theorem val_open {n : Nat} {t : TypeId} {v : Value} {d : DataW H} {ps : List MemPlace} {r : Reach} {b : Nat} (hp : plainTy P n t = true) (hf : fullTy P n t = true) (hv : Value.okWide P W r b t v) (h : DataW.Trod enc P W 0 (fun _ => true) true t v d ps) :
    ∃ a, SimV (ctx0 W) W a v ∧ TypV P n t a := by
  obtain ⟨m, h⟩ := h
  obtain ⟨as, r, q⟩ := arg_open n t _ _ hp hf m h
  by_cases hagg : tagg P t = some true
  · have : ∃ cs, v = .agg cs := by
      unfold tagg at hagg
      unfold Value.okWide at hv
      split at hagg
      · rename_i hu; rw [hu] at hv; obtain ⟨cs, h1, _⟩ := hv; exact ⟨cs, h1⟩
      · rename_i hu; rw [hu] at hv; obtain ⟨cs, h1, _⟩ := hv; exact ⟨cs, h1⟩
      · cases hagg
      · cases hagg
    obtain ⟨cs, rfl⟩ := this
    refine ⟨.agg as, ?_, ⟨fun _ => ⟨as, rfl⟩, ⟨fun h => (by rw [hagg] at h; cases h), q⟩⟩⟩
    simp only [SimV]
    exact ⟨cs.toList, by simp, r.simL, r.ones⟩
  · have hone : ∃ u, v.cells.toList = [u] ∧ v = u := by
      have hnot : ∀ cs, v ≠ .agg cs := by
        intro cs e
        subst e
        unfold Value.okWide at hv
        unfold tagg at hagg
        cases hu : P.underlying t with
        | none => rw [hu] at hv; simp [Cell.okWide, Cell.ok, hu] at hv
        | some d => rw [hu] at hv hagg; cases d <;> first | (exact absurd rfl hagg) | simp [Cell.okWide, Cell.ok, hu] at hv
      cases v <;> first | exact ⟨_, rfl, rfl⟩ | exact absurd rfl (hnot _)
    obtain ⟨u, hu1, rfl⟩ := hone
    rw [hu1] at r
    obtain ⟨a, rfl⟩ := List.length_eq_one_iff.1 (show as.length = 1 by rw [r.len]; rfl)
    obtain ⟨g1, _, g3, _⟩ := r.sim 0 a v rfl rfl
    have hc : a.cells = [a] := by cases a <;> first | rfl | simp [oneA] at g3
    exact ⟨a, g1, ⟨fun h => absurd h hagg, ⟨fun _ => hc, by rw [hc]; exact q⟩⟩⟩

theorem args_open {n : Nat} {r : Reach} {b : Nat} : ∀ {ts : List TypeId} {vs : List Value} {ds : List (DataW H)} {ps : List MemPlace}, (∀ t ∈ ts, plainTy P n t = true ∧ fullTy P n t = true) →
    (∀ (j : Nat) t v, ts[j]? = some t → vs[j]? = some v → Value.okWide P W r b t v) → DataW.TrodAll enc P W 0 (fun _ => true) true ts vs ds ps → ∃ as, SimL (ctx0 W) W as vs ∧ TypA P n ts as
  | [], vs, ds, ps, _, _, h => by
    obtain ⟨rfl, _, _⟩ := trodAll_nil h
    exact ⟨[], by simp [SimL], rfl⟩
  | t :: ts, vs, ds, ps, hp, hv, h => by
    obtain ⟨v, vs', d, ds', p, q, rfl, rfl, rfl, h1, h2⟩ := trodAll_cons h
    obtain ⟨a, g1, g2⟩ := val_open (hp t (by simp)).1 (hp t (by simp)).2 (hv 0 t v rfl rfl) h1
    obtain ⟨as, k1, k2⟩ := args_open (fun t' h' => hp t' (by simp [h'])) (fun j t' v' ht hv' => hv (j + 1) t' v' (by simpa using ht) (by simpa using hv')) h2
    refine ⟨a :: as, ?_, a, as, rfl, g2, k2⟩
    simp only [SimL]
    exact ⟨v, vs', rfl, g1, k1⟩

/-- A law that answers true of all that may be told: it does, in the program. -/
theorem law_runs {wr : FuncId → Bool} {E : Env} (hm : P.follows .mixedOrders = true) {modes : FuncId → AMode} (hE : ∀ f A, E.fns f = some A → compFn P wr modes f = some A) (hX : ∀ f g, E.X f = some g → OracleOk P wr E.G f g) {n : Nat} {fid : FuncId} {ts : List TypeId}
    (hts : ∀ t ∈ ts, plainTy P n t = true ∧ fullTy P n t = true) (hlaw : ∀ as, TypA P n ts as → ∃ σ', callv E (.fn fid [] []) as [] = some (abool true, σ')) (hG : GOk E.G (ctx0 W) W) {args : Array Value} {ds : List (DataW H)} {ps : List MemPlace} {r : Reach} {b : Nat}
    (hv : ∀ (j : Nat) t v, ts[j]? = some t → args[j]? = some v → Value.okWide P W r b t v) (h : DataW.TrodAll enc P W 0 (fun _ => true) true ts args.toList ds ps) :
    Calls P fid args W (fun e w' => e = .returned (.bool true) ∧ Below W.heap.size W w') := by
  obtain ⟨as, h1, h2⟩ := args_open hts (fun j t v ht hv' => hv j t v ht (by simpa using hv')) h
  obtain ⟨σ', h3⟩ := hlaw as h2
  have := law_calls (us := args.toList) hm hE hX h3 hG h1
  simpa using this
end
end Go.Abs
