/- The operations that change something: new boxes. -/
import Derived.Test.YtmbleldjdhkkeaaFwV
set_option linter.unusedSimpArgs false
set_option linter.unusedVariables false
namespace Go.Abs
open Go.RowKit
variable {P : Program} {wr : FuncId → Bool} {c : Ctx} {w : World} {G : Nat → Option (List AVal)} {s : AState} {a : Act}

/-- One block anew. -/
def layAt (w : World) (b : Nat) (o : Obj) : World := { w with heap := w.heap.setIfInBounds b o }
theorem layAt_get (w : World) (b : Nat) (o : Obj) (i : Nat) : (layAt w b o).heap[i]? = if i = b ∧ b < w.heap.size then some o else w.heap[i]? := by
  simp only [layAt, Array.getElem?_setIfInBounds]
  by_cases h : b = i
  · subst h
    by_cases h2 : b < w.heap.size
    · simp [h2]
    · simp [h2]
  · rw [if_neg h, if_neg (fun h' => h h'.1.symm)]
theorem layAt_size (w : World) (b : Nat) (o : Obj) : (layAt w b o).heap.size = w.heap.size := by simp [layAt]
theorem layAt_kept {F : Nat → Prop} (w : World) (b : Nat) (o : Obj) (hF : ¬ F b) (hl : ∀ r, w.heap[b]? = some (.loop r) → ∃ r', o = .loop r') : Kept F w (layAt w b o) :=
  ⟨rfl, rfl, rfl, Nat.le_of_eq (layAt_size w b o).symm, fun i hi => by rw [layAt_get, if_neg (fun h => hF (by rw [← h.1]; exact hi))], fun i r hi => by
    rw [layAt_get]
    split
    · rename_i h
      obtain ⟨rfl, _⟩ := h
      obtain ⟨r', rfl⟩ := hl r hi
      exact ⟨r', rfl⟩
    · exact ⟨r, hi⟩⟩
theorem layAt_lay (w : World) (b : Nat) (o o' : Obj) : layAt (layAt w b o) b o' = layAt w b o' := by
  simp [layAt]

theorem setCell_lay {w : World} {b off : Nat} {cs : Array Value} {t : TypeId} {fr : Nat × Nat} {v : Value} (h : w.heap[b]? = some (.cells cs t fr)) :
    w.setCell ⟨b, off, none⟩ v = layAt w b (.cells (cs.setIfInBounds off v) t fr) := by
  have hlt : b < w.heap.size := (Array.getElem?_eq_some_iff.1 h).1
  unfold World.setCell layAt
  congr 1
  apply Array.ext_getElem?
  intro i
  rw [Array.getElem?_modify, Array.getElem?_setIfInBounds]
  by_cases e : b = i
  · subst e
    rw [if_pos rfl, if_pos rfl, h]
    simp [hlt]
  · rw [if_neg e, if_neg e]

theorem run_storeRow {b o : Nat} {t : TypeId} {fr : Nat × Nat} : ∀ {vs us : List Value} {i : Nat} {w : World}, w.heap[b]? = some (.cells us.toArray t fr) → FrzOk fr us.length → o + i + vs.length ≤ us.length → (∀ v ∈ vs, oneC v = true) →
    (storeCells ⟨b, o, none⟩ vs i).run P w = .ok () (if vs = [] then w else layAt w b (.cells (setU us (o + i) vs).toArray t fr))
  | [], us, i, w, _, _, _, _ => rfl
  | v :: vs, us, i, w, h, hf, hl, h1 => by
    simp only [List.length_cons] at hl
    have hlt : b < w.heap.size := (Array.getElem?_eq_some_iff.1 h).1
    have hcell : w.cell? ⟨b, o + i, none⟩ = some us[o + i] := by
      simp only [World.cell?, h]
      simp
    have hfr : w.frozen? ⟨b, o + i, none⟩ = false := by
      simp only [World.frozen?, h]
      exact hf (o + i) (by omega)
    have hst : (store ((⟨b, o, none⟩ : Addr).add i) v).run P w = .ok () (layAt w b (.cells (us.set (o + i) v).toArray t fr)) := by
      rw [addr_add, run_store P w _ v _ (h1 v (by simp)), hcell, hfr]
      simp only [Bool.false_eq_true, if_false]
      rw [setCell_lay h, List.setIfInBounds_toArray]
    simp only [storeCells, Sem.run_bind, hst, Result.andThen_ok]
    have hget : (layAt w b (.cells (us.set (o + i) v).toArray t fr)).heap[b]? = some (.cells (us.set (o + i) v).toArray t fr) := by rw [layAt_get, if_pos ⟨rfl, hlt⟩]
    rw [run_storeRow (us := us.set (o + i) v) hget (by simpa using hf) (by simp; omega) (fun x hx => h1 x (List.mem_cons_of_mem _ hx))]
    simp only [reduceCtorEq, if_false, setU]
    by_cases hv : vs = []
    · subst hv; simp [setU]
    · rw [if_neg hv, layAt_lay, show o + (i + 1) = o + i + 1 by omega]

/-! A new block -/
theorem alloc_kept (w : World) (o : Obj) (F : Nat → Prop) (hF : ∀ i, F i → i < w.heap.size) : Kept F w (w.alloc o) :=
  ⟨rfl, rfl, rfl, by show w.heap.size ≤ (w.heap.push o).size; simp, fun i hi => by have := hF i hi; show (w.heap.push o)[i]? = _; rw [Array.getElem?_push, if_neg (Nat.ne_of_lt this)], fun i r hi => by
    have := (Array.getElem?_eq_some_iff.1 hi).1
    refine ⟨r, ?_⟩
    show (w.heap.push o)[i]? = _
    rw [Array.getElem?_push, if_neg (Nat.ne_of_lt this)]; exact hi⟩
theorem alloc_new (w : World) (o : Obj) : (w.alloc o).heap[w.heap.size]? = some o := by show (w.heap.push o)[w.heap.size]? = _; simp
theorem alloc_old (w : World) (o : Obj) (i : Nat) (h : i < w.heap.size) : (w.alloc o).heap[i]? = w.heap[i]? := by show (w.heap.push o)[i]? = _; rw [Array.getElem?_push, if_neg (Nat.ne_of_lt h)]

theorem SimBox.vr {b : Nat} {B : Box} (h : SimBox P wr c w b B) : c.vr b = B.ver := by
  cases B with
  | map => exact h.elim
  | dead => exact h
  | _ => exact h.1

/-- The context behind: box b has a new version, at a place. -/
def Ctx.at_ (c : Ctx) (b ver ρ sz cp : Nat) (nb : Bool) : Ctx :=
  { c with vr := fun x => if x = b then ver else c.vr x, ρ := fun x => if x = b then ρ else c.ρ x, sz := fun x => if x = b then sz else c.sz x, cp := fun x => if x = b then cp else c.cp x, nb := fun x => if x = b then nb else c.nb x }
theorem Ctx.at_le {c : Ctx} {b ver ρ sz cp : Nat} {nb : Bool} (h : c.vr b < ver) : CtxLe c (c.at_ b ver ρ sz cp nb) := by
  refine ⟨fun _ h => h, Nat.le_refl _, fun x _ => ?_, fun x _ e => ?_⟩
  · simp only [Ctx.at_]
    split
    · rename_i h'; subst h'; exact Nat.le_of_lt h
    · exact Nat.le_refl _
  · by_cases hx : x = b
    · subst hx
      simp [Ctx.at_] at e
      omega
    · simp [Ctx.at_, hx]
theorem Ctx.at_other {c : Ctx} {b ver ρ sz cp : Nat} {nb : Bool} : ∀ x, x ≠ b → (c.at_ b ver ρ sz cp nb).vr x = c.vr x ∧ (c.at_ b ver ρ sz cp nb).ρ x = c.ρ x ∧ (c.at_ b ver ρ sz cp nb).sz x = c.sz x ∧ (c.at_ b ver ρ sz cp nb).cp x = c.cp x ∧ (c.at_ b ver ρ sz cp nb).nb x = c.nb x := by
  intro x hx
  simp [Ctx.at_, hx]

/-- What an operation that changes something comes to. -/
def YldC (P : Program) (wr : FuncId → Bool) (c : Ctx) (w : World) (x : Sem Next) (r : AVal × Store) : Prop :=
  ∃ nx u c' w', x.run P w = .ok nx w' ∧ (nx = .value u ∨ (nx = .skip ∧ u = undef)) ∧ CtxLe c c' ∧ c'.D = c.D ∧ Kept c.K w w' ∧ SimS P wr c' w' r.2 ∧ SimV c' w' r.1 u

theorem YldC.v {x : Sem Value} {u : Value} {r : AVal × Store} {c' : Ctx} {w' : World} (h : x.run P w = .ok u w') (hc : CtxLe c c') (hd : c'.D = c.D) (hk : Kept c.K w w') (hs : SimS P wr c' w' r.2) (hv : SimV c' w' r.1 u) :
    YldC P wr c w (do pure (.value (← x))) r :=
  ⟨.value u, u, c', w', by rw [Sem.run_bind, h, Result.andThen_ok]; rfl, .inl rfl, hc, hd, hk, hs, hv⟩

/-- A new variable. -/
theorem new_var {σ : Store} {b : Nat} {B : Box} {cs : List AVal} {us : List Value} (t : TypeId) (h : SimS P wr c w σ) (hb : σ[b]? = some B) (hL : SimL c w cs us) (ho : ∀ x ∈ us, oneC x = true) :
    ∃ c', CtxLe c c' ∧ c'.D = c.D ∧ Kept c.K w (w.alloc (.cells us.toArray t)) ∧ SimS P wr c' (w.alloc (.cells us.toArray t)) (σ.set b (.var (B.ver + 1) cs)) ∧
      SimV c' (w.alloc (.cells us.toArray t)) (.ptr b (B.ver + 1) 0) (.pointer (some ⟨w.heap.size, 0, none⟩)) := by
  have hblt : b < σ.length := (List.getElem?_eq_some_iff.1 hb).1
  have hv := (h.box b B hb).vr
  let c' := c.at_ b (B.ver + 1) w.heap.size 0 0 false
  have hle : CtxLe c c' := Ctx.at_le (by omega)
  have hk := alloc_kept w (.cells us.toArray t) c.K h.K
  refine ⟨c', hle, rfl, hk, ?_, ?_⟩
  · refine h.upd hb hle (fun _ => Iff.rfl) rfl rfl Ctx.at_other hk.F (fun i hi _ => alloc_old _ _ i hi) (fun _ => ⟨.inl ?_, fun hf => ?_⟩) (fun hno => absurd trivial hno) ?_
    · simp [c', Ctx.at_]
    · have := h.F _ hf
      simp [c', Ctx.at_] at this
    · refine ⟨by simp [c', Ctx.at_], fun hf => ?_, us, t, ?_, SimL.mono hle hk.F _ _ hL, ho⟩
      · have := h.F _ hf
        simp [c', Ctx.at_] at this
      · simpa [c', Ctx.at_] using alloc_new w (.cells us.toArray t)
  · simp only [SimV]
    refine ⟨?_, by simp [c', Ctx.at_], _, rfl, fun _ => by simp [c', Ctx.at_]⟩
    show b < c.n
    rw [h.n]; exact hblt

/-- A new array. -/
theorem new_arr {σ : Store} {b sz cap : Nat} {B : Box} {es : List AVal} {us : List Value} (t : TypeId) (fr : Nat × Nat) (h : SimS P wr c w σ) (hb : σ[b]? = some B) (hsz : 0 < sz) (hp : pureL es = true) (ho : ∀ x ∈ us, oneC x = true) (hfr : FrzOk fr us.length)
    (hcap : us.length = cap * sz) (hlen : es.length ≤ cap) (hE : SimE c (w.alloc (.cells us.toArray t fr)) w.heap.size sz es 0) :
    ∃ c', CtxLe c c' ∧ c'.D = c.D ∧ Kept c.K w (w.alloc (.cells us.toArray t fr)) ∧ SimS P wr c' (w.alloc (.cells us.toArray t fr)) (σ.set b (.arr (B.ver + 1) false sz es)) ∧
      ∀ len, len ≤ cap → SimV c' (w.alloc (.cells us.toArray t fr)) (.own b (B.ver + 1) sz 0 len) (.slice (some ⟨w.heap.size, 0, none⟩) len cap) := by
  have hblt : b < σ.length := (List.getElem?_eq_some_iff.1 hb).1
  have hv := (h.box b B hb).vr
  let c' := c.at_ b (B.ver + 1) w.heap.size sz cap false
  have hle : CtxLe c c' := Ctx.at_le (by omega)
  have hk := alloc_kept w (.cells us.toArray t fr) c.K h.K
  refine ⟨c', hle, rfl, hk, ?_, fun len hl => ?_⟩
  · refine h.upd hb hle (fun _ => Iff.rfl) rfl rfl Ctx.at_other hk.F (fun i hi _ => alloc_old _ _ i hi) (fun _ => ⟨.inl ?_, fun hf => ?_⟩) (fun hno => absurd ?_ hno) ?_
    · simp [c', Ctx.at_]
    · have := h.F _ hf
      simp [c', Ctx.at_] at this
    · simp [hasBlk, c', Ctx.at_]
    · refine ⟨by simp [c', Ctx.at_], by simp [c', Ctx.at_], hsz, hp, by simp [c', Ctx.at_], fun _ => ⟨⟨fun hf => ?_, fun hf => by cases hf⟩, by simpa [c', Ctx.at_] using hlen, us.toArray, t, fr, ?_, ?_, by simpa using hfr, by simpa using ho, ?_⟩⟩
      · have := h.F _ hf
        simp [c', Ctx.at_] at this
      · simpa [c', Ctx.at_] using alloc_new w (.cells us.toArray t fr)
      · simpa [c', Ctx.at_] using hcap
      · refine SimE.mk fun k e hk' => ?_
        obtain ⟨u, g1, g2⟩ := hE.get k e hk'
        exact ⟨u, SimV.mono hle (Kept.refl _ _) _ _ g1, by simpa [c', Ctx.at_] using g2⟩
  · simp only [SimV]
    refine ⟨?_, by simp [c', Ctx.at_], _, _, rfl, hl, (by intro e; cases e), fun _ => ⟨by simp [c', Ctx.at_], by simp [c', Ctx.at_], fun _ => ⟨by simp [c', Ctx.at_], _, rfl, fun _ => by simp [c', Ctx.at_]⟩⟩⟩
    show b < c.n
    rw [h.n]; exact hblt

/-- An array without a block. -/
theorem new_none {σ : Store} {b sz : Nat} {B : Box} (h : SimS P wr c w σ) (hb : σ[b]? = some B) (hsz : 0 < sz) :
    ∃ c', CtxLe c c' ∧ c'.D = c.D ∧ SimS P wr c' w (σ.set b (.arr (B.ver + 1) false sz [])) ∧ ∀ ad : Option Addr, SimV c' w (.own b (B.ver + 1) sz 0 0) (.slice ad 0 0) := by
  have hblt : b < σ.length := (List.getElem?_eq_some_iff.1 hb).1
  have hv := (h.box b B hb).vr
  let c' := c.at_ b (B.ver + 1) 0 sz 0 true
  have hle : CtxLe c c' := Ctx.at_le (by omega)
  refine ⟨c', hle, rfl, ?_, fun ad => ?_⟩
  · refine h.upd hb hle (fun _ => Iff.rfl) rfl rfl Ctx.at_other (Kept.refl _ _) (fun i hi _ => rfl) (fun hp => ?_) (fun _ _ _ => .inl rfl) ?_
    · simp [hasBlk, c', Ctx.at_] at hp
    · exact ⟨by simp [c', Ctx.at_], by simp [c', Ctx.at_], hsz, by simp [pureL], fun _ => rfl, by simp [c', Ctx.at_]⟩
  · simp only [SimV]
    refine ⟨?_, by simp [c', Ctx.at_], _, _, rfl, Nat.le_refl _, fun _ => rfl, fun _ => ⟨by simp [c', Ctx.at_], fun _ => ⟨trivial, trivial, rfl⟩, by simp [c', Ctx.at_]⟩⟩
    show b < c.n
    rw [h.n]; exact hblt

theorem lay_spec {site : Nat} {f : Nat → Box} {r : Nat → Nat → AVal} {x : AVal × Store} (h : lay s site f r = some x) :
    ∃ B, s.σ[s.base + site]? = some B ∧ x = (r (s.base + site) (B.ver + 1), s.σ.set (s.base + site) (f (B.ver + 1))) := by
  unfold lay at h
  split at h
  · rename_i B hB
    injection h with h
    exact ⟨B, hB, h.symm⟩
  · cases h

theorem alloc_ok (h : Fr P wr G c w s a) {t : TypeId} {z : AVal} {site : Nat} {r : AVal × Store} (hz : tzero P t = some z) (he : lay s site (fun v => .var v z.cells) (fun b v => .ptr b v 0) = some r) :
    YldC P wr c w (do pure (.value (← Instr.alloc t true (.tuple #[])))) r := by
  obtain ⟨B, hB, rfl⟩ := lay_spec he
  obtain ⟨i, zv, hi, hzv, hcz, hnt⟩ := tzero_info hz
  obtain ⟨hL, ho, _⟩ := constV_cells (c := c) (w := w) hcz hnt
  obtain ⟨c', h1, hd, h2, h3, h4⟩ := new_var t h.σ hB hL ho
  refine YldC.v (u := .pointer (some ⟨w.heap.size, 0, none⟩)) ?_ h1 hd h2 h3 h4
  simp [Instr.alloc, zeroValue, typeInfo, hi, hzv, newVar, newRow]

theorem box_ok (h : Fr P wr G c w s a) {t : TypeId} {x : Operand} {y : AOpd} {site : Nat} {r : AVal × Store} (hx : compOpd x = some y) (h1 : oneL (ev G s y).cells = true) (he : lay s site (fun v => .var v (ev G s y).cells) (fun b v => .ptr b v 0) = some r) :
    YldC P wr c w (do pure (.value (← Instr.box t (a.eval x)))) r := by
  obtain ⟨B, hB, rfl⟩ := lay_spec he
  obtain ⟨hL, ho⟩ := (h.ev hx).cells h1
  obtain ⟨c', h1, hd, h2, h3, h4⟩ := new_var t h.σ hB hL ho
  refine YldC.v (u := .pointer (some ⟨w.heap.size, 0, none⟩)) ?_ h1 hd h2 h3 h4
  simp [Instr.box, newVar, newRow]

theorem nown_ok (h : Fr P wr G c w s a) {sz site : Nat} {r : AVal × Store} (hsz : 0 < sz) (he : lay s site (fun v => .arr v false sz []) (fun b v => .own b v sz 0 0) = some r) :
    YldC P wr c w (pure (.value (.slice none 0 0))) r := by
  obtain ⟨B, hB, rfl⟩ := lay_spec he
  obtain ⟨c', h1, hd, h3, h4⟩ := new_none h.σ hB hsz
  exact ⟨_, _, c', w, rfl, .inl rfl, h1, hd, Kept.refl _ _, h3, h4 _⟩

/-! Elements laid in a row -/
theorem const_row (n : Nat) (v : Value) : ((List.range n).map fun _ => v) = List.replicate n v := by
  induction n with
  | zero => rfl
  | succ n ih => rw [List.range_succ, List.map_append, ih, List.replicate_succ']; rfl

/-- The cells of a row of zero values. -/
def zrow (zs : List Value) : Nat → List Value
  | 0 => []
  | n + 1 => zs ++ zrow zs n
theorem zrow_length (zs : List Value) : ∀ n, (zrow zs n).length = n * zs.length
  | 0 => by simp [zrow]
  | n + 1 => by simp only [zrow, List.length_append, zrow_length zs n]; rw [Nat.succ_mul]; omega
theorem zrow_get (zs : List Value) : ∀ n i, i < n * zs.length → (zrow zs n)[i]? = zs[i % zs.length]?
  | 0, i, h => by simp at h
  | n + 1, i, h => by
    simp only [zrow]
    by_cases hi : i < zs.length
    · rw [List.getElem?_append_left hi, Nat.mod_eq_of_lt hi]
    · rw [List.getElem?_append_right (by omega), zrow_get zs n _ (by rw [Nat.succ_mul] at h; omega), ← Nat.mod_eq_sub_mod (by omega)]
theorem zrow_mem {zs : List Value} {x : Value} : ∀ {n}, x ∈ zrow zs n → x ∈ zs
  | 0, h => by simp [zrow] at h
  | n + 1, h => by
    simp only [zrow, List.mem_append] at h
    rcases h with h | h
    · exact h
    · exact zrow_mem h
theorem zrow_eq (zs : Array Value) (n m : Nat) (hz : 0 < zs.size) (hm : m = n * zs.size) : (Array.range m).map (fun i => zs[i % zs.size]!) = (zrow zs.toList n).toArray := by
  subst hm
  apply Array.ext_getElem?
  intro i
  by_cases hi : i < n * zs.size
  · have hlt := Nat.mod_lt i hz
    have h1 := zrow_get zs.toList n i (by simpa using hi)
    simp only [List.getElem?_toArray, h1]
    simp [hi, hlt]
  · rw [Array.getElem?_eq_none (by simp; omega), Array.getElem?_eq_none (by simp [zrow_length]; omega)]

/-- Elements at their places. -/
theorem row_elems {w : World} {blk sz : Nat} {t : TypeId} {fr : Nat × Nat} {us : List Value} {es : List AVal} (hh : w.heap[blk]? = some (.cells us.toArray t fr)) (ho : ∀ x ∈ us, oneC x = true)
    (h : ∀ k e, es[k]? = some e → ∃ u, SimV c w e u ∧ u.cells.size = sz ∧ ∀ j x, u.cells[j]? = some x → us[k * sz + j]? = some x) : SimE c w blk sz es 0 := by
  refine SimE.mk fun k e hk => ?_
  obtain ⟨u, h1, h2, h3⟩ := h k e hk
  refine ⟨u, h1, h2, fun j x hj => ?_⟩
  have := h3 j x hj
  refine ⟨?_, ho x (List.mem_of_getElem? this)⟩
  simp only [World.cell?, hh]
  simpa using this

end Go.Abs
