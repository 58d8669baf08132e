/- What the abstract machine's values and store stand for in memory. -/
import Derived.OrdersIn
import Derived.RangeFuncLeaves
import Derived.Below
import Derived.Laws.Cells
import Derived.Laws.Append
import Derived.Laws.BytesString
import Derived.Test.YtmbleldjdhkkeaaFwL
import Derived.Test.YtmbleldjdhkkeaaFwC
set_option linter.unusedSimpArgs false
set_option linter.unusedVariables false
namespace Go.Abs
open Go.RowKit

/-- Which blocks nobody writes any more; the boxes' blocks, their versions, and, of an array, the cells of an element, how many elements its block has, and whether it has none. -/
structure Ctx where
  F : Nat → Prop
  /-- blocks that bear the rounds' deferred calls -/
  D : Nat → Prop
  n : Nat
  ρ : Nat → Nat
  vr : Nat → Nat
  sz : Nat → Nat
  cp : Nat → Nat
  nb : Nat → Bool

/-- What is kept as it is. -/
def Ctx.K (c : Ctx) : Nat → Prop := fun i => c.F i ∨ c.D i

def atomV : Value → Bool
  | .bool _ | .int _ _ | .string _ | .pointer none | .slice none 0 0 | .map none | .nilFunc | .nilIface => true
  | _ => false

/-- It lies in one cell. -/
abbrev oneC (v : Value) : Bool := v.oneCell'

def CellsAt (w : World) (blk off sz : Nat) (u : Value) : Prop :=
  u.cells.size = sz ∧ ∀ (j : Nat) x, u.cells[j]? = some x → w.cell? ⟨blk, off + j, none⟩ = some x ∧ oneC x = true

mutual
def SimV (c : Ctx) (w : World) : AVal → Value → Prop
  | .atom v, u => u = v ∧ atomV v = true
  | .agg cs, u => ∃ us : List Value, u = .agg us.toArray ∧ SimL c w cs us ∧ ∀ x ∈ us, oneC x = true
  | .tup vs, u => ∃ us : List Value, u = .tuple us.toArray ∧ SimL c w vs us
  | .sl es, u => ∃ a cap, u = .slice a es.length cap ∧ es.length ≤ cap ∧ pureL es = true ∧ (a = none → cap = 0) ∧
      (es = [] ∨ ∃ sz blk off, a = some ⟨blk, off, none⟩ ∧ c.F blk ∧ SimE c w blk sz es off)
  | .sn es, u => ∃ a cap, u = .slice (some a) es.length cap ∧ es.length ≤ cap ∧ pureL es = true ∧
      (es = [] ∨ ∃ sz blk off, a = ⟨blk, off, none⟩ ∧ c.F blk ∧ SimE c w blk sz es off)
  | .own b ver sz off len, u => b < c.n ∧ ver ≤ c.vr b ∧ ∃ a cap, u = .slice a len cap ∧ len ≤ cap ∧ (a = none → cap = 0) ∧ (ver = c.vr b → sz = c.sz b ∧
      (c.nb b = true → off = 0 ∧ len = 0 ∧ cap = 0) ∧ (c.nb b = false → off + cap ≤ c.cp b ∧ ∃ a', a = some a' ∧ (0 < cap → a' = ⟨c.ρ b, off * sz, none⟩)))
  | .ptr b ver off, u => b < c.n ∧ ver ≤ c.vr b ∧ ∃ a, u = .pointer (some a) ∧ (ver = c.vr b → a = ⟨c.ρ b, off, none⟩)
  | .ep b ver i off, u => b < c.n ∧ ver ≤ c.vr b ∧ ∃ a, u = .pointer (some a) ∧ (ver = c.vr b → c.nb b = false ∧ i < c.cp b ∧ a = ⟨c.ρ b, i * c.sz b + off, none⟩)
  | .fp cs, u => pureL cs = true ∧ ∃ blk off, u = .pointer (some ⟨blk, off, none⟩) ∧ c.F blk ∧ ∃ us : List Value, SimL c w cs us ∧
      ∀ (j : Nat) x, us[j]? = some x → w.cell? ⟨blk, off + j, none⟩ = some x ∧ oneC x = true
  | .fn f first cap, u => ∃ us vs : List Value, u = .func (.func f) us.toArray vs.toArray ∧ SimL c w first us ∧ SimL c w cap vs
  | .yld b ver, u => b < c.n ∧ ver ≤ c.vr b ∧ ∃ l, u = .func (.yield l) #[] #[] ∧ (ver = c.vr b → l = c.ρ b)
  | .mp b ver, u => b < c.n ∧ ver ≤ c.vr b ∧ ∃ l, u = .map (some l) ∧ (ver = c.vr b → l = c.ρ b)
  | .ifc t v, u => ∃ x, u = .iface t x ∧ SimV c w v x
  | .any, _ => True
def SimL (c : Ctx) (w : World) : List AVal → List Value → Prop
  | [], us => us = []
  | v :: vs, us => ∃ x xs, us = x :: xs ∧ SimV c w v x ∧ SimL c w vs xs
def SimE (c : Ctx) (w : World) (blk sz : Nat) : List AVal → Nat → Prop
  | [], _ => True
  | e :: es, off => (∃ u, SimV c w e u ∧ CellsAt w blk off sz u) ∧ SimE c w blk sz es (off + sz)
end

/-- What a step of the machine leaves. -/
structure Kept (F : Nat → Prop) (w w' : World) : Prop where
  os : w'.os = w.os
  tape : w'.tape = w.tape
  output : w'.output = w.output
  size : w.heap.size ≤ w'.heap.size
  block : ∀ i, F i → w'.heap[i]? = w.heap[i]?
  lp : ∀ (i : Nat) (r : Loop), w.heap[i]? = some (Obj.loop r) → ∃ r' : Loop, w'.heap[i]? = some (Obj.loop r')

theorem Kept.refl (F : Nat → Prop) (w : World) : Kept F w w := ⟨rfl, rfl, rfl, Nat.le_refl _, fun _ _ => rfl, fun _ r h => ⟨r, h⟩⟩
theorem Kept.trans {F F' : Nat → Prop} {a b c : World} (h : Kept F a b) (k : Kept F' b c) (hF : ∀ i, F i → F' i) : Kept F a c :=
  ⟨k.os.trans h.os, k.tape.trans h.tape, k.output.trans h.output, Nat.le_trans h.size k.size, fun i hi => (k.block i (hF i hi)).trans (h.block i hi), fun i r hi => let ⟨_, h1⟩ := h.lp i r hi; k.lp i _ h1⟩
theorem Kept.mono {F F' : Nat → Prop} {a b : World} (h : Kept F a b) (hF : ∀ i, F' i → F i) : Kept F' a b :=
  ⟨h.os, h.tape, h.output, h.size, fun i hi => h.block i (hF i hi), h.lp⟩
theorem Kept.cell {F : Nat → Prop} {w w' : World} (h : Kept F w w') {p : Addr} (hp : F p.block) : w'.cell? p = w.cell? p := World.cell?_of_block (w := w) (h.block _ hp)
theorem Kept.drew {F : Nat → Prop} {a b : World} (h : Kept F a b) : Kept F a { b with drawn := b.drawn + 1 } := ⟨h.os, h.tape, h.output, h.size, h.block, h.lp⟩

structure CtxLe (c c' : Ctx) : Prop where
  F : ∀ i, c.F i → c'.F i
  n : c.n ≤ c'.n
  vr : ∀ b, b < c.n → c.vr b ≤ c'.vr b
  same : ∀ b, b < c.n → c.vr b = c'.vr b → c'.ρ b = c.ρ b ∧ c'.sz b = c.sz b ∧ c'.cp b = c.cp b ∧ c'.nb b = c.nb b

theorem CtxLe.refl (c : Ctx) : CtxLe c c := ⟨fun _ h => h, Nat.le_refl _, fun _ _ => Nat.le_refl _, fun _ _ _ => ⟨rfl, rfl, rfl, rfl⟩⟩
theorem CtxLe.trans {a b c : Ctx} (h : CtxLe a b) (k : CtxLe b c) : CtxLe a c := by
  refine ⟨fun i hi => k.F i (h.F i hi), Nat.le_trans h.n k.n, fun x hx => Nat.le_trans (h.vr x hx) (k.vr x (Nat.lt_of_lt_of_le hx h.n)), fun x hx e => ?_⟩
  have h1 := h.vr x hx
  have h2 := k.vr x (Nat.lt_of_lt_of_le hx h.n)
  have e1 : a.vr x = b.vr x := by omega
  have e2 : b.vr x = c.vr x := by omega
  obtain ⟨p1, p2, p3, p4⟩ := h.same x hx e1
  obtain ⟨q1, q2, q3, q4⟩ := k.same x (Nat.lt_of_lt_of_le hx h.n) e2
  exact ⟨q1.trans p1, q2.trans p2, q3.trans p3, q4.trans p4⟩

theorem CellsAt.kept {F : Nat → Prop} {w w' : World} {blk off sz : Nat} {u : Value} (h : CellsAt w blk off sz u) (k : Kept F w w') (hF : F blk) : CellsAt w' blk off sz u :=
  ⟨h.1, fun j x hx => ⟨(k.cell (p := ⟨blk, off + j, none⟩) hF).trans (h.2 j x hx).1, (h.2 j x hx).2⟩⟩

mutual
theorem SimV.mono {c c' : Ctx} {w w' : World} (hc : CtxLe c c') (hk : Kept c.F w w') : ∀ (v : AVal) (u : Value), SimV c w v u → SimV c' w' v u
  | .atom v, u, h => by simp only [SimV] at h ⊢; exact h
  | .agg cs, u, h => by
    simp only [SimV] at h ⊢
    obtain ⟨us, e, hs, h1⟩ := h
    exact ⟨us, e, SimL.mono hc hk cs us hs, h1⟩
  | .tup vs, u, h => by
    simp only [SimV] at h ⊢
    obtain ⟨us, e, hs⟩ := h
    exact ⟨us, e, SimL.mono hc hk vs us hs⟩
  | .sl es, u, h => by
    simp only [SimV] at h ⊢
    obtain ⟨a, cap, e, hcap, hp, hn, hs⟩ := h
    refine ⟨a, cap, e, hcap, hp, hn, ?_⟩
    rcases hs with hs | ⟨sz, blk, off, ea, hF, hs⟩
    · exact .inl hs
    · exact .inr ⟨sz, blk, off, ea, hc.F _ hF, SimE.mono hc hk blk sz hF es off hs⟩
  | .sn es, u, h => by
    simp only [SimV] at h ⊢
    obtain ⟨a, cap, e, hcap, hp, hs⟩ := h
    refine ⟨a, cap, e, hcap, hp, ?_⟩
    rcases hs with hs | ⟨sz, blk, off, ea, hF, hs⟩
    · exact .inl hs
    · exact .inr ⟨sz, blk, off, ea, hc.F _ hF, SimE.mono hc hk blk sz hF es off hs⟩
  | .own b ver sz off len, u, h => by
    simp only [SimV] at h ⊢
    obtain ⟨hb, hv, a, cap, e, hcap, hnil, hs⟩ := h
    refine ⟨Nat.lt_of_lt_of_le hb hc.n, Nat.le_trans hv (hc.vr b hb), a, cap, e, hcap, hnil, fun hver => ?_⟩
    have h1 := hc.vr b hb
    obtain ⟨e1, e2, e3, e4⟩ := hc.same b hb (by omega)
    rw [e1, e2, e3, e4]
    exact hs (by omega)
  | .ptr b ver off, u, h => by
    simp only [SimV] at h ⊢
    obtain ⟨hb, hv, a, e, hs⟩ := h
    refine ⟨Nat.lt_of_lt_of_le hb hc.n, Nat.le_trans hv (hc.vr b hb), a, e, fun hver => ?_⟩
    have h1 := hc.vr b hb
    obtain ⟨e1, e2, e3, e4⟩ := hc.same b hb (by omega)
    rw [e1]
    exact hs (by omega)
  | .ep b ver i off, u, h => by
    simp only [SimV] at h ⊢
    obtain ⟨hb, hv, a, e, hs⟩ := h
    refine ⟨Nat.lt_of_lt_of_le hb hc.n, Nat.le_trans hv (hc.vr b hb), a, e, fun hver => ?_⟩
    have h1 := hc.vr b hb
    obtain ⟨e1, e2, e3, e4⟩ := hc.same b hb (by omega)
    rw [e1, e2, e3, e4]
    exact hs (by omega)
  | .fp cs, u, h => by
    simp only [SimV] at h ⊢
    obtain ⟨hp, blk, off, e, hF, us, hs, hcell⟩ := h
    exact ⟨hp, blk, off, e, hc.F _ hF, us, SimL.mono hc hk cs us hs, fun j x hx => ⟨(hk.cell (p := ⟨blk, off + j, none⟩) hF).trans (hcell j x hx).1, (hcell j x hx).2⟩⟩
  | .fn f first cap, u, h => by
    simp only [SimV] at h ⊢
    obtain ⟨us, vs, e, h1, h2⟩ := h
    exact ⟨us, vs, e, SimL.mono hc hk first us h1, SimL.mono hc hk cap vs h2⟩
  | .yld b ver, u, h => by
    simp only [SimV] at h ⊢
    obtain ⟨hb, hv, l, e, hs⟩ := h
    refine ⟨Nat.lt_of_lt_of_le hb hc.n, Nat.le_trans hv (hc.vr b hb), l, e, fun hver => ?_⟩
    have h1 := hc.vr b hb
    obtain ⟨e1, e2, e3, e4⟩ := hc.same b hb (by omega)
    rw [e1]
    exact hs (by omega)
  | .mp b ver, u, h => by
    simp only [SimV] at h ⊢
    obtain ⟨hb, hv, l, e, hs⟩ := h
    refine ⟨Nat.lt_of_lt_of_le hb hc.n, Nat.le_trans hv (hc.vr b hb), l, e, fun hver => ?_⟩
    have h1 := hc.vr b hb
    obtain ⟨e1, e2, e3, e4⟩ := hc.same b hb (by omega)
    rw [e1]
    exact hs (by omega)
  | .ifc t v, u, h => by
    simp only [SimV] at h ⊢
    obtain ⟨x, e, hs⟩ := h
    exact ⟨x, e, SimV.mono hc hk v x hs⟩
  | .any, _, _ => by simp only [SimV]
theorem SimL.mono {c c' : Ctx} {w w' : World} (hc : CtxLe c c') (hk : Kept c.F w w') : ∀ (vs : List AVal) (us : List Value), SimL c w vs us → SimL c' w' vs us
  | [], us, h => by simp only [SimL] at h ⊢; exact h
  | v :: vs, us, h => by
    simp only [SimL] at h ⊢
    obtain ⟨x, xs, e, h1, h2⟩ := h
    exact ⟨x, xs, e, SimV.mono hc hk v x h1, SimL.mono hc hk vs xs h2⟩
theorem SimE.mono {c c' : Ctx} {w w' : World} (hc : CtxLe c c') (hk : Kept c.F w w') (blk sz : Nat) (hF : c.F blk) : ∀ (es : List AVal) (off : Nat), SimE c w blk sz es off → SimE c' w' blk sz es off
  | [], off, _ => by simp only [SimE]
  | e :: es, off, h => by
    simp only [SimE] at h ⊢
    obtain ⟨⟨u, h1, h2⟩, h3⟩ := h
    exact ⟨⟨u, SimV.mono hc hk e u h1, h2.kept hk hF⟩, SimE.mono hc hk blk sz hF es (off + sz) h3⟩
end

/-! Pure values hang on no box. -/
mutual
theorem SimV.pure {c c' : Ctx} {w w' : World} (hF : ∀ i, c.F i → c'.F i) (hk : Kept c.F w w') : ∀ (v : AVal) (u : Value), pureV v = true → SimV c w v u → SimV c' w' v u
  | .atom v, u, _, h => by simp only [SimV] at h ⊢; exact h
  | .agg cs, u, hp, h => by
    simp only [SimV] at h ⊢
    obtain ⟨us, e, hs, h1⟩ := h
    exact ⟨us, e, SimL.pure hF hk cs us (by simpa [pureV] using hp) hs, h1⟩
  | .tup vs, u, hp, h => by
    simp only [SimV] at h ⊢
    obtain ⟨us, e, hs⟩ := h
    exact ⟨us, e, SimL.pure hF hk vs us (by simpa [pureV] using hp) hs⟩
  | .sl es, u, _, h => by
    simp only [SimV] at h ⊢
    obtain ⟨a, cap, e, hcap, hp, hn, hs⟩ := h
    refine ⟨a, cap, e, hcap, hp, hn, ?_⟩
    rcases hs with hs | ⟨sz, blk, off, ea, hF', hs⟩
    · exact .inl hs
    · exact .inr ⟨sz, blk, off, ea, hF _ hF', SimE.pure hF hk blk sz hF' es off hp hs⟩
  | .sn es, u, _, h => by
    simp only [SimV] at h ⊢
    obtain ⟨a, cap, e, hcap, hp, hs⟩ := h
    refine ⟨a, cap, e, hcap, hp, ?_⟩
    rcases hs with hs | ⟨sz, blk, off, ea, hF', hs⟩
    · exact .inl hs
    · exact .inr ⟨sz, blk, off, ea, hF _ hF', SimE.pure hF hk blk sz hF' es off hp hs⟩
  | .fp cs, u, _, h => by
    simp only [SimV] at h ⊢
    obtain ⟨hp, blk, off, e, hF', us, hs, hcell⟩ := h
    exact ⟨hp, blk, off, e, hF _ hF', us, SimL.pure hF hk cs us hp hs, fun j x hx => ⟨(hk.cell (p := ⟨blk, off + j, none⟩) hF').trans (hcell j x hx).1, (hcell j x hx).2⟩⟩
  | .fn f first cap, u, hp, h => by
    simp only [SimV] at h ⊢
    obtain ⟨us, vs, e, h1, h2⟩ := h
    have hp' : pureL first = true ∧ pureL cap = true := by simpa [pureV] using hp
    exact ⟨us, vs, e, SimL.pure hF hk first us hp'.1 h1, SimL.pure hF hk cap vs hp'.2 h2⟩
  | .ifc t v, u, hp, h => by
    simp only [SimV] at h ⊢
    obtain ⟨x, e, hs⟩ := h
    exact ⟨x, e, SimV.pure hF hk v x (by simpa [pureV] using hp) hs⟩
  | .own .., _, hp, _ => by simp [pureV] at hp
  | .ptr .., _, hp, _ => by simp [pureV] at hp
  | .ep .., _, hp, _ => by simp [pureV] at hp
  | .yld .., _, hp, _ => by simp [pureV] at hp
  | .mp .., _, hp, _ => by simp [pureV] at hp
  | .any, _, hp, _ => by simp [pureV] at hp
theorem SimL.pure {c c' : Ctx} {w w' : World} (hF : ∀ i, c.F i → c'.F i) (hk : Kept c.F w w') : ∀ (vs : List AVal) (us : List Value), pureL vs = true → SimL c w vs us → SimL c' w' vs us
  | [], us, _, h => by simp only [SimL] at h ⊢; exact h
  | v :: vs, us, hp, h => by
    simp only [SimL] at h ⊢
    obtain ⟨x, xs, e, h1, h2⟩ := h
    have hp' : pureV v = true ∧ pureL vs = true := by simpa [pureL] using hp
    exact ⟨x, xs, e, SimV.pure hF hk v x hp'.1 h1, SimL.pure hF hk vs xs hp'.2 h2⟩
theorem SimE.pure {c c' : Ctx} {w w' : World} (hF : ∀ i, c.F i → c'.F i) (hk : Kept c.F w w') (blk sz : Nat) (hb : c.F blk) : ∀ (es : List AVal) (off : Nat), pureL es = true → SimE c w blk sz es off → SimE c' w' blk sz es off
  | [], off, _, _ => by simp only [SimE]
  | e :: es, off, hp, h => by
    simp only [SimE] at h ⊢
    obtain ⟨⟨u, h1, h2⟩, h3⟩ := h
    have hp' : pureV e = true ∧ pureL es = true := by simpa [pureL] using hp
    exact ⟨⟨u, SimV.pure hF hk e u hp'.1 h1, h2.kept hk hb⟩, SimE.pure hF hk blk sz hb es (off + sz) hp'.2 h3⟩
end

/-! Fewer boxes. -/
def Ctx.cut (c : Ctx) (n : Nat) : Ctx := { c with n := n }
mutual
theorem SimV.cut {c : Ctx} {w : World} {n : Nat} : ∀ (v : AVal) (u : Value), wfV n v = true → SimV c w v u → SimV (c.cut n) w v u
  | .atom v, u, _, h => by simp only [SimV] at h ⊢; exact h
  | .agg cs, u, hp, h => by
    simp only [SimV] at h ⊢
    obtain ⟨us, e, hs, h1⟩ := h
    exact ⟨us, e, SimL.cut cs us (by simpa [wfV] using hp) hs, h1⟩
  | .tup vs, u, hp, h => by
    simp only [SimV] at h ⊢
    obtain ⟨us, e, hs⟩ := h
    exact ⟨us, e, SimL.cut vs us (by simpa [wfV] using hp) hs⟩
  | .sl es, u, hp, h => SimV.pure (c := c) (c' := c.cut n) (fun _ h => h) (Kept.refl _ _) _ _ (by simp [pureV]) h
  | .sn es, u, hp, h => SimV.pure (c := c) (c' := c.cut n) (fun _ h => h) (Kept.refl _ _) _ _ (by simp [pureV]) h
  | .fp cs, u, hp, h => SimV.pure (c := c) (c' := c.cut n) (fun _ h => h) (Kept.refl _ _) _ _ (by simp [pureV]) h
  | .own b ver sz off len, u, hp, h => by
    simp only [SimV] at h ⊢
    exact ⟨by simpa [wfV, Ctx.cut] using hp, h.2⟩
  | .ptr b ver off, u, hp, h => by
    simp only [SimV] at h ⊢
    exact ⟨by simpa [wfV, Ctx.cut] using hp, h.2⟩
  | .ep b ver i off, u, hp, h => by
    simp only [SimV] at h ⊢
    exact ⟨by simpa [wfV, Ctx.cut] using hp, h.2⟩
  | .yld b ver, u, hp, h => by
    simp only [SimV] at h ⊢
    exact ⟨by simpa [wfV, Ctx.cut] using hp, h.2⟩
  | .mp b ver, u, hp, h => by
    simp only [SimV] at h ⊢
    exact ⟨by simpa [wfV, Ctx.cut] using hp, h.2⟩
  | .fn f first cap, u, hp, h => by
    simp only [SimV] at h ⊢
    obtain ⟨us, vs, e, h1, h2⟩ := h
    have hp' : wfL n first = true ∧ wfL n cap = true := by simpa [wfV] using hp
    exact ⟨us, vs, e, SimL.cut first us hp'.1 h1, SimL.cut cap vs hp'.2 h2⟩
  | .ifc t v, u, hp, h => by
    simp only [SimV] at h ⊢
    obtain ⟨x, e, hs⟩ := h
    exact ⟨x, e, SimV.cut v x (by simpa [wfV] using hp) hs⟩
  | .any, _, _, _ => by simp only [SimV]
theorem SimL.cut {c : Ctx} {w : World} {n : Nat} : ∀ (vs : List AVal) (us : List Value), wfL n vs = true → SimL c w vs us → SimL (c.cut n) w vs us
  | [], us, _, h => by simp only [SimL] at h ⊢; exact h
  | v :: vs, us, hp, h => by
    simp only [SimL] at h ⊢
    obtain ⟨x, xs, e, h1, h2⟩ := h
    have hp' : wfV n v = true ∧ wfL n vs = true := by simpa [wfL] using hp
    exact ⟨x, xs, e, SimV.cut v x hp'.1 h1, SimL.cut vs xs hp'.2 h2⟩
end
/-! What stands for something is well formed. -/
mutual
theorem SimV.wf {c : Ctx} {w : World} : ∀ (v : AVal) (u : Value), SimV c w v u → wfV c.n v = true
  | .atom v, u, _ => by simp [wfV]
  | .agg cs, u, h => by
    simp only [SimV] at h
    obtain ⟨us, e, hs, h1⟩ := h
    simpa [wfV] using SimL.wf cs us hs
  | .tup vs, u, h => by
    simp only [SimV] at h
    obtain ⟨us, e, hs⟩ := h
    simpa [wfV] using SimL.wf vs us hs
  | .sl es, u, h => by simp [wfV]
  | .sn es, u, h => by simp [wfV]
  | .fp cs, u, h => by simp [wfV]
  | .own b ver sz off len, u, h => by simp only [SimV] at h; simp [wfV, h.1]
  | .ptr b ver off, u, h => by simp only [SimV] at h; simp [wfV, h.1]
  | .ep b ver i off, u, h => by simp only [SimV] at h; simp [wfV, h.1]
  | .yld b ver, u, h => by simp only [SimV] at h; simp [wfV, h.1]
  | .mp b ver, u, h => by simp only [SimV] at h; simp [wfV, h.1]
  | .fn f first cap, u, h => by
    simp only [SimV] at h
    obtain ⟨us, vs, e, h1, h2⟩ := h
    simp [wfV, SimL.wf first us h1, SimL.wf cap vs h2]
  | .ifc t v, u, h => by
    simp only [SimV] at h
    obtain ⟨x, e, hs⟩ := h
    simpa [wfV] using SimV.wf v x hs
  | .any, _, _ => by simp [wfV]
theorem SimL.wf {c : Ctx} {w : World} : ∀ (vs : List AVal) (us : List Value), SimL c w vs us → wfL c.n vs = true
  | [], us, _ => by simp [wfL]
  | v :: vs, us, h => by
    simp only [SimL] at h
    obtain ⟨x, xs, e, h1, h2⟩ := h
    simp [wfL, SimV.wf v x h1, SimL.wf vs xs h2]
end
end Go.Abs
