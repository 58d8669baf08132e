/- All operations that change nothing: the rest. -/
import Derived.Test.YtmbleldjdhkkeaaFwR
set_option linter.unusedSimpArgs false
set_option linter.unusedVariables false
namespace Go.Abs
open Go.RowKit
variable {P : Program} {wr : FuncId → Bool} {c : Ctx} {w : World} {G : Nat → Option (List AVal)} {s : AState} {a : Act}

/-- The bytes of a string. -/
theorem bytes_run : ∀ {es : List AVal} {bs : List UInt8} {us : List Value}, bytesOf es = some bs → SimL c w es us → ∃ ns : List Int, us = ns.map (Value.int .u8) ∧
    ∀ r : ByteArray, ns.foldl (fun r n => r.push (UInt8.ofNat n.toNat)) r = ⟨(r.data.toList ++ bs).toArray⟩
  | [], bs, us, h, hL => by
    simp only [bytesOf] at h; injection h with h; subst h
    simp only [SimL] at hL; subst hL
    exact ⟨[], rfl, fun r => by simp⟩
  | e :: es, bs, us, h, hL => by
    simp only [bytesOf] at h
    split at h
    · rename_i b bs' hb hbs
      injection h with h; subst h
      simp only [SimL] at hL
      obtain ⟨u, us', rfl, hu, hL'⟩ := hL
      obtain ⟨ns, rfl, hf⟩ := bytes_run hbs hL'
      unfold byteOf at hb
      split at hb
      · rename_i n
        split at hb
        · injection hb with hb; subst hb
          have := sim_int hu
          subst this
          refine ⟨n :: ns, rfl, fun r => ?_⟩
          simp only [List.foldl_cons]
          rw [hf]
          simp [ByteArray.push]
        · cases hb
      · cases hb
    · cases h

/-- The elements of a slice lie in memory. -/
theorem cont_row (h : Fr P wr G c w s a) {x : AVal} {u : Value} {es : List AVal} (hs : SimV c w x u) (hc : cont s.σ x = some es) :
    ∃ ad cap, u = .slice ad es.length cap ∧ es.length ≤ cap ∧ pureL es = true ∧ (es = [] ∨ ∃ blk off sz, ad = some ⟨blk, off, none⟩ ∧ SimE c w blk sz es off ∧
      (∀ b v n o l, x = .own b v n o l → sz = n)) := by
  unfold cont at hc
  split at hc
  · injection hc with hc; subst hc
    obtain ⟨rfl, _⟩ := sim_atom hs
    exact ⟨none, 0, rfl, Nat.le_refl _, by simp [pureL], .inl rfl⟩
  · rename_i es'
    injection hc with hc; subst hc
    simp only [SimV] at hs
    obtain ⟨ad, cap, rfl, hcap, hp, _, hor⟩ := hs
    refine ⟨ad, cap, rfl, hcap, hp, ?_⟩
    rcases hor with hor | ⟨sz, blk, off, ea, hF, hE⟩
    · exact .inl hor
    · refine .inr ⟨blk, off, sz, ea, hE, fun b v n o l e => ?_⟩
      cases e
  · rename_i b ver sz off len
    split at hc
    · rename_i v fz sz' es' hbox
      rw [chk_some] at hc
      obtain ⟨⟨rfl, hle⟩, hc⟩ := hc
      injection hc with hc; subst hc
      obtain ⟨h1, h2, h3, h4, h5, h6⟩ := h.σ.box b _ hbox
      simp only [SimV] at hs
      obtain ⟨hlt, hv, ad, cap, rfl, e2, _, hcur⟩ := hs
      obtain ⟨e1, e3, e4⟩ := hcur h1.symm
      have hl : ((es'.drop off).take len).length = len := by simp; omega
      rw [hl]
      refine ⟨ad, cap, rfl, e2, pureL_take (pureL_drop h4 _) _, ?_⟩
      by_cases hz : (es'.drop off).take len = []
      · exact .inl hz
      · right
        have hpos : 0 < len := by
          rcases Nat.eq_zero_or_pos len with h0 | h0
          · subst h0; simp at hz
          · exact h0
        by_cases hnb : c.nb b = true
        · obtain ⟨_, e, _⟩ := e3 hnb; omega
        · have hnb : c.nb b = false := by simpa using hnb
          obtain ⟨e5, ad', rfl, e6⟩ := e4 hnb
          obtain ⟨cs, t', fr, hheap, hsz, hfr, ho, hE⟩ := (h6 hnb).row
          refine ⟨c.ρ b, off * sz, sz, by rw [e6 (by omega)], ?_, fun b v n o l e => (by injection e)⟩
          rw [← h2, ← e1] at hE
          have := (hE.drop off (by omega)).take len
          rwa [Nat.zero_add] at this
    · cases hc
  · cases hc

/-- Elements of one cell, in a row. -/
theorem SimE.row1 {blk : Nat} : ∀ {es : List AVal} {off : Nat} {bs : List UInt8}, SimE c w blk 1 es off → bytesOf es = some bs → ∃ us, SimL c w es us ∧ RowAt w blk off us
  | [], off, bs, _, _ => ⟨[], by simp [SimL], fun j x hj => by simp at hj⟩
  | e :: es, off, bs, h, hb => by
    simp only [bytesOf] at hb
    split at hb
    · rename_i b bs' hb1 hb2
      simp only [SimE] at h
      obtain ⟨⟨u, h1, h2⟩, h3⟩ := h
      obtain ⟨us, g1, g2⟩ := SimE.row1 h3 hb2
      refine ⟨u :: us, by simp only [SimL]; exact ⟨u, us, rfl, h1, g1⟩, fun j x hj => ?_⟩
      cases j with
      | zero =>
        simp at hj; subst hj
        unfold byteOf at hb1
        split at hb1
        · rename_i n
          have := sim_int h1
          subst this
          simpa using (h2.2 0 _ (by simp [Value.cells])).1
        · cases hb1
      | succ j =>
        simp at hj
        have := g2 j x hj
        rwa [show off + (j + 1) = off + 1 + j by omega]
    · cases hb

theorem SimE.sz1 {blk sz off : Nat} {es : List AVal} {bs : List UInt8} (h : SimE c w blk sz es off) (hb : bytesOf es = some bs) (hne : es ≠ []) : sz = 1 := by
  cases es with
  | nil => exact absurd rfl hne
  | cons e es =>
    simp only [bytesOf] at hb
    split at hb
    · rename_i b bs' hb1 hb2
      simp only [SimE] at h
      obtain ⟨⟨u, h1, h2⟩, _⟩ := h
      unfold byteOf at hb1
      split at hb1
      · rename_i n
        have := sim_int h1
        subst this
        simpa [Value.cells] using h2.1.symm
      · cases hb1
    · cases hb

theorem b2s_run (h : Fr P wr G c w s a) {x : AVal} {u : Value} {es : List AVal} {bs : List UInt8} (hs : SimV c w x u) (hc : cont s.σ x = some es) (hb : bytesOf es = some bs) :
    (Conv.bytesToString u).run P w = .ok (.string ⟨bs.toArray⟩) w := by
  obtain ⟨ad, cap, rfl, hcap, hp, hor⟩ := cont_row h hs hc
  rcases hor with rfl | ⟨blk, off, sz, rfl, hE, _⟩
  · simp only [bytesOf] at hb; injection hb with hb; subst hb
    cases ad with
    | none => rfl
    | some ad => exact run_bytesToString w ad 0 cap [] (by rfl)
  · by_cases hne : es = []
    · subst hne
      simp only [bytesOf] at hb; injection hb with hb; subst hb
      exact run_bytesToString w _ 0 cap [] (by rfl)
    · obtain rfl := hE.sz1 hb hne
      obtain ⟨us, hL, hrow⟩ := hE.row1 hb
      obtain ⟨ns, hns, hf⟩ := bytes_run hb hL
      have hlen := hL.length
      have := run_loadCells_row (P := P) hrow
      rw [hlen, hns] at this
      rw [run_bytesToString w _ es.length cap ns this, hf]
      rfl

/-! Bounds of a slice -/
theorem sliceBound_run {v : AVal} {u : Value} {n : Int} {y : Nat} {code : BoundsCode} (h : SimV c w v u) (hi : idx v = some n) (h0 : 0 ≤ n) (h1 : n ≤ y) :
    (Instr.sliceBound u y code).run P w = .ok n.toNat w := by
  obtain ⟨k, rfl⟩ := idx_sim h hi
  simp only [Instr.sliceBound, asIntOf, Sem.run_bind, Sem.run_pure, Result.andThen_ok]
  rw [if_pos ⟨h0, h1⟩]
  rfl

/-- An operand that may be left out. -/
theorem opdO {x : Option Operand} {y : Option AOpd} (hx : compOpdO x = some y) : (x = none ∧ y = none) ∨ ∃ x' y', x = some x' ∧ y = some y' ∧ compOpd x' = some y' := by
  cases x with
  | none => simp only [compOpdO] at hx; injection hx with hx; exact .inl ⟨rfl, hx.symm⟩
  | some x' =>
    simp only [compOpdO, Option.map_eq_some_iff] at hx
    obtain ⟨y', h1, rfl⟩ := hx
    exact .inr ⟨x', y', rfl, rfl, h1⟩

theorem sliceBounds_run (h : Fr P wr G c w s a) {l hh m : Option Operand} {l' h' m' : Option AOpd} (hl : compOpdO l = some l') (hhh : compOpdO hh = some h') (hm : compOpdO m = some m') {len cap : Nat} (hcap : len ≤ cap) {p : Nat × Nat}
    (hb : bnds len (evo G s l') (evo G s h') (evo G s m') = some p) (hmm : m.isSome = true → hh.isSome = true) :
    ∃ mx, (Instr.sliceBounds true len cap (l.map a.eval) (hh.map a.eval) (m.map a.eval)).run P w = .ok (p.1, p.2, mx) w ∧ p.1 ≤ p.2 ∧ p.2 ≤ len ∧ p.2 ≤ mx ∧ mx ≤ cap := by
  unfold bnds at hb
  split at hb
  · rename_i li hi mi e1 e2 e3
    rw [chk_some] at hb
    obtain ⟨⟨b1, b2, b3, b4⟩, hb⟩ := hb
    injection hb with hb; subst hb
    simp only
    have lo0 : l = none → li = 0 := by
      intro e
      rcases opdO hl with ⟨_, rfl⟩ | ⟨x, y', e', _, _⟩
      · simp only [evo] at e1; exact (Option.some.inj e1).symm
      · rw [e] at e'; cases e'
    have lo1 : ∀ x, l = some x → ∀ (y : Nat) code, hi ≤ y → (Instr.sliceBound (a.eval x) y code).run P w = .ok li.toNat w := by
      intro x e y code hy
      rcases opdO hl with ⟨e', _⟩ | ⟨x', y', e', rfl, hx⟩
      · rw [e] at e'; cases e'
      · rw [e] at e'; injection e' with e'; subst e'
        simp only [evo] at e1
        exact sliceBound_run (h.ev hx) e1 b1 (by omega)
    have z0 : l = none → (0 : Nat) = li.toNat := fun e => by rw [lo0 e]; rfl
    rcases opdO hm with ⟨rfl, rfl⟩ | ⟨x, y', rfl, rfl, hx⟩
    · simp only [evo] at e3; injection e3 with e3; subst e3
      rcases opdO hhh with ⟨rfl, rfl⟩ | ⟨x2, y2, rfl, rfl, hx2⟩
      · simp only [evo] at e2; injection e2 with e2; subst e2
        refine ⟨cap, ?_, by omega, by simp, by simpa using hcap, Nat.le_refl _⟩
        unfold Instr.sliceBounds
        simp only [Option.map_none, Sem.run_bind, Sem.run_pure, Result.andThen_ok, Option.isSome_none, Bool.false_eq_true, if_false]
        cases l with
        | none => simp [← z0 rfl]
        | some x => simp [lo1 x rfl len .sliceB (by omega)]
      · simp only [evo] at e2
        refine ⟨cap, ?_, by omega, by omega, by omega, Nat.le_refl _⟩
        have h2 := sliceBound_run (P := P) (code := .sliceAcap) (y := cap) (h.ev hx2) e2 (by omega) (by omega)
        unfold Instr.sliceBounds
        simp only [Option.map_none, Option.map_some, Sem.run_bind, Sem.run_pure, Result.andThen_ok, Option.isSome_none, Bool.false_eq_true, if_false, if_true, h2]
        cases l with
        | none => simp [← z0 rfl]
        | some x => simp [lo1 x rfl hi.toNat .sliceB (by omega)]
    · simp only [evo] at e3
      rcases opdO hhh with ⟨rfl, rfl⟩ | ⟨x2, y2, rfl, rfl, hx2⟩
      · simp at hmm
      · simp only [evo] at e2
        refine ⟨mi.toNat, ?_, by omega, by omega, by omega, by omega⟩
        have h3 := sliceBound_run (P := P) (code := .slice3Acap) (y := cap) (h.ev hx) e3 (by omega) (by omega)
        have h2 := sliceBound_run (P := P) (code := .slice3B) (y := mi.toNat) (h.ev hx2) e2 (by omega) (by omega)
        unfold Instr.sliceBounds
        simp only [Option.map_some, Sem.run_bind, Sem.run_pure, Result.andThen_ok, Option.isSome_some, if_true, h3, h2]
        cases l with
        | none => simp [← z0 rfl]
        | some x => simp [lo1 x rfl hi.toNat .slice3C (by omega)]
  · cases hb

theorem addr_add (blk off n : Nat) : (⟨blk, off, none⟩ : Addr).add n = ⟨blk, off + n, none⟩ := by
  unfold Addr.add
  split
  · rename_i h; subst h; rfl
  · rfl

theorem SimE.unif {blk sz off n : Nat} {es : List AVal} (h : SimE c w blk sz es off) (hp : pureL es = true) (hu : Go.Abs.unif n es = true) (hne : es ≠ []) : sz = n := by
  cases es with
  | nil => exact absurd rfl hne
  | cons e es =>
    simp only [SimE] at h
    obtain ⟨⟨u, h1, h2⟩, _⟩ := h
    have h3 : e.cells.length = n := by simp [Go.Abs.unif] at hu; exact hu.1
    have hp' : pureV e = true ∧ pureL es = true := by simpa [pureL] using hp
    obtain ⟨us, _, hL, hlen, _⟩ := CellsAt.sim h1 h2 hp'.1
    have := hL.length
    omega

theorem slc_ok (h : Fr P wr G c w s a) {t e : TypeId} {k : Nat} {x : Operand} {y : AOpd} {l hh m : Option Operand} {l' h' m' : Option AOpd} {v : AVal} (hu : P.underlying t = some (.slice e)) (hk : tsize P e = some k)
    (hx : compOpd x = some y) (hl : compOpdO l = some l') (hhh : compOpdO hh = some h') (hm : compOpdO m = some m') (hmm : m.isSome = true → hh.isSome = true) (he : eop G s (.slc k y l' h' m') = some v) :
    Yld P c w (do pure (.value (← Instr.sliceAt t (a.eval x) (l.map a.eval) (hh.map a.eval) (m.map a.eval)))) v := by
  have run : ∀ {ad : Option Addr} {len cap : Nat} {p : Nat × Nat} {mx : Nat}, a.eval x = .slice ad len cap →
      (Instr.sliceBounds true len cap (l.map a.eval) (hh.map a.eval) (m.map a.eval)).run P w = .ok (p.1, p.2, mx) w →
      (Instr.sliceAt t (a.eval x) (l.map a.eval) (hh.map a.eval) (m.map a.eval)).run P w = .ok (.slice (if mx = p.1 then ad else ad.map (·.add (p.1 * k))) (p.2 - p.1) (mx - p.1)) w := by
    intro ad len cap p mx e1 e2
    unfold Instr.sliceAt
    rw [Sem.run_bind, run_underlying hu, Result.andThen_ok]
    dsimp only
    unfold Instr.slice
    rw [Sem.run_bind, run_underlying hu, Result.andThen_ok, e1]
    dsimp only
    rw [Sem.run_bind, e2, Result.andThen_ok]
    dsimp only
    rw [Sem.run_bind, run_tsize hk, Result.andThen_ok]
    rfl
  simp only [eop] at he
  split at he
  · rename_i es hb
    rw [chk_some] at he
    obtain ⟨hun, he⟩ := he
    rw [Option.map_eq_some_iff] at he
    obtain ⟨p, hp, rfl⟩ := he
    have hs := h.evs hx hb
    simp only [SimV] at hs
    obtain ⟨ad, cap, e, hcap, hpure, hnn, hor⟩ := hs
    obtain ⟨mx, hr, h1, h2, h3, h4⟩ := sliceBounds_run h hl hhh hm hcap hp hmm
    refine Yld.v (run e hr) ?_
    simp only [SimV]
    have hlen : ((es.drop p.1).take (p.2 - p.1)).length = p.2 - p.1 := by simp; omega
    rw [hlen]
    refine ⟨_, _, rfl, by omega, pureL_take (pureL_drop hpure _) _, fun e0 => ?_, ?_⟩
    · have : ad = none := by
        split at e0
        · exact e0
        · simpa using e0
      have := hnn this
      omega
    rcases hor with rfl | ⟨sz, blk, off, rfl, hF, hE⟩
    · exact .inl (by simp)
    · by_cases hz : p.2 - p.1 = 0
      · exact .inl (by rw [hz]; simp)
      · have hsz : sz = k := hE.unif hpure hun (by intro e; subst e; simp at h2; omega)
        subst hsz
        refine .inr ⟨sz, blk, off + p.1 * sz, ?_, hF, (hE.drop p.1 (by omega)).take _⟩
        rw [if_neg (by omega)]
        simp [addr_add]
  · rename_i b ver sz off len hb
    rw [chk_some] at he
    obtain ⟨rfl, he⟩ := he
    rw [Option.map_eq_some_iff] at he
    obtain ⟨p, hp, rfl⟩ := he
    have hs := h.evs hx hb
    simp only [SimV] at hs
    obtain ⟨hlt, hv, ad, cap, e, q2, hnil, hcur⟩ := hs
    obtain ⟨mx, hr, h1, h2, h3, h4⟩ := sliceBounds_run h hl hhh hm q2 hp hmm
    refine Yld.v (run e hr) ?_
    simp only [SimV]
    refine ⟨hlt, hv, _, _, rfl, by omega, fun e0 => ?_, fun hver => ?_⟩
    · have : ad = none := by
        split at e0
        · exact e0
        · simpa using e0
      have := hnil this
      omega
    · obtain ⟨q1, q3, q4⟩ := hcur hver
      refine ⟨q1, fun hn => ?_, fun hn => ?_⟩
      · obtain ⟨r2, r3, r4⟩ := q3 hn
        have : p.1 = 0 := by omega
        exact ⟨by omega, by omega, by omega⟩
      · obtain ⟨r1, ad', rfl, r2⟩ := q4 hn
        refine ⟨by omega, ?_⟩
        by_cases hz : mx = p.1
        · exact ⟨ad', by rw [if_pos hz], fun hpos => by omega⟩
        · refine ⟨ad'.add (p.1 * sz), by rw [if_neg hz]; rfl, fun _ => ?_⟩
          rw [r2 (by omega), addr_add, Nat.add_mul]
  · rename_i hb
    rw [Option.map_eq_some_iff] at he
    obtain ⟨p, hp, rfl⟩ := he
    obtain ⟨e, _⟩ := sim_atom (h.evs hx hb)
    obtain ⟨mx, hr, h1, h2, h3, h4⟩ := sliceBounds_run h hl hhh hm (Nat.le_refl 0) hp hmm
    refine Yld.v (run e hr) ?_
    have : p.1 = 0 ∧ p.2 = 0 ∧ mx = 0 := by omega
    simp only [this.1, this.2.1, this.2.2]
    exact sim_mk rfl
  · cases he
end Go.Abs
