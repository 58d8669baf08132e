/- All operations that change nothing: the last ones, and all together. -/
import Derived.Test.YtmbleldjdhkkeaaFwT
set_option linter.unusedSimpArgs false
set_option linter.unusedVariables false
namespace Go.Abs
open Go.RowKit
variable {P : Program} {wr : FuncId → Bool} {c : Ctx} {w : World} {G : Nat → Option (List AVal)} {s : AState} {a : Act}

theorem fieldOf_spec {t : TypeId} {f : Nat} {g : Bool} {off n : Nat} (h : fieldOf P t f = some (g, off, n)) :
    ∃ fs x, P.underlying t = some (.struct fs) ∧ fs[f]? = some x ∧ tagg P x.type = some g ∧ tsize P x.type = some n ∧ x.offset = off ∧ n ≠ 0 := by
  unfold fieldOf at h
  split at h
  · rename_i fs hu
    split at h
    · rename_i x hx
      split at h
      · rename_i g' n' hg hn
        split at h
        · cases h
        · rename_i hz
          injection h with h
          injection h with h1 h2
          injection h2 with h2 h3
          subst h1; subst h2; subst h3
          exact ⟨fs, x, hu, hx, hg, hn, rfl, hz⟩
      · cases h
    · cases h
  · cases h

theorem aun_run {op : UnOp} {x r : Value} (h : aun op x = some r) (w : World) : (Op.unary op x).run P w = .ok r w ∧ atomV r = true := by
  unfold aun at h
  split at h
  · split at h
    · injection h with h; subst h; exact ⟨rfl, rfl⟩
    · cases h
  · split at h
    · injection h with h; subst h
      constructor
      · simp [Op.unary, Op.intArith]
      · rfl
    · cases h
  · cases h

theorem fa_ok (h : Fr P wr G c w s a) {t : TypeId} {f off n : Nat} {g : Bool} {x : Operand} {y : AOpd} {v : AVal} (hf : fieldOf P t f = some (g, off, n)) (hx : compOpd x = some y)
    (he : eop G s (.fa off y) = some v) : Yld P c w (do pure (.value (← Instr.fieldAt t (a.eval x) f))) v := by
  obtain ⟨fs, fl, hu, hfl, hg, hn, rfl, hz⟩ := fieldOf_spec hf
  have run : ∀ {ad : Addr}, a.eval x = .pointer (some ad) → (Instr.fieldAt t (a.eval x) f).run P w = .ok (.pointer (some (ad.add fl.offset))) w := by
    intro ad e
    unfold Instr.fieldAt
    rw [Sem.run_bind, run_underlying hu, Result.andThen_ok]
    dsimp only
    rw [hfl]
    dsimp only
    rw [e]
    simp only [Instr.sureAddr, Sem.run_bind, Sem.run_pure, Result.andThen_ok, fieldPlace, run_tsize hn]
    rw [if_neg hz]
    rfl
  simp only [eop] at he
  split at he
  · rename_i b ver o hb
    injection he with he; subst he
    have hs := h.evs hx hb
    simp only [SimV] at hs
    obtain ⟨hlt, hv, ad, e, had⟩ := hs
    refine Yld.v (run e) ?_
    simp only [SimV]
    exact ⟨hlt, hv, _, rfl, fun hver => by rw [had hver, addr_add]⟩
  · rename_i b ver i o hb
    injection he with he; subst he
    have hs := h.evs hx hb
    simp only [SimV] at hs
    obtain ⟨hlt, hv, ad, e, had⟩ := hs
    refine Yld.v (run e) ?_
    simp only [SimV]
    refine ⟨hlt, hv, _, rfl, fun hver => ?_⟩
    obtain ⟨h1, h2, h3⟩ := had hver
    exact ⟨h1, h2, by rw [h3, addr_add, Nat.add_assoc]⟩
  · rename_i cs hb
    injection he with he; subst he
    have hs := h.evs hx hb
    simp only [SimV] at hs
    obtain ⟨hp, blk, o, e, hF, us, hL, hc⟩ := hs
    refine Yld.v (run e) ?_
    simp only [SimV]
    refine ⟨pureL_drop hp _, blk, o + fl.offset, by rw [addr_add], hF, us.drop fl.offset, hL.drop _, fun j z hj => ?_⟩
    rw [List.getElem?_drop] at hj
    have := hc _ z hj
    rwa [show o + fl.offset + j = o + (fl.offset + j) by omega]
  · cases he

theorem ia_ok (h : Fr P wr G c w s a) {t e : TypeId} {k : Nat} {x i : Operand} {y j : AOpd} {v : AVal} (hu : P.underlying t = some (.slice e)) (hk : tsize P e = some k) (hx : compOpd x = some y) (hi : compOpd i = some j)
    (he : eop G s (.ia k y j) = some v) : Yld P c w (do pure (.value (← Instr.indexAt t (a.eval x) (a.eval i)))) v := by
  have run : ∀ {ad : Addr} {len cap : Nat} {n : Int} {q : IntKind}, a.eval x = .slice (some ad) len cap → a.eval i = .int q n → 0 ≤ n → n < len →
      (Instr.indexAt t (a.eval x) (a.eval i)).run P w = .ok (.pointer (some (ad.add (n.toNat * k)))) w := by
    intro ad len cap n q e1 e2 h0 h1
    unfold Instr.indexAt
    rw [e1, e2]
    simp only [asIntOf, Sem.run_bind, Sem.run_pure, Result.andThen_ok, run_underlying hu]
    rw [if_pos ⟨h0, h1⟩]
    simp only [Sem.run_bind, run_tsize hk, Result.andThen_ok]
    rfl
  simp only [eop] at he
  split at he
  · rename_i es n hb hn
    rw [chk_some] at he
    obtain ⟨⟨h0, h1⟩, he⟩ := he
    rw [Option.bind_eq_some_iff] at he
    obtain ⟨el, hel, he⟩ := he
    rw [chk_some] at he
    obtain ⟨hk1, he⟩ := he
    injection he with he; subst he
    have hs := h.evs hx hb
    simp only [SimV] at hs
    obtain ⟨ad, cap, e, hcap, hp, _, hor⟩ := hs
    obtain ⟨q, e2⟩ := idx_sim (h.ev hi) hn
    rcases hor with rfl | ⟨sz, blk, off, rfl, hF, hE⟩
    · simp at h1; omega
    · obtain ⟨u, g1, g2⟩ := hE.get n.toNat el hel
      obtain ⟨us, rfl, hL, hlen, hrow, ho⟩ := CellsAt.sim g1 g2 (pureL_get hp _ el hel)
      have hsz : sz = k := by have := hL.length; omega
      subst hsz
      refine Yld.v (run e e2 h0 h1) ?_
      simp only [SimV]
      refine ⟨pureV_cells (pureL_get hp _ el hel), blk, off + n.toNat * sz, by rw [addr_add], hF, _, hL, fun j z hj => ⟨hrow j z hj, ho z (List.mem_of_getElem? hj)⟩⟩
  · rename_i b ver sz off len n hb hn
    rw [chk_some] at he
    obtain ⟨⟨rfl, h0, h1⟩, he⟩ := he
    injection he with he; subst he
    have hs := h.evs hx hb
    simp only [SimV] at hs
    obtain ⟨hlt, hv, ad, cap, e, hcap, hnil, hcur⟩ := hs
    obtain ⟨q, e2⟩ := idx_sim (h.ev hi) hn
    cases ad with
    | none => have := hnil rfl; omega
    | some ad =>
      refine Yld.v (run e e2 h0 h1) ?_
      simp only [SimV]
      refine ⟨hlt, hv, _, rfl, fun hver => ?_⟩
      obtain ⟨q1, q3, q4⟩ := hcur hver
      by_cases hnb : c.nb b = true
      · obtain ⟨_, r1, _⟩ := q3 hnb; omega
      · have hnb : c.nb b = false := by simpa using hnb
        obtain ⟨r1, ad', e', r2⟩ := q4 hnb
        injection e' with e'; subst e'
        refine ⟨hnb, by omega, ?_⟩
        rw [r2 (by omega), addr_add, q1, Nat.add_mul, Nat.add_zero]
  · cases he

theorem iaa_ok (h : Fr P wr G c w s a) {t e : TypeId} {m k : Nat} {x i : Operand} {y j : AOpd} {v : AVal} (hu : P.underlying t = some (.array m e)) (hk : tsize P e = some k) (hx : compOpd x = some y) (hi : compOpd i = some j)
    (he : eop G s (.iaa m k y j) = some v) : Yld P c w (do pure (.value (← Instr.indexAt t (a.eval x) (a.eval i)))) v := by
  have run : ∀ {ad : Addr} {n : Int} {q : IntKind}, a.eval x = .pointer (some ad) → a.eval i = .int q n → 0 ≤ n → n < m →
      (Instr.indexAt t (a.eval x) (a.eval i)).run P w = .ok (.pointer (some (ad.add (n.toNat * k)))) w := by
    intro ad n q e1 e2 h0 h1
    unfold Instr.indexAt
    rw [e1, e2]
    simp only [asIntOf, Sem.run_bind, Sem.run_pure, Result.andThen_ok, run_underlying hu, Instr.sureAddr]
    rw [if_pos ⟨h0, h1⟩]
    simp only [Sem.run_bind, run_tsize hk, Result.andThen_ok]
    rfl
  simp only [eop] at he
  split at he
  · rename_i b ver o n hb hn
    rw [chk_some] at he
    obtain ⟨⟨h0, h1⟩, he⟩ := he
    injection he with he; subst he
    have hs := h.evs hx hb
    simp only [SimV] at hs
    obtain ⟨hlt, hv, ad, e, had⟩ := hs
    obtain ⟨q, e2⟩ := idx_sim (h.ev hi) hn
    refine Yld.v (run e e2 h0 h1) ?_
    simp only [SimV]
    exact ⟨hlt, hv, _, rfl, fun hver => by rw [had hver, addr_add]⟩
  · rename_i b ver jj o n hb hn
    rw [chk_some] at he
    obtain ⟨⟨h0, h1⟩, he⟩ := he
    injection he with he; subst he
    have hs := h.evs hx hb
    simp only [SimV] at hs
    obtain ⟨hlt, hv, ad, e, had⟩ := hs
    obtain ⟨q, e2⟩ := idx_sim (h.ev hi) hn
    refine Yld.v (run e e2 h0 h1) ?_
    simp only [SimV]
    refine ⟨hlt, hv, _, rfl, fun hver => ?_⟩
    obtain ⟨r1, r2, r3⟩ := had hver
    exact ⟨r1, r2, by rw [r3, addr_add, Nat.add_assoc]⟩
  · rename_i cs n hb hn
    rw [chk_some] at he
    obtain ⟨⟨h0, h1⟩, he⟩ := he
    injection he with he; subst he
    have hs := h.evs hx hb
    simp only [SimV] at hs
    obtain ⟨hp, blk, o, e, hF, us, hL, hc⟩ := hs
    obtain ⟨q, e2⟩ := idx_sim (h.ev hi) hn
    refine Yld.v (run e e2 h0 h1) ?_
    simp only [SimV]
    refine ⟨pureL_drop hp _, blk, o + n.toNat * k, by rw [addr_add], hF, us.drop (n.toNat * k), hL.drop _, fun j z hj => ?_⟩
    rw [List.getElem?_drop] at hj
    have := hc _ z hj
    rwa [show o + n.toNat * k + j = o + (n.toNat * k + j) by omega]
  · cases he

theorem ixa_ok (h : Fr P wr G c w s a) {t e : TypeId} {m k : Nat} {g : Bool} {x i : Operand} {y j : AOpd} {v : AVal} (hu : P.underlying t = some (.array m e)) (hg : tagg P e = some g) (hk : tsize P e = some k) (hx : compOpd x = some y) (hi : compOpd i = some j)
    (he : eop G s (.ixa g m k y j) = some v) : Yld P c w (do pure (.value (← Instr.index t (a.eval x) (a.eval i)))) v := by
  simp only [eop] at he
  split at he
  · rename_i cs n hb hn
    rw [chk_some] at he
    obtain ⟨⟨h0, h1⟩, he⟩ := he
    have hs := h.evs hx hb
    simp only [SimV] at hs
    obtain ⟨us, e, hL, ho⟩ := hs
    obtain ⟨q, e2⟩ := idx_sim (h.ev hi) hn
    obtain ⟨u, hr, hv⟩ := part_sim hg hk hL ho he
    refine Yld.v (u := u) ?_ hv
    unfold Instr.index
    rw [e, e2]
    simp only [asIntOf, Sem.run_bind, Sem.run_pure, Result.andThen_ok, run_underlying hu]
    rw [if_pos ⟨h0, h1⟩]
    simp only [Sem.run_bind, run_tsize hk, Result.andThen_ok]
    exact hr
  · cases he

theorem fld_ok (h : Fr P wr G c w s a) {t : TypeId} {f off n : Nat} {g : Bool} {x : Operand} {y : AOpd} {v : AVal} (hf : fieldOf P t f = some (g, off, n)) (hx : compOpd x = some y)
    (he : eop G s (.fld g off n y) = some v) : Yld P c w (do pure (.value (← Instr.field t (a.eval x) f))) v := by
  obtain ⟨fs, fl, hu, hfl, hg, hn, rfl, hz⟩ := fieldOf_spec hf
  simp only [eop] at he
  split at he
  · rename_i cs hb
    have hs := h.evs hx hb
    simp only [SimV] at hs
    obtain ⟨us, e, hL, ho⟩ := hs
    obtain ⟨u, hr, hv⟩ := part_sim hg hn hL ho he
    refine Yld.v (u := u) ?_ hv
    unfold Instr.field
    rw [e]
    simp only [Sem.run_bind, Sem.run_pure, Result.andThen_ok, run_underlying hu, hfl, asAgg]
    exact hr
  · cases he

theorem ext_ok (h : Fr P wr G c w s a) {i : Nat} {x : Operand} {y : AOpd} {v : AVal} (hx : compOpd x = some y) (he : eop G s (.ext y i) = some v) : Yld P c w (do pure (.value (← Instr.extract (a.eval x) i))) v := by
  simp only [eop] at he
  split at he
  · rename_i vs hb
    have hs := h.evs hx hb
    simp only [SimV] at hs
    obtain ⟨us, e, hL⟩ := hs
    obtain ⟨u, hu, hv⟩ := hL.get i v he
    refine Yld.v (u := u) ?_ hv
    rw [e]
    simp only [Instr.extract]
    have : us.toArray[i]? = some u := by simpa using hu
    rw [this]; rfl
  · cases he

theorem len_ok (h : Fr P wr G c w s a) {t e ty : TypeId} {x : Operand} {y : AOpd} {v : AVal} {consts : Array Bool} {args : Array TypeId} (ha : args[0]? = some t) (hu : P.underlying t = some (.slice e)) (hx : compOpd x = some y)
    (he : eop G s (.len y) = some v) : Yld P c w (builtin .len args ty consts #[a.eval x]) v := by
  have sl : ∀ {ad : Option Addr} {n cap : Nat}, a.eval x = .slice ad n cap → v = aint n → Yld P c w (builtin .len args ty consts #[a.eval x]) v := by
    intro ad n cap e hv
    subst hv
    refine Yld.v (x := Builtin.len_ args ty #[a.eval x]) (u := .int .i64 n) ?_ (sim_mk rfl)
    simp [Builtin.len_, ha, run_underlying hu, e, goInt]
  simp only [eop] at he
  split at he
  · rename_i hb
    injection he with he; subst he
    obtain ⟨e, _⟩ := sim_atom (h.evs hx hb)
    exact sl e rfl
  · rename_i es hb
    injection he with he; subst he
    have hs := h.evs hx hb
    simp only [SimV] at hs
    obtain ⟨ad, cap, e, _⟩ := hs
    exact sl e rfl
  · rename_i b ver sz off len hb
    injection he with he; subst he
    have hs := h.evs hx hb
    simp only [SimV] at hs
    obtain ⟨_, _, ad, cap, e, _⟩ := hs
    exact sl e rfl
  · cases he

theorem lenS_ok (h : Fr P wr G c w s a) {t ty : TypeId} {x : Operand} {y : AOpd} {v : AVal} {consts : Array Bool} {args : Array TypeId} (ha : args[0]? = some t) (hu : P.underlying t = some .string) (hx : compOpd x = some y)
    (he : eop G s (.lenS y) = some v) : Yld P c w (builtin .len args ty consts #[a.eval x]) v := by
  simp only [eop] at he
  split at he
  · rename_i b hb
    injection he with he; subst he
    obtain ⟨e, _⟩ := sim_atom (h.evs hx hb)
    refine Yld.v (x := Builtin.len_ args ty #[a.eval x]) (u := .int .i64 b.size) ?_ (sim_mk rfl)
    simp [Builtin.len_, ha, run_underlying hu, e, goInt]
  · cases he
end Go.Abs
