/- The ends of a function: boxes and blocks that go. -/
import Derived.Test.YtmbleldjdhkkeaaFwH
import Derived.RangeFuncRecord
import Derived.RangeFuncNested
set_option linter.unusedSimpArgs false
set_option linter.unusedVariables false
namespace Go.Abs
open Go.RowKit
variable {P : Program} {wr : FuncId → Bool} {c : Ctx} {w : World} {G : Nat → Option (List AVal)} {s : AState} {a : Act}

theorem putObj_eq (w : World) (l : Nat) (o : Obj) : w.putObj l o = layAt w l o := rfl

/-! A loop's walk -/
theorem least {p : Nat → Prop} : ∀ (n : Nat), p n → ∃ m, p m ∧ ∀ k, k < m → ¬ p k := by
  intro n
  induction n using Nat.strongRecOn with
  | _ n ih =>
    intro h
    by_cases hk : ∃ k, k < n ∧ p k
    · obtain ⟨k, h1, h2⟩ := hk
      exact ih k h1 h2
    · exact ⟨n, h, fun k h1 h2 => hk ⟨k, h1, h2⟩⟩

open Classical in
theorem wpIn_loop_fuel {F : Fence} {n : Nat} {Q : Exit → Act → World → Prop} {c : Code} (I : Nat → Act → World → Prop) (j : Nat) (h0 : I j a w)
    (round : ∀ j a w, I j a w → c.wpIn F n P (Exit.then (fun a' w' => ∃ j', j' < j ∧ I j' a' w') Q) a w) : (Code.loop c).wpIn F n P Q a w := by
  have pick : ∀ a w, ∃ m, (∃ j, I j a w) → I m a w ∧ ∀ k, k < m → ¬ I k a w := by
    intro a w
    by_cases h : ∃ j, I j a w
    · obtain ⟨j, hj⟩ := h
      obtain ⟨m, hm⟩ := least (p := fun j => I j a w) j hj
      exact ⟨m, fun _ => hm⟩
    · exact ⟨0, fun h' => absurd h' h⟩
  let μ : Act → World → Nat := fun a w => (pick a w).choose
  have hμ : ∀ a w, (∃ j, I j a w) → I (μ a w) a w ∧ ∀ k, k < μ a w → ¬ I k a w := fun a w => (pick a w).choose_spec
  refine wpIn_loop (fun a w => ∃ j, I j a w) μ ⟨j, h0⟩ fun a w h => ?_
  obtain ⟨h1, h2⟩ := hμ a w h
  refine wpIn_mono (round _ a w h1) fun e a' w' hq => ?_
  cases e <;> first | exact hq | skip
  obtain ⟨j', hj, hI⟩ := hq
  refine ⟨⟨j', hI⟩, ?_⟩
  obtain ⟨k1, k2⟩ := hμ a' w' ⟨j', hI⟩
  by_cases hlt : j' < μ a' w'
  · exact absurd hI (k2 j' hlt)
  · omega

/-! Marks -/
def dmark (r : Nat) : Deferred := { target := .collected r, args := #[] }
def takeW (w : World) : List Nat → World
  | [] => w
  | r :: rs => takeW (layAt w r (.deferred none)) rs

theorem takeW_get : ∀ (rs : List Nat) (w : World) (i : Nat), i ∉ rs → (takeW w rs).heap[i]? = w.heap[i]?
  | [], w, i, _ => rfl
  | r :: rs, w, i, h => by
    simp only [List.mem_cons, not_or] at h
    simp only [takeW]
    rw [takeW_get rs _ i h.2, layAt_get, if_neg (fun e => h.1 e.1)]
theorem takeW_size : ∀ (rs : List Nat) (w : World), (takeW w rs).heap.size = w.heap.size
  | [], w => rfl
  | r :: rs, w => by simp only [takeW]; rw [takeW_size rs, layAt_size]
theorem takeW_kept {F : Nat → Prop} : ∀ (rs : List Nat) (w : World), rs.Nodup → (∀ r ∈ rs, ¬ F r) → (∀ r ∈ rs, w.heap[r]? = some (.deferred (some []))) → Kept F w (takeW w rs)
  | [], w, _, _, _ => Kept.refl _ _
  | r :: rs, w, hn, hF, hd => by
    simp only [takeW]
    have h1 := hd r (by simp)
    rw [List.nodup_cons] at hn
    refine (layAt_kept w r _ (hF r (by simp)) (fun r' h => by rw [h1] at h; cases h)).trans (takeW_kept rs _ hn.2 (fun x hx => hF x (by simp [hx])) (fun x hx => ?_)) (fun _ h => h)
    rw [layAt_get, if_neg (fun ⟨e, _⟩ => hn.1 (by rw [← e]; exact hx))]
    exact hd x (by simp [hx])

theorem leavesM_marks {F : Fence} {n : Nat} {fn : Func} {tmps : Array Value} {R : Ending → World → Prop} : ∀ (rs : List Nat) (w : World), rs.Nodup → (∀ r ∈ rs, w.heap[r]? = some (.deferred (some []))) →
    LeavesInM F n P fn tmps R [] .returning (takeW w rs) → LeavesInM F n P fn tmps R (rs.map dmark) .returning w
  | [], w, _, _, h => h
  | r :: rs, w, hn, hd, h => by
    rw [List.nodup_cons] at hn
    simp only [List.map_cons, LeavesInM]
    refine ⟨by simp, .inl ⟨r, layAt w r (.deferred none), rfl, run_takeDeferred (hd r (by simp)), ?_⟩⟩
    refine leavesM_marks rs _ hn.2 (fun x hx => ?_) h
    rw [layAt_get, if_neg (fun ⟨e, _⟩ => hn.1 (by rw [← e]; exact hx))]
    exact hd x (by simp [hx])

/-- The blocks of the rounds' deferred calls are given back. -/
theorem CtxLe.dropD (c : Ctx) (D : Nat → Prop) : CtxLe c { c with D := D } := ⟨fun _ h => h, Nat.le_refl _, fun _ _ => Nat.le_refl _, fun _ _ _ => ⟨rfl, rfl, rfl, rfl⟩⟩

theorem SimS.dropD {σ : Store} {rs : List Nat} {D : Nat → Prop} (h : SimS P wr c w σ) (hrs : ∀ r ∈ rs, c.D r) (hn : rs.Nodup) (hd : ∀ r ∈ rs, w.heap[r]? = some (.deferred (some []))) (hD : ∀ i, D i → c.D i) :
    SimS P wr { c with D := D } (takeW w rs) σ := by
  have hk : Kept c.F w (takeW w rs) := takeW_kept rs w hn (fun r hr hf => h.DF r (hrs r hr) hf) hd
  refine ⟨h.n, fun i hi => by rw [takeW_size]; exact h.F i hi, fun i hi => by rw [takeW_size]; exact h.D i (hD i hi), fun b B hb => ?_, h.apart, fun b B hb hB hdd => h.dis b B hb hB (hD _ hdd), fun i hi => h.DF i (hD i hi)⟩
  exact (h.box b B hb).mono (CtxLe.dropD c D) hk ⟨rfl, rfl, rfl, rfl, rfl⟩ (fun _ => Iff.rfl) (fun hB => takeW_get rs w _ (fun hr => h.dis b B hb hB (hrs _ hr)))

/-! Boxes that go -/
/-- All numbers of boxes in it are below n. -/
def wfBox (n : Nat) : Box → Prop
  | .var _ cs => wfL n cs = true
  | .loop _ _ _ tm _ _ _ _ => ∀ t, wfV n (tm t) = true
  | _ => True

theorem SimBox.wfB {b : Nat} {B : Box} (h : SimBox P wr c w b B) : wfBox c.n B := by
  cases B with
  | var ver cs =>
    obtain ⟨_, _, us, t, _, hL, _⟩ := h
    exact SimL.wf cs us hL
  | loop ver st pend tm base ps assign body =>
    obtain ⟨_, _, r, _, _, _, _, _, _, _, _, _, ht⟩ := h
    exact fun t => SimV.wf _ _ (ht t)
  | _ => trivial

theorem SimBox.cutB {b n : Nat} {B : Box} (h : SimBox P wr c w b B) (hw : wfBox n B) : SimBox P wr (c.cut n) w b B := by
  cases B with
  | var ver cs =>
    obtain ⟨h1, h2, us, t, h3, hL, h4⟩ := h
    exact ⟨h1, h2, us, t, h3, SimL.cut cs us hw hL, h4⟩
  | arr ver fz sz es =>
    obtain ⟨h1, h2, h3, h4, h5, h6⟩ := h
    refine ⟨h1, h2, h3, h4, h5, fun hn => ?_⟩
    have hA := h6 hn
    obtain ⟨cs, t, fr, g1, g2, g3, g4, hE⟩ := hA.row
    refine ⟨hA.frz, hA.len, cs, t, fr, g1, g2, g3, g4, ?_⟩
    refine SimE.mk fun k e hk => ?_
    obtain ⟨u, k1, k2⟩ := hE.get k e hk
    exact ⟨u, SimV.pure (c := c) (c' := c.cut n) (fun _ h => h) (Kept.refl _ _) _ _ (pureL_get h4 k e hk) k1, k2⟩
  | map _ _ => exact h.elim
  | loop ver st pend tm base ps assign body =>
    obtain ⟨h1, h2, r, h3, h4, h5, h6, h7, h8, h9, h10, h11, ht⟩ := h
    exact ⟨h1, h2, r, h3, h4, h5, h6, h7, h8, h9, h10, h11, fun t => SimV.cut _ _ (hw t) (ht t)⟩
  | dead _ => exact h

theorem SimS.cutS {σ : Store} {n : Nat} (h : SimS P wr c w σ) (hn : n ≤ σ.length) (hw : ∀ b B, σ[b]? = some B → b < n → wfBox n B) : SimS P wr (c.cut n) w (σ.take n) := by
  have key : ∀ {b B}, (σ.take n)[b]? = some B → σ[b]? = some B ∧ b < n := by
    intro b B hb
    rw [List.getElem?_take] at hb
    split at hb
    · rename_i hlt; exact ⟨hb, hlt⟩
    · cases hb
  refine ⟨by simp [Ctx.cut]; omega, h.F, h.D, fun b B hb => ?_, fun b b' B B' hb hb' hne hB hB' e => ?_, fun b B hb hB => ?_, h.DF⟩
  · obtain ⟨h1, h2⟩ := key hb
    exact (h.box b B h1).cutB (hw b B h1 h2)
  · exact h.apart b b' B B' (key hb).1 (key hb').1 hne hB hB' e
  · exact h.dis b B (key hb).1 hB

/-- Boxes of a frame to come. -/
def Ctx.grow (c : Ctx) (k : Nat) : Ctx := { c with n := c.n + k, vr := fun b => if b < c.n then c.vr b else 0 }
theorem Ctx.grow_le (c : Ctx) (k : Nat) : CtxLe c (c.grow k) := by
  refine ⟨fun _ h => h, Nat.le_add_right _ _, fun b hb => ?_, fun _ _ _ => ⟨rfl, rfl, rfl, rfl⟩⟩
  simp [Ctx.grow, hb]

theorem SimS.grow {σ : Store} (h : SimS P wr c w σ) (k : Nat) : SimS P wr (c.grow k) w (σ ++ List.replicate k (.dead 0)) := by
  have key : ∀ {b B}, (σ ++ List.replicate k (.dead 0))[b]? = some B → (σ[b]? = some B ∧ b < c.n) ∨ (B = .dead 0 ∧ c.n ≤ b) := by
    intro b B hb
    by_cases hlt : b < σ.length
    · rw [List.getElem?_append_left hlt] at hb
      exact .inl ⟨hb, by rw [h.n]; exact hlt⟩
    · rw [List.getElem?_append_right (by omega), List.getElem?_replicate] at hb
      split at hb
      · injection hb with hb; exact .inr ⟨hb.symm, by rw [h.n]; omega⟩
      · cases hb
  refine ⟨by simp [Ctx.grow, h.n], h.F, h.D, fun b B hb => ?_, fun b b' B B' hb hb' hne hB hB' e => ?_, fun b B hb hB => ?_, h.DF⟩
  · rcases key hb with ⟨h1, h2⟩ | ⟨rfl, h2⟩
    · exact (h.box b B h1).mono (Ctx.grow_le c k) (Kept.refl _ _) ⟨by simp [Ctx.grow, h2], rfl, rfl, rfl, rfl⟩ (fun _ => Iff.rfl) (fun _ => rfl)
    · show (c.grow k).vr b = 0
      simp [Ctx.grow]; omega
  · rcases key hb with ⟨h1, h2⟩ | ⟨rfl, h2⟩
    · rcases key hb' with ⟨h1', h2'⟩ | ⟨rfl, h2'⟩
      · exact h.apart b b' B B' h1 h1' hne hB hB' e
      · exact hB'.elim
    · exact hB.elim
  · rcases key hb with ⟨h1, h2⟩ | ⟨rfl, h2⟩
    · exact h.dis b B h1 hB
    · exact hB.elim

/-- A new loop. -/
theorem new_loop {σ : Store} {b : Nat} {B : Box} {rec : Loop} {tm : Nat → AVal} {base : Nat} {ps : List Nat} {assign body : ACode} (h : SimS P wr c w σ) (hb : σ[b]? = some B) (h1 : rec.state = .ready) (h2 : rec.pending = none) (h3 : rec.params.toList = ps)
    (h4 : ∃ app n m, (∀ p ∈ app, 0 < p.2) ∧ compCode P wr app rec.assign n = some (assign, m)) (h5 : ∃ app n m, (∀ p ∈ app, 0 < p.2) ∧ compCode P wr app rec.body n = some (body, m))
    (h6 : dstsOk rec.tmps.size rec.assign = true) (h7 : dstsOk rec.tmps.size rec.body = true) (h8 : ∀ d ∈ ps, d < rec.tmps.size) (h9 : TmOk c w tm rec.tmps) :
    ∃ c', CtxLe c c' ∧ c'.D = c.D ∧ Kept c.K w (w.alloc (.loop rec)) ∧ SimS P wr c' (w.alloc (.loop rec)) (σ.set b (.loop (B.ver + 1) .ready none tm base ps assign body)) ∧
      SimV c' (w.alloc (.loop rec)) (.yld b (B.ver + 1)) (.func (.yield w.heap.size) #[] #[]) ∧ c'.vr b = B.ver + 1 ∧ c'.ρ b = w.heap.size ∧ c'.n = c.n := by
  have hblt : b < σ.length := (List.getElem?_eq_some_iff.1 hb).1
  have hv := (h.box b B hb).vr
  let c' := c.at_ b (B.ver + 1) w.heap.size 0 0 false
  have hle : CtxLe c c' := Ctx.at_le (by omega)
  have hk := alloc_kept w (.loop rec) c.K h.K
  refine ⟨c', hle, rfl, hk, ?_, ?_, by simp [c', Ctx.at_], by simp [c', Ctx.at_], rfl⟩
  · refine h.upd hb hle (fun _ => Iff.rfl) rfl rfl Ctx.at_other hk.F (fun i hi _ => alloc_old _ _ i hi) (fun _ => ⟨.inl ?_, fun hf => ?_⟩) (fun hno => absurd trivial hno) ?_
    · simp [c', Ctx.at_]
    · have := h.F _ hf
      simp [c', Ctx.at_] at this
    · refine ⟨by simp [c', Ctx.at_], fun hf => ?_, rec, ?_, h1, by rw [h2]; trivial, h3, h4, h5, h6, h7, h8, h9.mono hle hk.F⟩
      · have := h.F _ hf
        simp [c', Ctx.at_] at this
      · simpa [c', Ctx.at_] using alloc_new w (.loop rec)
  · simp only [SimV]
    refine ⟨?_, by simp [c', Ctx.at_], _, rfl, fun _ => by simp [c', Ctx.at_]⟩
    show b < c.n
    rw [h.n]; exact hblt

/-- A loop's record is turned. -/
theorem turn_loop {σ : Store} {b ver : Nat} {st st' : LoopState} {pend pend' : Option ACode} {tm : Nat → AVal} {base : Nat} {ps : List Nat} {assign body : ACode} {r : Loop} {jump : Option Code} (h : SimS P wr c w σ) (hb : σ[b]? = some (.loop ver st pend tm base ps assign body))
    (hr : w.heap[c.ρ b]? = some (.loop r)) (hp : PendOk jump pend') :
    Kept c.K w (layAt w (c.ρ b) (.loop { r with state := st', pending := jump })) ∧ SimS P wr c (layAt w (c.ρ b) (.loop { r with state := st', pending := jump })) (σ.set b (.loop ver st' pend' tm base ps assign body)) := by
  obtain ⟨h1, h2, r', h3, h4, h5, h6, h7, h8, h9, h10, h11, ht⟩ := h.box b _ hb
  rw [hr] at h3; injection h3 with h3; injection h3 with h3; subst h3
  have hlt : c.ρ b < w.heap.size := (Array.getElem?_eq_some_iff.1 hr).1
  have hD := h.dis b _ hb trivial
  have hk : Kept c.K w (layAt w (c.ρ b) (.loop { r with state := st', pending := jump })) := layAt_kept _ _ _ (fun hK => hK.elim h2 hD) (fun r' _ => ⟨_, rfl⟩)
  refine ⟨hk, ?_⟩
  refine h.upd hb (CtxLe.refl c) (fun _ => Iff.rfl) rfl rfl (fun _ _ => ⟨rfl, rfl, rfl, rfl, rfl⟩) hk.F (fun i hi hne => ?_) (fun _ => ⟨.inr (.inl ⟨rfl, trivial⟩), h2⟩) (fun hno => absurd trivial hno) ?_
  · rw [layAt_get, if_neg (fun hh => hne hh.1)]
  · exact ⟨h1, h2, { r with state := st', pending := jump }, by rw [layAt_get, if_pos ⟨rfl, hlt⟩], rfl, hp, h6, h7, h8, h9, h10, h11, ht.mono (CtxLe.refl c) hk.F⟩

/-- A loop is over. -/
theorem end_loop {σ : Store} {b ver : Nat} {st : LoopState} {pend : Option ACode} {tm : Nat → AVal} {base : Nat} {ps : List Nat} {assign body : ACode} {r : Loop} {o : Loop} (h : SimS P wr c w σ) (hb : σ[b]? = some (.loop ver st pend tm base ps assign body))
    (hr : w.heap[c.ρ b]? = some (.loop r)) : Kept c.K w (layAt w (c.ρ b) (.loop o)) ∧ SimS P wr c (layAt w (c.ρ b) (.loop o)) (σ.set b (.dead ver)) := by
  obtain ⟨h1, h2, r', h3, h4, h5, h6, h7, h8, h9, h10, h11, ht⟩ := h.box b _ hb
  have hD := h.dis b _ hb trivial
  have hk : Kept c.K w (layAt w (c.ρ b) (.loop o)) := layAt_kept _ _ _ (fun hK => hK.elim h2 hD) (fun r' _ => ⟨_, rfl⟩)
  refine ⟨hk, ?_⟩
  refine h.upd hb (CtxLe.refl c) (fun _ => Iff.rfl) rfl rfl (fun _ _ => ⟨rfl, rfl, rfl, rfl, rfl⟩) hk.F (fun i hi hne => ?_) (fun hp => hp.elim) (fun _ i hi => ?_) h1
  · rw [layAt_get, if_neg (fun hh => hne hh.1)]
  · by_cases e : i = c.ρ b
    · exact .inr ⟨e, trivial, e ▸ h2⟩
    · exact .inl (by rw [layAt_get, if_neg (fun hh => e hh.1)])
end Go.Abs
