/- From a call that answers true and leaves what was there, to the row that says so. -/
import Derived.Test.YtmbleldjdhkkeaaFwAA
import Derived.ProofKit
import Derived.ChangeSame
set_option linter.unusedSimpArgs false
set_option linter.unusedVariables false
namespace Go.Abs
open Go.ChangeShapes Go.WideShapes Go.ChangeAt Go.RowKit
section
variable {H : Type} {enc : TypeId × Value → H} {P : Program}

theorem trodAll_keep (hl : laidOutB P = true) {W W' : World} (hb : Below W.heap.size W W') {sp : Nat → Bool} : ∀ {ts : List TypeId} {vs : List Value} {ds : List (DataW H)} {ps : List MemPlace}, (∀ t ∈ ts, P.readableRec t = true ∧ t < P.types.size) →
    DataW.TrodAll enc P W 0 (fun _ => true) true ts vs ds ps → (∀ p ∈ ps, p.block < W.heap.size ∧ sp p.block = true) → DataW.TrodAll enc P W' 0 sp true ts vs ds ps
  | [], vs, ds, ps, _, h, _ => by
    obtain ⟨rfl, rfl, rfl⟩ := trodAll_nil h
    exact trodAll_mk0
  | t :: ts, vs, ds, ps, hts, h, hp => by
    obtain ⟨v, vs', d, ds', p, q, rfl, rfl, rfl, h1, h2⟩ := trodAll_cons h
    obtain ⟨k1, k2⟩ := hts t (by simp)
    exact ⟨p, q, WideElems.Trod_stays hl k1 k2 h1 (fun x hx => hb.same (hp x (by simp [hx])).1) (fun x hx => (hp x (by simp [hx])).2),
      trodAll_keep hl hb (fun t' ht' => hts t' (by simp [ht'])) h2 (fun x hx => hp x (by simp [hx])), rfl⟩

/-- The law has answered true. -/
theorem law_post {f : Func} {s : ChangeSpec} {apart fresh handsOn again : Bool} {W W' : World} {args : Array Value} {ds gs : List (DataW H)} {before : List MemPlace} {tb : TypeId} (hl : laidOutB P = true) (hvars : s.vars = []) (hts : ∀ t ∈ f.params.toList, P.readableRec t = true ∧ t < P.types.size)
    (hres : f.resultTypes = #[tb]) (htb : P.underlying tb = some .bool) (hfn : s.fn H (ds ++ gs) = { results := [.lit (.bool true)], args := ds }) (hW : DataW.Whole enc P f.params.toList s.vars apart W args.toList ds gs before) (hb : Below W.heap.size W W') :
    s.post enc P f apart fresh handsOn again W args (.bool true) W' := by
  have hlt : ∀ p ∈ before, p.block < W.heap.size := fun p hp => hW.lt p hp
  have hW0 := hW
  obtain ⟨p, q, hA, hV, rfl, hz, hn⟩ := hW
  rw [hvars] at hV
  obtain ⟨rfl, rfl⟩ := trodVars_none hV
  rw [List.append_nil] at hW0 hlt hz hn
  have hkeep : ∀ sp : Nat → Bool, (∀ x ∈ p, sp x.block = true) → DataW.TrodAll enc P W' 0 sp true f.params.toList args.toList ds p := fun sp hsp => trodAll_keep hl hb hts hA (fun x hx => ⟨hlt x hx, hsp x hx⟩)
  have hresult : ∀ (b : Nat) (sp : Nat → Bool) (hd : Bool), DataW.TrodAll enc P W' b sp hd f.resultTypes.toList ((Value.bool true).resultList f.resultTypes.size) [.lit (.bool true)] [] := by
    intro b sp hd
    rw [hres]
    exact trodAll_mk1 (shut_bool htb true)
  refine ⟨ds, [], p, [], p, [], hW0, ?_, ?_, ?_, hb.frame _, fun _ => ⟨ok_one hres rfl (okWide_bool_mk htb true), .lit (.bool true) :: ds, [], p, ?_, fun x hx _ => hx⟩⟩
  · rw [hfn]; exact hresult _ _ _
  · rw [hfn]; exact hkeep _ (fun x hx => by simpa using hlt x hx)
  · rw [hfn, hvars]; rfl
  · refine ⟨[] ++ p, [], trodAll_append (hkeep _ (fun _ _ => rfl)) (hresult _ _ _), by rw [hvars]; rfl, by simp, fun b off hp => ?_, fun ha => hn ha⟩
    rw [hb.frozen (hlt _ hp)]
    exact hz b off hp
end

/-! From the abstract machine's word -/
section
variable {P : Program} {wr : FuncId → Bool} {E : Env}
/-- All that is there is written no more. -/
def ctx0 (W : World) : Ctx := { F := fun i => i < W.heap.size, D := fun _ => False, n := 0, ρ := fun _ => 0, vr := fun _ => 0, sz := fun _ => 0, cp := fun _ => 0, nb := fun _ => false }
theorem ctx0_sim (W : World) : SimS P wr (ctx0 W) W [] :=
  ⟨rfl, fun _ h => h, fun _ h => h.elim, fun b B hb => by simp at hb, fun b b' B B' hb => by simp at hb, fun b B hb => by simp at hb, fun _ h => h.elim⟩

theorem law_calls (hm : P.follows .mixedOrders = true) {modes : FuncId → AMode} (hE : ∀ f A, E.fns f = some A → compFn P wr modes f = some A) (hX : ∀ f g, E.X f = some g → OracleOk P wr E.G f g)
    {f : FuncId} {args : List AVal} {σ' : Store} {W : World} {us : List Value} (h : callv E (.fn f [] []) args [] = some (abool true, σ')) (hG : GOk E.G (ctx0 W) W) (hL : SimL (ctx0 W) W args us) :
    Calls P f us.toArray W (fun e w' => e = .returned (.bool true) ∧ Below W.heap.size W w') := by
  refine (calls_ok hm hE hX h hG (ctx0_sim W) hL).mono fun e w' ⟨u, c', he, hl⟩ => ?_
  have hu := sim_bool hl.v
  subst hu
  exact ⟨he, hl.kept.os, hl.kept.tape, hl.kept.output, hl.kept.size, fun k hk => hl.kept.block k (.inl hk)⟩

theorem GOk_none (c : Ctx) (W : World) : GOk (fun _ => none) c W := fun g cs h => by cases h
end
end Go.Abs
