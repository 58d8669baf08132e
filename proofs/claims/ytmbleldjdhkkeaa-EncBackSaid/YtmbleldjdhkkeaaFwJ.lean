/- A row of operations that draws its order. -/
import Derived.Test.YtmbleldjdhkkeaaFwI
set_option linter.unusedSimpArgs false
set_option linter.unusedVariables false
namespace Go.Abs
open Go.RowKit
variable {P : Program} {wr : FuncId → Bool} {c : Ctx} {w : World} {G : Nat → Option (List AVal)} {s : AState} {a : Act}
variable {callv : AVal → List AVal → Store → Option (AVal × Store)} {raw : FuncId → Bool}

/-! The run in a row, step by step -/
open Classical in
noncomputable def opVal (G : Nat → Option (List AVal)) (callv : AVal → List AVal → Store → Option (AVal × Store)) (raw : FuncId → Bool) (s : AState) (o : AOper) : Option (AVal × Store) :=
  match wantedA s o.guard with
  | some true => stepF G callv raw s o.op o.fl o.av
  | some false => some (.tup [], s.σ)
  | none => none

theorem runOps_seq : ∀ (os : List AOper) (s s' : AState), runOps G callv raw os s = some s' → ∃ (S : Nat → AState) (V : Nat → AVal × Store), S 0 = s ∧ S os.length = s' ∧
    ∀ j o, os[j]? = some o → opVal G callv raw (S j) o = some (V j) ∧ S (j + 1) = ({ S j with σ := (V j).2 } : AState).put o.dst (V j).1
  | [], s, s', h => by
    simp only [runOps] at h; injection h with h; subst h
    exact ⟨fun _ => s, fun _ => (.any, []), rfl, rfl, fun j o h => by simp at h⟩
  | o :: os, s, s', h => by
    have step : ∃ v, opVal G callv raw s o = some v ∧ runOps G callv raw os (({ s with σ := v.2 } : AState).put o.dst v.1) = some s' := by
      simp only [runOps] at h
      unfold opVal
      split at h
      · rename_i hw
        rw [Option.bind_eq_some_iff] at h
        obtain ⟨x, hx, h⟩ := h
        exact ⟨x, by rw [hw]; exact hx, h⟩
      · rename_i hw
        exact ⟨(.tup [], s.σ), by rw [hw], h⟩
      · cases h
    obtain ⟨v, hv, h⟩ := step
    obtain ⟨S, V, h1, h2, h3⟩ := runOps_seq os _ s' h
    refine ⟨fun j => match j with | 0 => s | j + 1 => S j, fun j => match j with | 0 => v | j + 1 => V j, rfl, h2, fun j o' ho => ?_⟩
    cases j with
    | zero =>
      simp at ho; subst ho
      exact ⟨hv, h1⟩
    | succ j => exact h3 j o' (by simpa using ho)

theorem distinct_idx : ∀ {os : List AOper}, distinctB (os.filterMap (·.dst)) = true → ∀ (i j : Nat) (x y : AOper) (t : Nat), os[i]? = some x → os[j]? = some y → x.dst = some t → y.dst = some t → i = j
  | [], _, i, j, x, y, t, hi, _, _, _ => by simp at hi
  | o :: os, h, i, j, x, y, t, hi, hj, hx, hy => by
    have htail : distinctB (os.filterMap (·.dst)) = true ∧ ∀ d, o.dst = some d → d ∉ os.filterMap (·.dst) := by
      cases hd : o.dst with
      | none => rw [List.filterMap_cons_none hd] at h; exact ⟨h, by simp⟩
      | some d =>
        rw [List.filterMap_cons_some hd] at h
        simp only [distinctB, Bool.and_eq_true, Bool.not_eq_true', List.contains_eq_mem, decide_eq_false_iff_not] at h
        exact ⟨h.2, fun d' e => by injection e with e; subst e; exact h.1⟩
    cases i with
    | zero =>
      simp at hi; subst hi
      cases j with
      | zero => rfl
      | succ j =>
        simp at hj
        exact absurd (List.mem_filterMap.2 ⟨y, List.mem_of_getElem? hj, hy⟩) (htail.2 t hx)
    | succ i =>
      simp at hi
      cases j with
      | zero =>
        simp at hj; subst hj
        exact absurd (List.mem_filterMap.2 ⟨x, List.mem_of_getElem? hi, hx⟩) (htail.2 t hy)
      | succ j => rw [distinct_idx htail.1 i j x y t hi (by simpa using hj) hx hy]

/-- The run in a row, and what is known of it. -/
structure Canon (G : Nat → Option (List AVal)) (callv : AVal → List AVal → Store → Option (AVal × Store)) (raw : FuncId → Bool) (os : List AOper) (s : AState) (S : Nat → AState) (V : Nat → AVal × Store) : Prop where
  zero : S 0 = s
  step : ∀ j o, os[j]? = some o → opVal G callv raw (S j) o = some (V j) ∧ S (j + 1) = ({ S j with σ := (V j).2 } : AState).put o.dst (V j).1
  dist : ∀ (i j : Nat) (x y : AOper) (t : Nat), os[i]? = some x → os[j]? = some y → x.dst = some t → y.dst = some t → i = j

variable {os : List AOper} {S : Nat → AState} {V : Nat → AVal × Store}
theorem Canon.base (h : Canon G callv raw os s S V) : ∀ j, j ≤ os.length → (S j).base = s.base
  | 0, _ => by rw [h.zero]
  | j + 1, hj => by
    obtain ⟨_, h2⟩ := h.step j _ (List.getElem?_eq_getElem (show j < os.length by omega))
    rw [h2, (put_σ _ _ _).2]
    exact Canon.base h j (by omega)
theorem Canon.tm_not (h : Canon G callv raw os s S V) (t : Nat) : ∀ j, j ≤ os.length → (∀ (i : Nat) (o : AOper), i < j → os[i]? = some o → o.dst ≠ some t) → (S j).tm t = s.tm t
  | 0, _, _ => by rw [h.zero]
  | j + 1, hj, hn => by
    have ho := List.getElem?_eq_getElem (show j < os.length by omega)
    obtain ⟨_, h2⟩ := h.step j _ ho
    rw [h2, put_tm, if_neg (hn j _ (by omega) ho)]
    exact Canon.tm_not h t j (by omega) (fun i o hi => hn i o (by omega))
theorem Canon.tm_at (h : Canon G callv raw os s S V) {t i : Nat} {o : AOper} (ho : os[i]? = some o) (hd : o.dst = some t) : ∀ j, j ≤ os.length → i < j → (S j).tm t = (V i).1
  | 0, _, hi => by omega
  | j + 1, hj, hi => by
    have hoj := List.getElem?_eq_getElem (show j < os.length by omega)
    obtain ⟨_, h2⟩ := h.step j _ hoj
    rw [h2, put_tm]
    by_cases e : i = j
    · subst e
      rw [hoj] at ho; injection ho with ho; subst ho
      rw [if_pos hd]
    · rw [if_neg (fun hd' => e (h.dist i j _ _ t ho hoj hd hd'))]
      exact Canon.tm_at h ho hd j (by omega) (by omega)

open Classical in
theorem opVal_E {o : AOper} {v : AVal × Store} (hE : o.op.isE = true) (h : opVal G callv raw s o = some v) : v.2 = s.σ := by
  unfold opVal at h
  split at h
  · unfold stepF at h
    rw [Option.bind_eq_some_iff] at h
    obtain ⟨x, hx, h⟩ := h
    rw [chk_some] at h
    obtain ⟨_, h⟩ := h
    injection h with h; subst h
    unfold stepOp at hx
    rw [if_pos hE, Option.map_eq_some_iff] at hx
    obtain ⟨v, _, rfl⟩ := hx
    rfl
  · injection h with h; subst h; rfl
  · cases h

theorem lay_other {site : Nat} {f : Nat → Box} {r : Nat → Nat → AVal} {x : AVal × Store} (h : lay s site f r = some x) (b : Nat) (hb : b ≠ s.base + site) : x.2[b]? = s.σ[b]? := by
  obtain ⟨B, hB, rfl⟩ := lay_spec h
  exact List.getElem?_set_ne (fun e => hb e.symm)

/-- What lays a place of its own touches no other. -/
theorem site_other {o : AOp} {k : Nat} {x : AVal × Store} (h : cop G callv raw s o = some x) (hk : o.site? = some k) (b : Nat) (hb : b ≠ s.base + k) : x.2[b]? = s.σ[b]? := by
  cases o <;> simp only [AOp.site?] at hk <;> first | (cases hk; done) | skip
  case slc0 site n y =>
    injection hk with hk; subst hk
    simp only [cop] at h
    split at h <;> first | exact lay_other h b hb | cases h
  case s2b site y =>
    injection hk with hk; subst hk
    simp only [cop] at h
    split at h
    · exact lay_other h b hb
    · cases h
  case alloc site z => injection hk with hk; subst hk; simp only [cop] at h; exact lay_other h b hb
  case box site y =>
    injection hk with hk; subst hk
    simp only [cop] at h
    rw [chk_some] at h
    exact lay_other h.2 b hb
  case bsl site z n ps =>
    cases ps with
    | nil =>
      injection hk with hk; subst hk
      simp only [cop, List.map_nil, markArgs] at h
      split at h
      · exact lay_other (s := ⟨s.tm, s.σ, s.base⟩) h b hb
      · cases h
    | cons p ps => cases hk
  case nown site sz => injection hk with hk; subst hk; simp only [cop] at h; exact lay_other h b hb
  case mksl site bytes z l c =>
    injection hk with hk; subst hk
    simp only [cop] at h
    split at h
    · rw [chk_some] at h
      exact lay_other h.2 b hb
    · cases h
  case mkmap site => injection hk with hk; subst hk; simp only [cop] at h; exact lay_other h b hb
/-- What is known of pairs. -/
structure Pairs (os : List AOper) (bs : List Nat) : Prop where
  lt : ∀ (j b : Nat), bs[j]? = some b → b < 2 ^ j
  pair : ∀ (i j : Nat) (x y : AOper) (b : Nat), i < j → os[i]? = some x → os[j]? = some y → bs[j]? = some b → b.testBit i = false → apartA x y = true ∧ (if x.op.isE then pairOk x y else pairOk y x) = true
  len : bs.length = os.length

theorem zip_get {α β : Type} : ∀ {l : List α} {m : List β} {i : Nat} {a : α} {b : β}, l[i]? = some a → m[i]? = some b → (l.zip m)[i]? = some (a, b)
  | [], _, _, _, _, h, _ => by simp at h
  | x :: l, [], _, _, _, _, h => by simp at h
  | x :: l, y :: m, 0, a, b, h, h' => by simp at h h'; simp [h, h']
  | x :: l, y :: m, i + 1, a, b, h, h' => by simpa using zip_get (l := l) (m := m) (i := i) (by simpa using h) (by simpa using h')

theorem pairs_of {os : List AOper} {bs : List Nat} (h : drawOk os bs = true) (hl : bs.length = os.length) : Pairs os bs ∧ distinctB (os.filterMap (·.dst)) = true := by
  simp only [drawOk, Bool.and_eq_true] at h
  obtain ⟨hd, h⟩ := h
  rw [List.all_eq_true] at h
  have get : ∀ (j : Nat) (y : AOper) (b : Nat), os[j]? = some y → bs[j]? = some b → decide (b < 2 ^ j) = true ∧ ((os.zip bs).take j).zipIdx.all (fun (x, i) => b.testBit i || (apartA x.1 y && (if x.1.op.isE then pairOk x.1 y else pairOk y x.1))) = true := by
    intro j y b hy hb
    have hz := zip_get hy hb
    have hm : ((y, b), j) ∈ (os.zip bs).zipIdx := by
      rw [List.mem_zipIdx_iff_getElem?]
      exact hz
    have := h _ hm
    simpa using this
  refine ⟨⟨fun j b hb => ?_, fun i j x y b hij hx hy hb ht => ?_, hl⟩, hd⟩
  · have hj : j < os.length := by rw [← hl]; exact (List.getElem?_eq_some_iff.1 hb).1
    have := (get j _ b (List.getElem?_eq_getElem hj) hb).1
    simpa using this
  · have h2 := (get j y b hy hb).2
    rw [List.all_eq_true] at h2
    obtain ⟨bi, hbi⟩ : ∃ bi, bs[i]? = some bi := by
      have : i < bs.length := by rw [hl]; exact (List.getElem?_eq_some_iff.1 hx).1
      exact ⟨_, List.getElem?_eq_getElem this⟩
    have hm : ((x, bi), i) ∈ ((os.zip bs).take j).zipIdx := by
      rw [List.mem_zipIdx_iff_getElem?, List.getElem?_take, if_pos hij]
      exact zip_get hx hbi
    have := h2 _ hm
    simp only [ht, Bool.false_or, Bool.and_eq_true] at this
    exact this

/-- Some of the operations are done. -/
structure Mix (G : Nat → Option (List AVal)) (os : List AOper) (bs : List Nat) (s : AState) (S : Nat → AState) (V : Nat → AVal × Store) (L : Nat → Bool) (x : AState) : Prop where
  base : x.base = s.base
  tm0 : ∀ t, (∀ (i : Nat) (o : AOper), os[i]? = some o → o.dst = some t → L i = false) → x.tm t = s.tm t
  tm1 : ∀ (i : Nat) (o : AOper) (t : Nat), os[i]? = some o → o.dst = some t → L i = true → x.tm t = (V i).1
  cut : ∃ k, k ≤ os.length ∧ x.σ = (S k).σ ∧ ∀ (i : Nat) (o : AOper), os[i]? = some o → o.op.isE = false → (L i = true ↔ i < k)
  closed : ∀ (j b i : Nat), bs[j]? = some b → L j = true → b.testBit i = true → L i = true

theorem Mix.start (h : Canon G callv raw os s S V) {bs : List Nat} : Mix G os bs s S V (fun _ => false) s :=
  ⟨rfl, fun _ _ => rfl, (fun _ _ _ _ _ h => nomatch h), ⟨0, Nat.zero_le _, by rw [h.zero], fun i o _ _ => ⟨(fun h => nomatch h), (fun h => absurd h (Nat.not_lt_zero _))⟩⟩, (fun _ _ _ _ h => nomatch h)⟩

theorem canRead_foot {o : AOp} (h : o.canRead = false) : foot G s o = none := by
  cases o <;> first | rfl | (simp [AOp.canRead] at h; done)

theorem apart_dst {x y : AOper} (h : apartA x y = true) : (∀ d, x.dst = some d → d ∉ y.sees) ∧ (∀ d, y.dst = some d → d ∉ x.sees) ∧ (x.op.isE = true ∨ y.op.isE = true) := by
  simp only [apartA, Bool.and_eq_true] at h
  obtain ⟨⟨h1, h2⟩, h3⟩ := h
  refine ⟨fun d hd => ?_, fun d hd => ?_, by simpa using h3⟩
  · rw [hd] at h1
    simp only [Bool.and_eq_true, Bool.not_eq_true', List.contains_eq_mem, decide_eq_false_iff_not] at h1
    exact h1.1
  · rw [hd] at h2
    simp only [Bool.not_eq_true', List.contains_eq_mem, decide_eq_false_iff_not] at h2
    exact h2

/-- Between two places nothing changes box b. -/
theorem between (h : Canon G callv raw os s S V) (b : Nat) : ∀ (n lo : Nat), lo + n ≤ os.length → (∀ (i : Nat) (o : AOper), lo ≤ i → i < lo + n → os[i]? = some o → (V i).2[b]? = (S i).σ[b]?) → (S (lo + n)).σ[b]? = (S lo).σ[b]?
  | 0, lo, _, _ => rfl
  | n + 1, lo, hl, hi => by
    have ho := List.getElem?_eq_getElem (show lo + n < os.length by omega)
    obtain ⟨_, h2⟩ := h.step (lo + n) _ ho
    rw [← Nat.add_assoc, h2, (put_σ _ _ _).1]
    show (V (lo + n)).2[b]? = _
    rw [hi (lo + n) _ (by omega) (by omega) ho]
    exact between h b n lo (by omega) (fun i o h1 h2 => hi i o h1 (by omega))

theorem sameBut_get : ∀ {k : Nat} {σ σ' : Store}, sameBut k σ σ' → ∀ b, b ≠ k → σ[b]? = σ'[b]?
  | 0, a :: l, b' :: l', h, b, hb => by
    simp only [sameBut] at h
    subst h
    cases b with
    | zero => exact absurd rfl hb
    | succ b => rfl
  | k + 1, a :: l, b' :: l', h, b, hb => by
    simp only [sameBut] at h
    obtain ⟨rfl, h⟩ := h
    cases b with
    | zero => rfl
    | succ b => simpa using sameBut_get h b (fun e => hb (by rw [e]))
  | 0, [], [], _, b, _ => rfl
  | k + 1, [], [], _, b, _ => rfl
  | 0, [], _ :: _, h, _, _ => by simp [sameBut] at h
  | 0, _ :: _, [], h, _, _ => by simp [sameBut] at h
  | k + 1, [], _ :: _, h, _, _ => by simp [sameBut] at h
  | k + 1, _ :: _, [], h, _, _ => by simp [sameBut] at h

open Classical in
/-- What an operation that changes something does to a box of another's. -/
theorem keeps {o : AOper} {v : AVal × Store} {e : AOper} {b : Nat} {se : AState} (hb : s.base = se.base) (hv : opVal G callv raw s o = some v) (hC : o.op.isE = false) (he : flagOk G se e.op e.fl e.av se.σ) (hE : e.op.isE = true) (hf : foot G se e.op = some b) (hp : pairOk e o = true) : v.2[b]? = s.σ[b]? := by
  unfold flagOk at he
  rw [if_pos hE] at he
  have hcr : e.op.canRead = true := by
    cases h : e.op.canRead with
    | true => rfl
    | false => rw [canRead_foot h] at hf; cases hf
  unfold pairOk at hp
  rw [hC, hcr] at hp
  simp only [Bool.not_true, Bool.or_self, Bool.false_eq_true, if_false] at hp
  unfold opVal at hv
  split at hv
  · unfold stepF at hv
    rw [Option.bind_eq_some_iff] at hv
    obtain ⟨x, hx, hv⟩ := hv
    rw [chk_some] at hv
    obtain ⟨hfl, hv⟩ := hv
    injection hv with hv; subst hv
    unfold stepOp at hx
    rw [if_neg (by rw [hC]; simp)] at hx
    split at hp
    · rename_i k hk
      refine site_other hx hk b (fun e2 => ?_)
      rw [hb] at e2
      have hp' : k ∈ e.av := by simpa using hp
      exact he.2 k hp' (by rw [hf, e2])
    · simp only [Bool.or_eq_true] at hp
      rcases hp with hp | hp
      · rw [he.1 hp] at hf; cases hf
      · unfold flagOk at hfl
        rw [if_neg (by rw [hC]; simp)] at hfl
        simp only [Bool.and_eq_true] at hp
        obtain ⟨hp1, hp2⟩ := hp
        have hfl := hfl hp1
        split at hfl
        · rename_i k f args hop
          rw [hop] at hp2
          have hp' : k ∈ e.av := by simpa using hp2
          refine sameBut_get hfl b fun e2 => he.2 k hp' ?_
          rw [hf, e2, hb]
        · rw [hfl]
  · injection hv with hv; subst hv; rfl
  · cases hv

open Classical in
theorem opVal_flag {o : AOper} {v : AVal × Store} (h : opVal G callv raw s o = some v) : (wantedA s o.guard = some true ∧ stepOp G callv raw s o.op = some v ∧ flagOk G s o.op o.fl o.av v.2) ∨ (wantedA s o.guard = some false ∧ v = (.tup [], s.σ)) := by
  unfold opVal at h
  split at h
  · rename_i hw
    unfold stepF at h
    rw [Option.bind_eq_some_iff] at h
    obtain ⟨x, hx, h⟩ := h
    rw [chk_some] at h
    obtain ⟨hfl, h⟩ := h
    injection h with h; subst h
    exact .inl ⟨hw, hx, hfl⟩
  · rename_i hw
    injection h with h
    exact .inr ⟨hw, h.symm⟩
  · cases h

theorem Mix.step {bs : List Nat} {L : Nat → Bool} {x : AState} (hcan : Canon G callv raw os s S V) (hp : Pairs os bs) (h : Mix G os bs s S V L x) {j : Nat} {o : AOper} (ho : os[j]? = some o) (hL : L j = false) (hpre : ∀ (b i : Nat), bs[j]? = some b → b.testBit i = true → L i = true) :
    ∃ r, (match wantedA x o.guard with | some true => stepOp G callv raw x o.op | some false => some (.tup [], x.σ) | none => none) = some r ∧ Mix G os bs s S V (fun i => decide (i = j) || L i) (({ x with σ := r.2 } : AState).put o.dst r.1) := by
  have hj : j < os.length := (List.getElem?_eq_some_iff.1 ho).1
  obtain ⟨bj, hbj⟩ : ∃ b, bs[j]? = some b := ⟨_, List.getElem?_eq_getElem (show j < bs.length by rw [hp.len]; exact hj)⟩
  obtain ⟨k, hk, hσ, hcut⟩ := h.cut
  have hstep := (hcan.step j o ho).1
  -- an operation behind that is done, or one ahead that is not, is not ordered with j
  have apart1 : ∀ (i : Nat) (y : AOper), i < j → os[i]? = some y → L i = false → apartA y o = true ∧ (if y.op.isE then pairOk y o else pairOk o y) = true := by
    intro i y hij hy hi
    refine hp.pair i j y o bj hij hy ho hbj ?_
    cases ht : bj.testBit i with
    | false => rfl
    | true => rw [hpre bj i hbj ht] at hi; cases hi
  have apart2 : ∀ (i : Nat) (y : AOper), j < i → os[i]? = some y → L i = true → apartA o y = true ∧ (if o.op.isE then pairOk o y else pairOk y o) = true := by
    intro i y hij hy hi
    obtain ⟨bi, hbi⟩ : ∃ b, bs[i]? = some b := ⟨_, List.getElem?_eq_getElem (show i < bs.length by rw [hp.len]; exact (List.getElem?_eq_some_iff.1 hy).1)⟩
    refine hp.pair j i o y bi hij ho hy hbi ?_
    cases ht : bi.testBit j with
    | false => rfl
    | true => rw [h.closed i bi j hbi hi ht] at hL; cases hL
  -- what it sees
  have hsee : ∀ t ∈ o.sees, x.tm t = (S j).tm t := by
    intro t ht
    by_cases hex : ∃ (i : Nat) (y : AOper), os[i]? = some y ∧ y.dst = some t
    · obtain ⟨i, y, hy, hyt⟩ := hex
      have hother : ∀ (i' : Nat) (y' : AOper), os[i']? = some y' → y'.dst = some t → i' = i := fun i' y' h1 h2 => hcan.dist i' i y' y t h1 hy h2 hyt
      rcases Nat.lt_trichotomy i j with hij | hij | hij
      · have hi : L i = true := by
          cases hi : L i with
          | true => rfl
          | false => exact absurd ht ((apart_dst (apart1 i y hij hy hi).1).1 t hyt)
        rw [h.tm1 i y t hy hyt hi, hcan.tm_at hy hyt j (by omega) hij]
      · subst hij
        rw [h.tm0 t (fun i' o' h1 h2 => by rw [hother i' o' h1 h2]; exact hL), hcan.tm_not t i (by omega) (fun i' o' hlt h1 h2 => by have := hother i' o' h1 h2; omega)]
      · have hi : L i = false := by
          cases hi : L i with
          | false => rfl
          | true => exact absurd ht ((apart_dst (apart2 i y hij hy hi).1).2.1 t hyt)
        rw [h.tm0 t (fun i' o' h1 h2 => by rw [hother i' o' h1 h2]; exact hi), hcan.tm_not t j (by omega) (fun i' o' hlt h1 h2 => by have := hother i' o' h1 h2; omega)]
    · have hno : ∀ (i : Nat) (y : AOper), os[i]? = some y → y.dst ≠ some t := fun i y h1 h2 => hex ⟨i, y, h1, h2⟩
      rw [h.tm0 t (fun i y h1 h2 => absurd h2 (hno i y h1)), hcan.tm_not t j (by omega) (fun i y _ h1 => hno i y h1)]
  have hreads : ∀ t ∈ o.op.reads, x.tm t = (S j).tm t := fun t ht => hsee t (by simp [AOper.sees, ht])
  have hwant : wantedA x o.guard = wantedA (S j) o.guard := by
    cases hg : o.guard with
    | none => rfl
    | some p =>
      obtain ⟨t, want⟩ := p
      simp only [wantedA]
      rw [hsee t (by simp [AOper.sees, hg])]
  have hbase : x.base = (S j).base := h.base.trans (hcan.base j (by omega)).symm
  -- behind it
  have after : ∀ (r : AVal × Store) (k' : Nat), r.1 = (V j).1 → k' ≤ os.length → r.2 = (S k').σ → (∀ (i : Nat) (y : AOper), os[i]? = some y → y.op.isE = false → ((decide (i = j) || L i) = true ↔ i < k')) →
      Mix G os bs s S V (fun i => decide (i = j) || L i) (({ x with σ := r.2 } : AState).put o.dst r.1) := by
    intro r k' hr hk' hr2 hcut'
    refine ⟨(put_σ _ _ _).2.trans h.base, fun t hn => ?_, fun i y t hy hyt hi => ?_, ⟨k', hk', (put_σ _ _ _).1.trans hr2, hcut'⟩, fun j' b i hb hj' ht => ?_⟩
    · rw [put_tm, if_neg (fun e => by have := hn j o ho e; simp at this)]
      exact h.tm0 t fun i y hy hyt => by have := hn i y hy hyt; simp at this; exact this.2
    · rw [put_tm]
      by_cases e : o.dst = some t
      · rw [if_pos e]
        have := hcan.dist i j y o t hy ho hyt e
        subst this
        exact hr
      · rw [if_neg e]
        have hne : i ≠ j := by
          rintro rfl
          rw [ho] at hy; injection hy with hy; subst hy
          exact e hyt
        exact h.tm1 i y t hy hyt (by simpa [hne] using hi)
    · by_cases e : j' = j
      · subst e
        simp [hpre b i hb ht]
      · simp only [e, decide_false, Bool.false_or] at hj'
        simp [h.closed j' b i hb hj' ht]
  cases hE : o.op.isE with
  | false =>
    -- all that changes something ahead of it is done, nothing behind it
    have hC1 : ∀ (i : Nat) (y : AOper), i < j → os[i]? = some y → y.op.isE = false → L i = true := by
      intro i y hij hy hyE
      cases hi : L i with
      | true => rfl
      | false =>
        have := (apart_dst (apart1 i y hij hy hi).1).2.2
        rw [hyE, hE] at this
        simp at this
    have hC2 : ∀ (i : Nat) (y : AOper), j < i → os[i]? = some y → y.op.isE = false → L i = false := by
      intro i y hij hy hyE
      cases hi : L i with
      | false => rfl
      | true =>
        have := (apart_dst (apart2 i y hij hy hi).1).2.2
        rw [hyE, hE] at this
        simp at this
    have hkj : k ≤ j := by
      by_cases hkj : k ≤ j
      · exact hkj
      · have := (hcut j o ho hE).2 (by omega)
        rw [hL] at this; cases this
    have hσj : x.σ = (S j).σ := by
      rw [hσ]
      apply List.ext_getElem?
      intro b
      have := between hcan b (j - k) k (by omega) (fun i y h1 h2 hy => by
        have hyE : y.op.isE = true := by
          cases hyE : y.op.isE with
          | true => rfl
          | false =>
            have h3 := hC1 i y (by omega) hy hyE
            have := (hcut i y hy hyE).1 h3
            omega
        rw [opVal_E hyE (hcan.step i y hy).1])
      rw [show k + (j - k) = j by omega] at this
      exact this.symm
    have hval : (match wantedA x o.guard with | some true => stepOp G callv raw x o.op | some false => some (.tup [], x.σ) | none => none) = some (V j) := by
      rw [hwant, stepOp_congr hreads hσj hbase, hσj]
      rcases opVal_flag hstep with ⟨h1, h2, _⟩ | ⟨h1, h2⟩
      · rw [h1]; exact h2
      · rw [h1, h2]
    refine ⟨V j, hval, after (V j) (j + 1) rfl (by omega) ?_ fun i y hy hyE => ?_⟩
    · rw [(hcan.step j o ho).2, (put_σ _ _ _).1]
    · rcases Nat.lt_trichotomy i j with hij | hij | hij
      · simp [hC1 i y hij hy hyE]; omega
      · subst hij; simp
      · have h1 := hC2 i y hij hy hyE
        simp [h1]; omega
  | true =>
    have hVσ : (V j).2 = (S j).σ := opVal_E hE hstep
    have hval : (match wantedA x o.guard with | some true => stepOp G callv raw x o.op | some false => some (.tup [], x.σ) | none => none) = some ((V j).1, x.σ) := by
      rw [hwant]
      rcases opVal_flag hstep with ⟨h1, h2, hfl⟩ | ⟨h1, h2⟩
      · rw [h1]
        show stepOp G callv raw x o.op = _
        unfold stepOp at h2 ⊢
        rw [if_pos hE] at h2 ⊢
        rw [Option.map_eq_some_iff] at h2
        obtain ⟨v, hv, hv2⟩ := h2
        have hfl' : flagOk G (S j) o.op o.fl o.av (S j).σ := by rw [← hVσ]; exact hfl
        have heq : eop G x o.op = eop G (S j) o.op := by
          refine eop_congr hreads fun b hb => ?_
          have hb' : foot G (S j) o.op = some b := by rw [← foot_congr hreads]; exact hb
          rw [hσ]
          by_cases hkj : k ≤ j
          · have := between hcan b (j - k) k (by omega) (fun i y h1 h2 hy => by
              cases hyE : y.op.isE with
              | true => rw [opVal_E hyE (hcan.step i y hy).1]
              | false =>
                have hi : L i = false := by
                  cases hi : L i with
                  | false => rfl
                  | true => have := (hcut i y hy hyE).1 hi; omega
                have hpo := (apart1 i y (by omega) hy hi).2
                rw [hyE] at hpo
                simp only [Bool.false_eq_true, if_false] at hpo
                exact keeps ((hcan.base i (by omega)).trans (hcan.base j (by omega)).symm) (hcan.step i y hy).1 hyE hfl' hE hb' hpo)
            rw [show k + (j - k) = j by omega] at this
            exact this.symm
          · have := between hcan b (k - j) j (by omega) (fun i y h1 h2 hy => by
              cases hyE : y.op.isE with
              | true => rw [opVal_E hyE (hcan.step i y hy).1]
              | false =>
                have hne : i ≠ j := by
                  rintro rfl
                  rw [ho] at hy; injection hy with hy; subst hy
                  rw [hE] at hyE; cases hyE
                have hi : L i = true := (hcut i y hy hyE).2 (by omega)
                have hpo := (apart2 i y (by omega) hy hi).2
                rw [hE] at hpo
                simp only [if_true] at hpo
                exact keeps ((hcan.base i (by omega)).trans (hcan.base j (by omega)).symm) (hcan.step i y hy).1 hyE hfl' hE hb' hpo)
            rw [show j + (k - j) = k by omega] at this
            exact this
        rw [heq, hv]
        have : v = (V j).1 := by rw [← hv2]
        rw [Option.map_some, this]
      · rw [h1, h2]
    refine ⟨((V j).1, x.σ), hval, after _ k rfl hk hσ fun i y hy hyE => ?_⟩
    have hne : i ≠ j := by
      rintro rfl
      rw [ho] at hy; injection hy with hy; subst hy
      rw [hE] at hyE; cases hyE
    simp only [hne, decide_false, Bool.false_or]
    exact hcut i y hy hyE

/-- All done. -/
theorem Mix.done {bs : List Nat} {L : Nat → Bool} {x : AState} (hcan : Canon G callv raw os s S V) (h : Mix G os bs s S V L x) (hall : ∀ i, i < os.length → L i = true) : x = S os.length := by
  have hb : x.base = (S os.length).base := h.base.trans (hcan.base os.length (Nat.le_refl _)).symm
  have ht : x.tm = (S os.length).tm := by
    funext t
    by_cases hex : ∃ (i : Nat) (y : AOper), os[i]? = some y ∧ y.dst = some t
    · obtain ⟨i, y, hy, hyt⟩ := hex
      have hlt := (List.getElem?_eq_some_iff.1 hy).1
      rw [h.tm1 i y t hy hyt (hall i hlt), hcan.tm_at hy hyt os.length (Nat.le_refl _) hlt]
    · have hno : ∀ (i : Nat) (y : AOper), os[i]? = some y → y.dst ≠ some t := fun i y h1 h2 => hex ⟨i, y, h1, h2⟩
      rw [h.tm0 t (fun i y h1 h2 => absurd h2 (hno i y h1)), hcan.tm_not t os.length (Nat.le_refl _) (fun i y _ h1 => hno i y h1)]
  have hs : x.σ = (S os.length).σ := by
    obtain ⟨k, hk, hσ, hcut⟩ := h.cut
    rw [hσ]
    apply List.ext_getElem?
    intro b
    have := between hcan b (os.length - k) k (by omega) (fun i y h1 h2 hy => by
      have hyE : y.op.isE = true := by
        cases hyE : y.op.isE with
        | true => rfl
        | false =>
          have := (hcut i y hy hyE).1 (hall i (List.getElem?_eq_some_iff.1 hy).1)
          omega
      rw [opVal_E hyE (hcan.step i y hy).1])
    rw [show k + (os.length - k) = os.length by omega] at this
    exact this.symm
  obtain ⟨tm, σ, base⟩ := x
  simp only at hb ht hs
  rw [hb, ht, hs]

/-! What comes ahead -/
theorem fold_bits (acc : List Nat) (i : Nat) : ∀ (es : List Edge) (s0 : Nat), (es.foldl (fun s e => if Region.binds .any e then s ||| 2 ^ e.on ||| acc.getD e.on 0 else s) s0).testBit i = true ↔
    s0.testBit i = true ∨ ∃ e ∈ es, Region.binds .any e = true ∧ (i = e.on ∨ (acc.getD e.on 0).testBit i = true)
  | [], s0 => by simp
  | e :: es, s0 => by
    simp only [List.foldl_cons]
    rw [fold_bits acc i es]
    by_cases hb : Region.binds .any e = true
    · rw [if_pos hb, Nat.testBit_or, Nat.testBit_or, Nat.testBit_two_pow]
      simp only [Bool.or_eq_true, decide_eq_true_eq, List.mem_cons]
      constructor
      · rintro (((h | h) | h) | ⟨e', h1, h2⟩)
        · exact .inl h
        · exact .inr ⟨e, .inl rfl, hb, .inl h.symm⟩
        · exact .inr ⟨e, .inl rfl, hb, .inr h⟩
        · exact .inr ⟨e', .inr h1, h2⟩
      · rintro (h | ⟨e', rfl | h1, h2, h3⟩)
        · exact .inl (.inl (.inl h))
        · rcases h3 with h3 | h3
          · exact .inl (.inl (.inr h3.symm))
          · exact .inl (.inr h3)
        · exact .inr ⟨e', h1, h2, h3⟩
    · rw [if_neg hb]
      constructor
      · rintro (h | ⟨e', h1, h2⟩)
        · exact .inl h
        · exact .inr ⟨e', List.mem_cons_of_mem _ h1, h2⟩
      · rintro (h | ⟨e', h1, h2, h3⟩)
        · exact .inl h
        · rcases List.mem_cons.1 h1 with rfl | h1
          · exact absurd h2 hb
          · exact .inr ⟨e', h1, h2, h3⟩

theorem befs_get : ∀ (ops : List Oper) (acc : List Nat), (befs ops acc).length = acc.length + ops.length ∧ (∀ j, j < acc.length → (befs ops acc)[j]? = acc[j]?) ∧
    ∀ (j : Nat) (o : Oper), ops[j]? = some o → (befs ops acc)[acc.length + j]? = some (o.after.toList.foldl (fun s e => if Region.binds .any e then s ||| 2 ^ e.on ||| ((befs ops acc).take (acc.length + j)).getD e.on 0 else s) 0)
  | [], acc => ⟨rfl, fun _ _ => rfl, fun j o h => by simp at h⟩
  | o :: ops, acc => by
    simp only [befs]
    obtain ⟨h1, h2, h3⟩ := befs_get ops (acc ++ [o.after.toList.foldl (fun s e => if Region.binds .any e then s ||| 2 ^ e.on ||| acc.getD e.on 0 else s) 0])
    refine ⟨by rw [h1]; simp; omega, fun j hj => ?_, fun j o' ho => ?_⟩
    · rw [h2 j (by simp; omega), List.getElem?_append_left hj]
    · cases j with
      | zero =>
        simp at ho; subst ho
        rw [Nat.add_zero, h2 acc.length (by simp)]
        have htake : (befs ops (acc ++ [o.after.toList.foldl (fun s e => if Region.binds .any e then s ||| 2 ^ e.on ||| acc.getD e.on 0 else s) 0])).take acc.length = acc := by
          apply List.ext_getElem?
          intro i
          rw [List.getElem?_take]
          split
          · rename_i hi
            rw [h2 i (by simp; omega), List.getElem?_append_left hi]
          · rename_i hi
            rw [List.getElem?_eq_none (by omega)]
        rw [htake]
        simp
      | succ j =>
        have := h3 j o' (by simpa using ho)
        simp only [List.length_append, List.length_cons, List.length_nil, Nat.zero_add] at this
        rw [show acc.length + (j + 1) = acc.length + 1 + j by omega]
        exact this

/-- What the mask of an operation says. -/
theorem bits_spec {ops : List Oper} {j : Nat} {o : Oper} {b : Nat} (ho : ops[j]? = some o) (hb : (befs ops [])[j]? = some b) (i : Nat) : b.testBit i = true ↔
    ∃ e ∈ o.after.toList, Region.binds .any e = true ∧ (i = e.on ∨ (((befs ops []).take j).getD e.on 0).testBit i = true) := by
  have := (befs_get ops []).2.2 j o ho
  simp only [List.length_nil, Nat.zero_add] at this
  rw [this] at hb
  injection hb with hb
  rw [← hb, fold_bits]
  simp

theorem compOps_get {app : List (Nat × Nat)} {all : List Oper} : ∀ {rest : List Oper} {site site' : Nat} {os : List AOper}, compOps P app all rest site = some (os, site') → os.length = rest.length ∧ ∀ (i : Nat) (o : Oper), rest[i]? = some o →
    ∃ (aop : AOp) (g : Option (Nat × Bool)) (n n' : Nat), os[i]? = some { dst := o.dst, op := aop, guard := g } ∧ compOp P app o.dst n o.op = some (aop, n') ∧
      (match o.guard with | none => some none | some (j, want) => (match (all[j]?).bind (·.dst) with | some d => some (some (d, want)) | none => none)) = some g
  | [], site, site', os, h => by
    simp only [compOps] at h; injection h with h; injection h with h _; subst h
    exact ⟨rfl, fun i o h => by simp at h⟩
  | o :: rest, site, site', os, h => by
    simp only [compOps] at h
    split at h
    · rename_i aop site1 hop
      split at h
      · rename_i g hg
        rw [Option.map_eq_some_iff] at h
        obtain ⟨⟨os', s2⟩, h', h⟩ := h
        injection h with h _; subst h
        obtain ⟨h1, h2⟩ := compOps_get h'
        refine ⟨by simp [h1], fun i o' ho => ?_⟩
        cases i with
        | zero =>
          simp at ho; subst ho
          exact ⟨aop, g, site, site1, rfl, hop, hg⟩
        | succ i =>
          obtain ⟨a, g', n, n', k1, k2, k3⟩ := h2 i o' (by simpa using ho)
          exact ⟨a, g', n, n', by simpa using k1, k2, k3⟩
      · cases h
    · cases h

theorem flags_get {os : List AOper} {bs : List Nat} (hl : bs.length = os.length) : (flagsOf wr os bs).length = os.length ∧ ∀ (i : Nat) (y : AOper), os[i]? = some y → ∃ fl av, (flagsOf wr os bs)[i]? = some { y with fl := fl, av := av } := by
  refine ⟨by simp [flagsOf, hl], fun i y hy => ?_⟩
  obtain ⟨b, hb⟩ : ∃ b, bs[i]? = some b := ⟨_, List.getElem?_eq_getElem (show i < bs.length by rw [hl]; exact (List.getElem?_eq_some_iff.1 hy).1)⟩
  have hz : (os.zip bs).zipIdx[i]? = some ((y, b), i) := by
    rw [List.getElem?_zipIdx, zip_get hy hb]; simp
  simp only [flagsOf, List.getElem?_map, hz, Option.map_some]
  split
  · split
    · exact ⟨y.fl, y.av, rfl⟩
    · exact ⟨_, _, rfl⟩
  · exact ⟨_, y.av, rfl⟩

/-- How many are not yet done. -/
def left (listed : Array Bool) : Nat := listed.toList.countP (fun b => !b)

theorem left_set {listed : Array Bool} {j : Nat} (h : listed.getD j true = false) : left (listed.setIfInBounds j true) + 1 = left listed := by
  have hj : j < listed.size := by
    by_cases hj : j < listed.size
    · exact hj
    · simp [hj] at h
  have hv : listed.toList[j]? = some false := by
    have : listed[j] = false := by simpa [hj] using h
    simp [hj, this]
  unfold left
  rw [Array.toList_setIfInBounds]
  generalize listed.toList = l at hv
  clear h hj
  induction l generalizing j with
  | nil => simp at hv
  | cons b l ih =>
    cases j with
    | zero => simp at hv; subst hv; simp
    | succ j =>
      have := ih (j := j) (by simpa using hv)
      simp only [List.set_cons_succ, List.countP_cons]
      omega

theorem draw_ok (hm : P.follows .mixedOrders = true) (hcall : UponOk P wr G callv) {app : List (Nat × Nat)} (happ : ∀ p ∈ app, 0 < p.2) {id : Nat} {ops : Array Oper} {os : List AOper} {site site' : Nat} {ro : Option Nat} {m : Nat} {Q : Exit → Act → World → Prop} {s' : AState}
    (hc : compOps P app ops.toList ops.toList site = some (os, site')) (hd : ∀ o ∈ ops.toList, ∀ t, o.dst = some t → t < a.tmps.size) (h : Fr P wr G c w s a)
    (hk : (drawReady && drawOk (flagsOf wr os (befs ops.toList [])) (befs ops.toList [])) = true) (hr : runOps G callv raw (flagsOf wr os (befs ops.toList [])) s = some s')
    (hQ : ∀ c' w' a', Went P wr G c w a s' c' w' a' → Q .normal a' w') : (Code.region id ops true).wpIn (WF ro) m P Q a w := by
  simp only [Bool.and_eq_true] at hk
  obtain ⟨hlen, hget⟩ := compOps_get hc
  have hblen : (befs ops.toList []).length = os.length := by
    have := (befs_get ops.toList []).1
    rw [this, hlen]; simp
  obtain ⟨hflen, hfget⟩ := flags_get (wr := wr) hblen
  obtain ⟨hpairs, hdist⟩ := pairs_of hk.2 (hblen.trans hflen.symm)
  obtain ⟨S, V, hS0, hSn, hstep⟩ := runOps_seq _ _ _ hr
  have hcan : Canon G callv raw (flagsOf wr os (befs ops.toList [])) s S V := ⟨hS0, hstep, fun i j x y t h1 h2 h3 h4 => distinct_idx hdist i j x y t h1 h2 h3 h4⟩
  have hsize : ops.size = (flagsOf wr os (befs ops.toList [])).length := by rw [hflen, hlen]; simp
  refine wpIn_region_any hm ?_
  have key : ∀ (fuel : Nat) (listed : Array Bool) (c' : Ctx) (w' : World) (a' : Act) (x : AState), listed.size = ops.size → Mix G (flagsOf wr os (befs ops.toList [])) (befs ops.toList []) s S V (fun i => listed.getD i false) x → Went P wr G c w a x c' w' a' → left listed ≤ fuel →
      wpAnyIn (WF ro) m P .any ops Q fuel listed a' w' := by
    intro fuel
    induction fuel with
    | zero =>
      intro listed c' w' a' x hls hmix hw hleft
      have hall : ∀ i, i < listed.size → listed.getD i true = true := by
        intro i hi
        have h0 : left listed = 0 := by omega
        unfold left at h0
        rw [List.countP_eq_zero] at h0
        have := h0 listed[i] (by simp)
        simpa [hi] using this
      refine ⟨?_, ?_⟩
      · rw [List.eq_nil_iff_forall_not_mem]
        intro i hi
        rw [mem_ready] at hi
        obtain ⟨h1, o, ho, _⟩ := hi
        have hlt : i < listed.size := by rw [hls]; exact (Array.getElem?_eq_some_iff.1 ho).1
        rw [hall i hlt] at h1; cases h1
      · have hx := hmix.done hcan (fun i hi => by
          have hlt : i < listed.size := by rw [hls, hsize]; exact hi
          have := hall i hlt
          simpa [hlt] using this)
        rw [hSn] at hx
        subst hx
        exact hQ c' w' a' hw
    | succ fuel ih =>
      intro listed c' w' a' x hls hmix hw hleft
      refine ⟨fun hnil => ?_, fun j hj => ?_⟩
      · -- none is ready: all are done
        have hall : ∀ i, i < listed.size → listed.getD i false = true := by
          intro i
          induction i using Nat.strongRecOn with
          | _ i ihi =>
            intro hi
            cases hv : listed.getD i false with
            | true => rfl
            | false =>
              exfalso
              have hv' : listed.getD i true = false := by simpa [hi] using hv
              have hlt : i < ops.size := by rw [← hls]; exact hi
              have ho : ops[i]? = some ops[i] := Array.getElem?_eq_getElem hlt
              have : i ∈ Region.ready .any ops listed := by
                rw [mem_ready]
                refine ⟨hv', _, ho, fun e he hb => ?_⟩
                obtain ⟨b, hbb⟩ : ∃ b, (befs ops.toList [])[i]? = some b := ⟨_, List.getElem?_eq_getElem (by rw [hblen, hlen]; simpa using hlt)⟩
                have hbit := (bits_spec (ops := ops.toList) (j := i) (o := ops[i]) (by rw [Array.getElem?_toList]; exact ho) hbb e.on).2 ⟨e, by simpa using he, hb, .inl rfl⟩
                have hlt2 : e.on < i := by
                  rcases Nat.lt_or_ge e.on i with h1 | h1
                  · exact h1
                  · have h2 := hpairs.lt i b hbb
                    have h3 : b < 2 ^ e.on := Nat.lt_of_lt_of_le h2 (Nat.pow_le_pow_right (by omega) h1)
                    rw [Nat.testBit_lt_two_pow h3] at hbit; cases hbit
                exact ihi e.on hlt2 (by omega)
              rw [hnil] at this; cases this
        have hx := hmix.done hcan (fun i hi => by
          have hlt : i < listed.size := by rw [hls, hsize]; exact hi
          exact hall i hlt)
        rw [hSn] at hx
        subst hx
        exact hQ c' w' a' hw
      · rw [mem_ready] at hj
        obtain ⟨hun, o, ho, hpre⟩ := hj
        have hlt : j < ops.size := (Array.getElem?_eq_some_iff.1 ho).1
        have hL : listed.getD j false = false := by
          have : j < listed.size := by omega
          simpa [this] using hun
        obtain ⟨aop, g, n, n', hos, hop, hg⟩ := hget j o (by simpa using ho)
        obtain ⟨fl, av, hfo⟩ := hfget j _ hos
        have hbits : ∀ (b i : Nat), (befs ops.toList [])[j]? = some b → b.testBit i = true → listed.getD i false = true := by
          intro b i hb ht
          obtain ⟨e, he, hbind, hi⟩ := (bits_spec (by simpa using ho) hb i).1 ht
          have hon := hpre e (by simpa using he) hbind
          rcases hi with rfl | hi
          · exact hon
          · cases hq : ((befs ops.toList []).take j)[e.on]? with
            | none =>
              rw [List.getD_eq_getElem?_getD, hq] at hi
              simp at hi
            | some b' =>
              rw [List.getD_eq_getElem?_getD, hq] at hi
              rw [List.getElem?_take] at hq
              split at hq
              · exact hmix.closed e.on b' i hq hon (by simpa using hi)
              · cases hq
        obtain ⟨r, hval, hmix'⟩ := hmix.step hcan hpairs hfo hL hbits
        refine oper_ok hcall hw.fr happ ho (fun t ht => by rw [hw.size]; exact hd o (by simpa using Array.mem_of_getElem? ho) t ht) hop hg (r := r) (raw := raw) hval fun c2 w2 a2 hw2 => ?_
        refine ih _ c2 w2 a2 _ (by simp [hls]) ?_ (hw.trans hw2) (by have := left_set hun; omega)
        have hfun : (fun i => (listed.setIfInBounds j true).getD i false) = fun i => decide (i = j) || listed.getD i false := by
          funext i
          rw [Array.getD_eq_getD_getElem?, Array.getD_eq_getD_getElem?, Array.getElem?_setIfInBounds]
          by_cases e : j = i
          · subst e
            have : j < listed.size := by omega
            simp [this]
          · have e' : ¬ i = j := fun h => e h.symm
            simp [e, e']
        rw [hfun]
        exact hmix'
  refine key ops.size _ c _ a s (by simp) ?_ ⟨⟨h.G.mono (CtxLe.refl c) (Kept.refl c.F w).drew, h.tm.mono (CtxLe.refl c) (Kept.refl c.F w).drew, h.σ.drew⟩, CtxLe.refl c, rfl, (Kept.refl c.K w).drew, rfl, rfl⟩ ?_
  · have hfun : (fun i => (Array.replicate ops.size false).getD i false) = fun _ => false := by
      funext i
      rw [Array.getD_eq_getD_getElem?, Array.getElem?_replicate]
      split <;> rfl
    rw [hfun]
    exact Mix.start hcan
  · unfold left
    have := List.countP_le_length (p := fun b : Bool => !b) (l := (Array.replicate ops.size false).toList)
    simpa using this
end Go.Abs
