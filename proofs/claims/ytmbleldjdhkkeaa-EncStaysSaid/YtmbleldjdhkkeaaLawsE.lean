/- The laws of the first chapter: what EncBack asks, in plain words. -/
import Derived.Test.YtmbleldjdhkkeaaLaws
set_option linter.unusedSimpArgs false
set_option linter.unusedVariables false
namespace Go.Proofs.Ytmbleldjdhkkeaa.Fn
open Go Go.Abs

theorem num_le (v : Nat) : ∀ k, num (le v k) = v % 256 ^ k
  | 0 => by simp [le, num, Nat.mod_one]
  | k + 1 => by
    rw [le_succ, num_append, num_le v k, le_length, Nat.mod_pow_succ]
    simp [Nat.mul_comm]
theorem and7 (n : Int) : ∃ k : Nat, k < 8 ∧ IntKind.i64.wrap ((andI IntKind.i64.bits n 7 : Nat) : Int) = k := by
  have h : andI IntKind.i64.bits n 7 ≤ 7 := by
    show (BitVec.ofInt 64 n &&& BitVec.ofInt 64 7).toNat ≤ 7
    rw [BitVec.toNat_and]
    exact Nat.and_le_right
  exact ⟨_, Nat.lt_succ_of_le h, wrap_i64 (by constructor <;> omega)⟩
theorem andm {v m : Nat} (hv : v < 18446744073709551616) (hm : m < 64) : andI IntKind.u64.bits (v : Int) ((2 ^ m - 1 : Nat) : Int) = v % 2 ^ m := by
  show (BitVec.ofInt 64 (v : Int) &&& BitVec.ofInt 64 ((2 ^ m - 1 : Nat) : Int)).toNat = _
  have h2 : 2 ^ m < 2 ^ 64 := Nat.pow_lt_pow_right (by omega) hm
  rw [BitVec.toNat_and, BitVec.ofInt_natCast, BitVec.ofInt_natCast, BitVec.toNat_ofNat, BitVec.toNat_ofNat, Nat.mod_eq_of_lt (show v < 2 ^ 64 from hv), Nat.mod_eq_of_lt (show 2 ^ m - 1 < 2 ^ 64 by omega), Nat.and_two_pow_sub_one_eq_mod]

/-- What is laid. -/
def layA (k : Nat) (ls : List Nat) : List UInt8 := ls.flatMap fun v => le v k
def layM (ms : List (List UInt8)) : List UInt8 := ms.flatMap fun x => le x.length 2 ++ x
theorem layA_succ {k : Nat} {ls : List Nat} {i : Nat} (h : i < ls.length) : layA k (ls.take (i + 1)) = layA k (ls.take i) ++ le ls[i] k := by
  unfold layA
  rw [← List.take_append_getElem h, List.flatMap_append]
  simp
theorem layM_succ {ms : List (List UInt8)} {i : Nat} (h : i < ms.length) : layM (ms.take (i + 1)) = layM (ms.take i) ++ (le ms[i].length 2 ++ ms[i]) := by
  unfold layM
  rw [← List.take_append_getElem h, List.flatMap_append]
  simp
theorem layA_length (k : Nat) : ∀ ls, (layA k ls).length = ls.length * k
  | [] => by simp [layA]
  | v :: ls => by
    have := layA_length k ls
    simp only [layA, List.flatMap_cons, List.length_append, le_length, List.length_cons] at this ⊢
    rw [this, Nat.succ_mul, Nat.add_comm]
theorem layM_length : ∀ ms : List (List UInt8), (∀ x ∈ ms, x.length ≤ 300) → (layM ms).length ≤ ms.length * 302
  | [], _ => by simp [layM]
  | x :: ms, h => by
    have h1 := layM_length ms (fun y hy => h y (List.mem_cons_of_mem _ hy))
    have h2 := h x (List.mem_cons_self ..)
    simp only [layM, List.flatMap_cons, List.length_append, le_length, List.length_cons] at h1 ⊢
    omega
theorem layA_split {k : Nat} {ls : List Nat} {i : Nat} (h : i < ls.length) : layA k ls = layA k (ls.take i) ++ (le ls[i] k ++ layA k (ls.drop (i + 1))) := by
  have e : ls = ls.take i ++ (ls[i] :: ls.drop (i + 1)) := by rw [← List.drop_eq_getElem_cons h, List.take_append_drop]
  conv => lhs; rw [e]
  simp only [layA, List.flatMap_append, List.flatMap_cons]
theorem layM_split {ms : List (List UInt8)} {i : Nat} (h : i < ms.length) : layM ms = layM (ms.take i) ++ ((le ms[i].length 2 ++ ms[i]) ++ layM (ms.drop (i + 1))) := by
  have e : ms = ms.take i ++ (ms[i] :: ms.drop (i + 1)) := by rw [← List.drop_eq_getElem_cons h, List.take_append_drop]
  conv => lhs; rw [e]
  simp only [layM, List.flatMap_append, List.flatMap_cons]

/-! Reading it -/
theorem u_of {B pre post : List UInt8} {v k p : Nat} (hB : B = pre ++ (le v k ++ post)) (hp : p = pre.length) (h1 : 1 ≤ k) (h8 : k ≤ 8) : uE B p 0 k = 0 ∧ uP B p 0 k = p + k ∧ uD B p 0 k = v % 256 ^ k := by
  subst hB; subst hp
  obtain ⟨a, b, c⟩ := u_in (B := pre ++ (le v k ++ post)) (p := pre.length) (n := k) (by simp [le_length]) h1 h8
  refine ⟨a, b, c.trans ?_⟩
  rw [List.drop_left, List.take_left' (le_length v k), num_le]
theorem l_of {B pre post x : List UInt8} {p : Nat} (hB : B = pre ++ ((le x.length 2 ++ x) ++ post)) (hp : p = pre.length) (hx : x.length ≤ 300) :
    nxE B (uP B p 0 2) (liE B p 0 300) (uD B p 0 2) = 0 ∧ nxP B (uP B p 0 2) (liE B p 0 300) (uD B p 0 2) = p + 2 + x.length ∧ nxD B (uP B p 0 2) (liE B p 0 300) (uD B p 0 2) = x := by
  obtain ⟨a, b, c⟩ := u_of (B := B) (v := x.length) (k := 2) (post := x ++ post) (by rw [hB]; simp) hp (by omega) (by omega)
  have a' : uE B p 0 2 = 0 := a
  have b' : uP B p 0 2 = p + 2 := b
  have c' : uD B p 0 2 = x.length := by
    have : uD B p 0 2 = x.length % 256 ^ 2 := c
    rw [this, Nat.mod_eq_of_lt (by omega)]
  have l : liE B p 0 300 = 0 := by unfold liE; rw [c', a', if_neg (by omega)]
  have hd : B.drop (p + 2) = x ++ post := by
    rw [hB, hp, ← List.append_assoc, ← List.append_assoc, List.append_assoc (pre ++ le x.length 2)]
    exact List.drop_left' (by simp [le_length])
  have hlen : B.length = p + 2 + x.length + post.length := by rw [hB, hp]; simp [le_length]; omega
  have e1 : nxE B (p + 2) 0 x.length = 0 := by unfold nxE; rw [if_neg (by omega)]
  rw [l, b', c']
  refine ⟨e1, ?_, ?_⟩
  · unfold nxP; rw [e1, if_pos rfl]
  · unfold nxD; rw [e1, if_pos rfl, hd, List.take_left]

/-! With a byte less -/
theorem nx_short {B : List UInt8} {p n : Nat} (hp : p ≤ B.length) : (nxE B p 0 n = 0 ∧ nxP B p 0 n = p + n ∧ p + n ≤ B.length ∧ nxD B p 0 n = (B.drop p).take n) ∨ nxE B p 0 n = 2 ∧ B.length < p + n := by
  by_cases h : n > B.length - p
  · right
    refine ⟨?_, by omega⟩
    unfold nxE; rw [if_pos h, if_pos rfl]
  · left
    have e1 : nxE B p 0 n = 0 := by unfold nxE; rw [if_neg h]
    refine ⟨e1, ?_, by omega, ?_⟩
    · unfold nxP; rw [e1, if_pos rfl]
    · unfold nxD; rw [e1, if_pos rfl]
theorem nx_stays {B : List UInt8} {p n : Nat} {e : Int} (he : e ≠ 0) : nxE B p e n = e ∧ nxP B p e n = p ∧ nxD B p e n = [] := by
  have : nxE B p e n = e := by unfold nxE; split <;> simp [he]
  refine ⟨this, ?_, ?_⟩
  · unfold nxP; rw [this, if_neg he]
  · unfold nxD; rw [this, if_neg he]
theorem u_nx {B : List UInt8} {p k : Nat} {e : Int} (h1 : 1 ≤ k) (h8 : k ≤ 8) : uE B p e k = nxE B p e k ∧ uP B p e k = nxP B p e k ∧ uD B p e k = num (nxD B p e k) := by
  have h0 : ¬ ((k : Int) < 1 ∨ (k : Int) > 8) := by omega
  refine ⟨?_, ?_, ?_⟩
  · unfold uE; rw [if_neg h0]; rfl
  · unfold uP; rw [if_neg h0]; rfl
  · unfold uD; rw [if_neg h0]; rfl
/-- Where one is with a byte less. -/
def Sh (B : List UInt8) (p : Nat) (e : Int) (q : Nat) : Prop := p ≤ B.length - 1 ∧ ((e = 0 ∧ p = q) ∨ e = 2)
theorem sh_u {B pre post : List UInt8} {v k p : Nat} {e : Int} (hB : B = pre ++ (le v k ++ post)) (h1 : 1 ≤ k) (h8 : k ≤ 8) (h : Sh B p e pre.length) :
    Sh B (uP (B.take (B.length - 1)) p e k) (uE (B.take (B.length - 1)) p e k) (pre ++ le v k).length := by
  obtain ⟨hp, h⟩ := h
  obtain ⟨a, b, c⟩ := u_nx (B := B.take (B.length - 1)) (p := p) (e := e) h1 h8
  have hl : (B.take (B.length - 1)).length = B.length - 1 := by simp
  rw [a, b]
  rcases h with ⟨rfl, rfl⟩ | rfl
  · rcases nx_short (B := B.take (B.length - 1)) (p := pre.length) (n := k) (by omega) with ⟨x, y, z, _⟩ | ⟨x, y⟩
    · rw [x, y]; exact ⟨by omega, .inl ⟨rfl, by simp [le_length]⟩⟩
    · refine ⟨?_, .inr x⟩
      unfold nxP; rw [x, if_neg (by decide)]; exact hp
  · obtain ⟨x, y, _⟩ := nx_stays (B := B.take (B.length - 1)) (p := p) (n := k) (e := 2) (by decide)
    rw [x, y]
    exact ⟨hp, .inr rfl⟩
theorem sh_l {B pre post x : List UInt8} {p : Nat} {e : Int} (hB : B = pre ++ ((le x.length 2 ++ x) ++ post)) (hx : x.length ≤ 300) (h : Sh B p e pre.length) :
    Sh B (nxP (B.take (B.length - 1)) (uP (B.take (B.length - 1)) p e 2) (liE (B.take (B.length - 1)) p e 300) (uD (B.take (B.length - 1)) p e 2)) (nxE (B.take (B.length - 1)) (uP (B.take (B.length - 1)) p e 2) (liE (B.take (B.length - 1)) p e 300) (uD (B.take (B.length - 1)) p e 2)) (pre ++ (le x.length 2 ++ x)).length := by
  obtain ⟨hp, h⟩ := h
  have hl : (B.take (B.length - 1)).length = B.length - 1 := by simp
  have hd : ∀ n, pre.length + n ≤ B.length - 1 → ((B.take (B.length - 1)).drop pre.length).take n = (B.drop pre.length).take n := fun n hn => by
    rw [List.drop_take, List.take_take, Nat.min_eq_left (by omega)]
  have hBl : B.length = pre.length + (2 + x.length + post.length) := by rw [hB]; simp [le_length]; omega
  have hB2 : (B.drop pre.length).take 2 = le x.length 2 := by
    rw [hB, List.drop_left, List.append_assoc, List.take_left' (le_length _ _)]
  generalize hC : B.take (B.length - 1) = C at *
  obtain ⟨a, b, c⟩ := u_nx (B := C) (p := p) (e := e) (k := 2) (by omega) (by omega)
  have a' : uE C p e 2 = nxE C p e 2 := a
  have b' : uP C p e 2 = nxP C p e 2 := b
  have c' : uD C p e 2 = num (nxD C p e 2) := c
  have dead : ∀ p', p' ≤ B.length - 1 → uP C p e 2 = p' → uE C p e 2 = 2 → uD C p e 2 = 0 → Sh B (nxP C (uP C p e 2) (liE C p e 300) (uD C p e 2)) (nxE C (uP C p e 2) (liE C p e 300) (uD C p e 2)) (pre ++ (le x.length 2 ++ x)).length := by
    intro p' hp' h1 h2 h3
    have l : liE C p e 300 = 2 := by unfold liE; rw [h3, h2, if_neg (by omega)]
    obtain ⟨y, z, _⟩ := nx_stays (B := C) (p := p') (n := 0) (e := 2) (by decide)
    rw [l, h1, h3, y, z]
    exact ⟨hp', .inr rfl⟩
  rcases h with ⟨rfl, rfl⟩ | rfl
  · rcases nx_short (B := C) (p := pre.length) (n := 2) (by omega) with ⟨x1, x2, x3, x4⟩ | ⟨x1, x2⟩
    · rw [hd 2 (by omega), hB2] at x4
      have hn : uD C pre.length 0 2 = x.length := by rw [c', x4, num_le, Nat.mod_eq_of_lt (by omega)]
      have l : liE C pre.length 0 300 = 0 := by unfold liE; rw [hn, a', x1, if_neg (by omega)]
      rw [l, b', x2, hn]
      rcases nx_short (B := C) (p := pre.length + 2) (n := x.length) (by omega) with ⟨y1, y2, y3, y4⟩ | ⟨y1, y2⟩
      · rw [y1, y2]; exact ⟨by omega, .inl ⟨rfl, by simp [le_length]; omega⟩⟩
      · refine ⟨?_, .inr y1⟩
        unfold nxP; rw [y1, if_neg (by decide)]; omega
    · refine dead pre.length hp ?_ (a'.trans x1) ?_
      · rw [b']; unfold nxP; rw [x1, if_neg (by decide)]
      · rw [c']; unfold nxD; rw [x1, if_neg (by decide)]; rfl
  · obtain ⟨x1, x2, x3⟩ := nx_stays (B := C) (p := p) (n := 2) (e := 2) (by decide)
    exact dead p hp (b'.trans x2) (a'.trans x1) (by rw [c', x3]; rfl)
end Go.Proofs.Ytmbleldjdhkkeaa.Fn
