/- An abstract machine for Go's compiled text: values without addresses, slices as lists, variables in a store of numbered boxes; and what its operations compute. Plain definitions, no program in sight. -/
import GoSem.Step
import Derived.Attr
set_option linter.unusedSimpArgs false
set_option linter.unusedVariables false
namespace Go.Abs

/-- A thing, if a condition holds. -/
def chk {α : Type} (c : Prop) [Decidable c] (x : Option α) : Option α := if c then x else none
theorem chk_some {α : Type} {c : Prop} [Decidable c] {x : Option α} {r : α} : chk c x = some r ↔ c ∧ x = some r := by
  unfold chk
  split
  · rename_i h; exact ⟨fun e => ⟨h, e⟩, fun e => e.2⟩
  · rename_i h; exact ⟨fun e => (by cases e), fun e => absurd e.1 h⟩

/-- A value, without addresses. -/
inductive AVal where
  | atom (v : Value)
  | agg (cs : List AVal)
  | tup (vs : List AVal)
  /-- a slice that nobody writes; nil or not, if it is empty -/
  | sl (es : List AVal)
  /-- a slice that nobody writes and that is not nil -/
  | sn (es : List AVal)
  /-- a slice of the array that lies in a box -/
  | own (b ver sz off len : Nat)
  /-- the address of a cell of a variable's box -/
  | ptr (b ver off : Nat)
  /-- the address of a cell of an element of an array's box -/
  | ep (b ver i off : Nat)
  /-- the address of cells that nobody writes -/
  | fp (cs : List AVal)
  | fn (f : FuncId) (first cap : List AVal)
  | yld (b ver : Nat)
  | mp (b ver : Nat)
  | ifc (t : TypeId) (v : AVal)
  | any
  deriving Inhabited

def AVal.cells : AVal → List AVal
  | .agg cs => cs
  | v => [v]

@[simp] theorem AVal.cells_agg (cs : List AVal) : (AVal.agg cs).cells = cs := rfl
@[simp] theorem AVal.cells_atom (v : Value) : (AVal.atom v).cells = [.atom v] := rfl
@[simp] theorem AVal.cells_sl (es : List AVal) : (AVal.sl es).cells = [.sl es] := rfl

/-- Each of them has so many cells. -/
def unif (n : Nat) (es : List AVal) : Bool := es.all fun e => e.cells.length == n

abbrev aint (n : Int) : AVal := .atom (.int .i64 n)
abbrev abool (b : Bool) : AVal := .atom (.bool b)
abbrev anil : AVal := .atom (.slice none 0 0)

/-- What an operation reads. -/
inductive AOpd where
  | t (n : Nat)
  | c (v : AVal)
  | g (n : Nat)
  deriving Inhabited

/-- Of what kind a nil is. -/
inductive ANil where
  | ptr | sl | map | fn | ifc
  deriving DecidableEq, Inhabited

/-- The operations, resolved: no type is asked behind this. -/
inductive AOp where
  | mv (x : AOpd)
  | pick (c a b : AOpd)
  | ld (agg : Bool) (sz : Nat) (a : AOpd)
  | nilc (x : AOpd)
  | bin (op : BinOp) (x y : AOpd)
  | beq (neg : Bool) (x y : AOpd)
  /-- is x nil? (neg: is it not?) -/
  | isnil (k : ANil) (neg : Bool) (x : AOpd)
  | eqagg (neg : Bool) (x y : AOpd)
  | un (op : UnOp) (x : AOpd)
  | i2i (k : IntKind) (x : AOpd)
  | b2s (x : AOpd)
  | s2s (x : AOpd)
  | s2b (site : Nat) (x : AOpd)
  | fld (agg : Bool) (off sz : Nat) (x : AOpd)
  | fa (off : Nat) (x : AOpd)
  | ia (sz : Nat) (x i : AOpd)
  | iaa (n sz : Nat) (x i : AOpd)
  | ixa (agg : Bool) (n sz : Nat) (x i : AOpd)
  | slc (sz : Nat) (x : AOpd) (l h m : Option AOpd)
  /-- x[:0:0] -/
  | slc0 (site sz : Nat) (x : AOpd)
  | ext (x : AOpd) (i : Nat)
  | bld (zero : List AVal) (parts : List (Nat × Nat × AOpd))
  | mkfn (f : FuncId) (first cap : List AOpd)
  | mkif (t : TypeId) (x : AOpd)
  | len (x : AOpd)
  | lenS (x : AOpd)
  | min (xs : List AOpd)
  | max (xs : List AOpd)
  | lookup (zero : AVal) (ok : Bool) (m k : AOpd)
  | alloc (site : Nat) (zero : AVal)
  | box (site : Nat) (x : AOpd)
  | bsl (site : Nat) (zero : AVal) (n : Nat) (parts : List (Nat × AOpd))
  | nown (site sz : Nat)
  | mksl (site : Nat) (bytes : Nat) (zero : AVal) (l c : AOpd)
  | mkmap (site : Nat)
  /-- bytes of a literal: the array that was just made -/
  | mks (x : AOpd)
  | st (sz : Nat) (a x : AOpd)
  | mapupd (m k v : AOpd)
  | app (site : Nat) (bytes sz : Nat) (s x : AOpd)
  | call (site : Nat) (f : AOpd) (args : List AOpd)
  deriving Inhabited

/-- An operation in a row. -/
structure AOper where
  dst : Option Nat
  op : AOp
  guard : Option (Nat × Bool)
  /-- where the order is open: must it read no box (one that reads), change nothing (one that changes)? -/
  fl : Bool := false
  /-- where the order is open: places that it must not read -/
  av : List Nat := []
  deriving Inhabited

/-- Operations in a row; those of the second half of '&&', '||' set apart. -/
inductive GOps where
  | nil
  | one (dst : Option Nat) (op : AOp) (fl : Bool) (av : List Nat) (r : GOps)
  /-- slot d becomes x where slot g is true, else y; if it is 'want', 'sub' is done ahead of it; what 'sub' writes lies from lo on, below hi -/
  | sc (d lo hi g : Nat) (want : Bool) (sub : GOps) (x y : AOpd) (r : GOps)
  deriving Inhabited

inductive ACode where
  | skip
  | region (ops : GOps)
  | seq (a b : ACode)
  | cond (c : AOpd) (thn els : ACode)
  | block (id : Nat) (body : ACode)
  | loop (body : ACode)
  | rangeFunc (site : Nat) (f : AOpd) (params : List Nat) (assign body : ACode)
  | exit (id : Nat)
  | ret
  deriving Inhabited

inductive ARes where
  | tmp (t : Nat)
  | cell (addr : Nat) (agg : Bool) (sz : Nat)
  deriving Inhabited

inductive AMode where
  | frozen | own | escape
  deriving DecidableEq, Inhabited

structure AFun where
  body : ACode
  res : List ARes
  /-- how many boxes a call of it has -/
  nb : Nat
  mode : AMode := .frozen
  deriving Inhabited

inductive AExit where
  | normal
  | exit (id : Nat)
  | ret
  deriving Inhabited

/-- What lies in memory under a number. -/
inductive Box where
  | var (ver : Nat) (cs : List AVal)
  | arr (ver : Nat) (fz : Bool) (sz : Nat) (es : List AVal)
  | map (ver : Nat) (es : List (AVal × AVal))
  | loop (ver : Nat) (st : LoopState) (pend : Option ACode) (tm : Nat → AVal) (base : Nat) (ps : List Nat) (assign body : ACode)
  | dead (ver : Nat)
  deriving Inhabited

def Box.ver : Box → Nat
  | .var v _ | .arr v .. | .map v _ | .loop v .. | .dead v => v

abbrev Store := List Box

structure AState where
  tm : Nat → AVal
  σ : Store
  base : Nat

def upd (f : Nat → AVal) (i : Nat) (v : AVal) : Nat → AVal := fun j => if j = i then v else f j

def AState.put (s : AState) : Option Nat → AVal → AState
  | some d, v => { s with tm := upd s.tm d v }
  | none, _ => s

mutual
/-- No number of a box stands in it. -/
def pureV : AVal → Bool
  | .atom _ | .sl _ | .sn _ | .fp _ => true
  | .agg cs => pureL cs
  | .tup vs => pureL vs
  | .fn _ first cap => pureL first && pureL cap
  | .ifc _ v => pureV v
  | _ => false
def pureL : List AVal → Bool
  | [] => true
  | v :: vs => pureV v && pureL vs
end

mutual
/-- Every number of a box that stands in it is below n. -/
def wfV (n : Nat) : AVal → Bool
  | .atom _ | .sl _ | .sn _ | .fp _ | .any => true
  | .agg cs => wfL n cs
  | .tup vs => wfL n vs
  | .own b _ _ _ _ | .ptr b _ _ | .ep b _ _ _ | .yld b _ | .mp b _ => decide (b < n)
  | .fn _ first cap => wfL n first && wfL n cap
  | .ifc _ v => wfV n v
def wfL (n : Nat) : List AVal → Bool
  | [] => true
  | v :: vs => wfV n v && wfL n vs
end

/-- The elements of a slice. -/
def cont (σ : Store) : AVal → Option (List AVal)
  | .atom (.slice none 0 0) => some []
  | .sl es => some es
  | .own b ver _ off len =>
    match σ[b]? with
    | some (.arr v _ _ es) => chk (v = ver ∧ off + len ≤ es.length) (some ((es.drop off).take len))
    | _ => none
  | _ => none

/-- What it comes to if nobody writes it any more. -/
def frzV (σ : Store) : AVal → Option AVal
  | .own b ver sz off len => (cont σ (.own b ver sz off len)).map .sl
  | .atom (.slice none 0 0) => some (.sl [])
  | v => some v
def frzL (σ : Store) : List AVal → Option (List AVal)
  | [] => some []
  | v :: vs => match frzV σ v, frzL σ vs with
    | some v, some vs => some (v :: vs)
    | _, _ => none
def frz (σ : Store) : AVal → Option AVal
  | .agg cs => (frzL σ cs).map .agg
  | .tup vs => (frzT vs).map .tup
  | v => frzV σ v
where frzT : List AVal → Option (List AVal)
  | [] => some []
  | v :: vs =>
    match (match v with | .agg cs => (frzL σ cs).map .agg | v => frzV σ v), frzT vs with
    | some v, some vs => some (v :: vs)
    | _, _ => none

/-- The arrays that stand in it are written no more. -/
def markV (σ : Store) : AVal → Store
  | .own b _ _ _ _ => match σ[b]? with | some (.arr v _ sz es) => σ.set b (.arr v true sz es) | _ => σ
  | _ => σ
def markL (σ : Store) : List AVal → Store
  | [] => σ
  | v :: vs => markL (markV σ v) vs
def mark (σ : Store) : AVal → Store
  | .agg cs => markL σ cs
  | .tup vs => markT σ vs
  | v => markV σ v
where markT (σ : Store) : List AVal → Store
  | [] => σ
  | .agg cs :: vs => markT (markL σ cs) vs
  | v :: vs => markT (markV σ v) vs
def markArgs (σ : Store) : List AVal → Store
  | [] => σ
  | v :: vs => markArgs (mark σ v) vs
def frzArgs (σ : Store) : List AVal → Option (List AVal)
  | [] => some []
  | v :: vs => match frz σ v, frzArgs σ vs with
    | some v, some vs => some (v :: vs)
    | _, _ => none

/-- A part of a variable. -/
def getC (agg : Bool) (sz : Nat) (cs : List AVal) (off : Nat) : Option AVal :=
  if agg then chk (off + sz ≤ cs.length) (some (.agg ((cs.drop off).take sz))) else cs[off]?

/-- cells laid over others -/
def setC (cs : List AVal) (off : Nat) : List AVal → List AVal
  | [] => cs
  | v :: vs => setC (cs.set off v) (off + 1) vs

section
variable (G : Nat → Option (List AVal))
def ev (s : AState) : AOpd → AVal
  | .t n => s.tm n
  | .c v => v
  | .g n => match G n with | some cs => .fp cs | none => .any
def evo (s : AState) : Option AOpd → Option AVal
  | none => none
  | some x => some (ev G s x)
end

/-- Does it lie in one cell? -/
def oneA : AVal → Bool
  | .agg _ | .tup _ | .any => false
  | _ => true
def oneL : List AVal → Bool
  | [] => true
  | v :: vs => oneA v && oneL vs

mutual
def toV : AVal → Option Value
  | .atom v => some v
  | .agg cs => (toVL cs).map fun vs => .agg vs.toArray
  | _ => none
def toVL : List AVal → Option (List Value)
  | [] => some []
  | v :: vs => match toV v, toVL vs with
    | some v, some vs => some (v :: vs)
    | _, _ => none
end

/-- Two plain values under an operator. -/
def abin (op : BinOp) : Value → Value → Option Value
  | .int k a, .int k' b =>
    match op with
    | .shl => chk (0 ≤ b) (some (.int k (k.wrap (a * 2 ^ (Nat.min b.toNat k.bits)))))
    | .shr => chk (0 ≤ b) (some (.int k (a.fdiv (2 ^ (Nat.min b.toNat k.bits)))))
    | _ =>
      if k = k' then
        match op with
        | .add => some (.int k (k.wrap (a + b)))
        | .sub => some (.int k (k.wrap (a - b)))
        | .mul => some (.int k (k.wrap (a * b)))
        | .quo => chk (b ≠ 0) (some (.int k (k.wrap (a.tdiv b))))
        | .rem => chk (b ≠ 0) (some (.int k (a.tmod b)))
        | .and => some (.int k (k.wrap (BitVec.ofInt k.bits a &&& BitVec.ofInt k.bits b).toNat))
        | .or => some (.int k (k.wrap (BitVec.ofInt k.bits a ||| BitVec.ofInt k.bits b).toNat))
        | .xor => some (.int k (k.wrap (BitVec.ofInt k.bits a ^^^ BitVec.ofInt k.bits b).toNat))
        | .eql => some (.bool (a == b))
        | .neq => some (.bool (a != b))
        | .lss => some (.bool (decide (a < b)))
        | .leq => some (.bool (decide (a ≤ b)))
        | .gtr => some (.bool (decide (a > b)))
        | .geq => some (.bool (decide (a ≥ b)))
        | _ => none
      else none
  | .string a, .string b =>
    match op with
    | .eql => some (.bool (a.toList == b.toList))
    | .neq => some (.bool (!(a.toList == b.toList)))
    | .lss => some (.bool (Op.bytesLess a.toList b.toList))
    | _ => none
  | _, _ => none

def aun (op : UnOp) : Value → Option Value
  | .bool b => match op with | .not => some (.bool !b) | _ => none
  | .int k n => match op with | .neg => some (.int k (k.wrap (0 - n))) | _ => none
  | _ => none

/-- Plain values in a row: are they the same? -/
def eqVs : List AVal → List AVal → Option Bool
  | [], [] => some true
  | .atom x :: xs, .atom y :: ys =>
    match abin .eql x y, eqVs xs ys with
    | some (.bool a), some b => some (a && b)
    | _, _ => none
  | _, _ => none

def byteOf : AVal → Option UInt8
  | .atom (.int .u8 n) => if 0 ≤ n ∧ n < 256 then some (UInt8.ofNat n.toNat) else none
  | _ => none
def bytesOf : List AVal → Option (List UInt8)
  | [] => some []
  | v :: vs => match byteOf v, bytesOf vs with
    | some b, some bs => some (b :: bs)
    | _, _ => none
abbrev abyte (b : UInt8) : AVal := .atom (.int .u8 b.toNat)
abbrev astr (l : List UInt8) : AVal := .atom (.string ⟨l.toArray⟩)

def idx : AVal → Option Int
  | .atom (.int _ n) => some n
  | _ => none

/-- A slice's bounds: low, high, and what a third one must not pass. -/
def bnds (len : Nat) (l h m : Option AVal) : Option (Nat × Nat) :=
  match (match l with | none => some 0 | some v => idx v), (match h with | none => some (len : Int) | some v => idx v), (match m with | none => some (len : Int) | some v => idx v) with
  | some l, some h, some m => chk (0 ≤ l ∧ l ≤ h ∧ h ≤ m ∧ m ≤ len) (some (l.toNat, h.toNat))
  | _, _, _ => none

def min2A : Value → Value → Option Value
  | .int k x, .int _ y => some (.int k (if y < x then y else x))
  | _, _ => none
def max2A : Value → Value → Option Value
  | .int k x, .int _ y => some (.int k (if y > x then y else x))
  | _, _ => none
def foldA (f : Value → Value → Option Value) : Value → List AVal → Option Value
  | v, [] => some v
  | v, .atom x :: xs => match f v x with | some r => foldA f r xs | none => none
  | _, _ => none

def sameKey : AVal → AVal → Option Bool
  | .atom (.int k a), .atom (.int k' b) => if k = k' then some (a == b) else none
  | .atom (.string a), .atom (.string b) => some (a == b)
  | .atom (.bool a), .atom (.bool b) => some (a == b)
  | .agg xs, .agg ys => eqVs xs ys
  | _, _ => none
def findK (k : AVal) : List (AVal × AVal) → Option (Option AVal)
  | [] => some none
  | (x, v) :: es => match sameKey k x with
    | some true => some (some v)
    | some false => findK k es
    | none => none
def updK (k v : AVal) : List (AVal × AVal) → Option (List (AVal × AVal))
  | [] => some [(k, v)]
  | (x, u) :: es => match sameKey k x with
    | some true => some ((x, v) :: es)
    | some false => (updK k v es).map ((x, u) :: ·)
    | none => none

section
variable (G : Nat → Option (List AVal))
/-- The operations that change nothing, and what they give. -/
def eop (s : AState) : AOp → Option AVal
  | .mv x => some (ev G s x)
  | .pick c a b => match ev G s c with | .atom (.bool t) => some (if t then ev G s a else ev G s b) | _ => none
  | .ld agg sz a =>
    match ev G s a with
    | .ptr b ver off => (match s.σ[b]? with | some (.var v cs) => chk (v = ver) (getC agg sz cs off) | _ => none)
    | .ep b ver i off => (match s.σ[b]? with
      | some (.arr v _ _ es) => chk (v = ver) ((es[i]?).bind fun e => getC agg sz e.cells off)
      | _ => none)
    | .fp cs => getC agg sz cs 0
    | _ => none
  | .nilc x =>
    match ev G s x with
    | .ptr b ver off => some (.ptr b ver off)
    | .ep b ver i off => some (.ep b ver i off)
    | .fp cs => some (.fp cs)
    | .fn f first cap => some (.fn f first cap)
    | .yld b v => some (.yld b v)
    | _ => none
  | .bin op x y => match ev G s x, ev G s y with | .atom a, .atom b => (abin op a b).map .atom | _, _ => none
  | .beq neg x y => match ev G s x, ev G s y with | .atom (.bool a), .atom (.bool b) => some (abool (if neg then !(a == b) else a == b)) | _, _ => none
  | .isnil k neg x =>
    match k, ev G s x with
    | .ptr, .atom (.pointer none) | .sl, .atom (.slice none 0 0) | .map, .atom (.map none) | .fn, .atom .nilFunc | .ifc, .atom .nilIface => some (abool (!neg))
    | .ptr, .ptr .. | .ptr, .ep .. | .ptr, .fp _ | .sl, .sl (_ :: _) | .sl, .sn _ | .map, .mp .. | .fn, .fn .. | .fn, .yld .. | .ifc, .ifc .. => some (abool neg)
    | _, _ => none
  | .eqagg neg x y => match ev G s x, ev G s y with | .agg a, .agg b => (eqVs a b).map fun t => abool (if neg then !t else t) | _, _ => none
  | .un op x => match ev G s x with | .atom a => (aun op a).map .atom | _ => none
  | .i2i k x => match ev G s x with | .atom (.int _ n) => some (.atom (.int k (k.wrap n))) | _ => none
  | .b2s x => match cont s.σ (ev G s x) with | some es => (bytesOf es).map astr | none => none
  | .s2s x => match ev G s x with | .atom (.string b) => some (.atom (.string b)) | _ => none
  | .fld agg off sz x => match ev G s x with | .agg cs => getC agg sz cs off | _ => none
  | .fa off x =>
    match ev G s x with
    | .ptr b ver o => some (.ptr b ver (o + off))
    | .ep b ver i o => some (.ep b ver i (o + off))
    | .fp cs => some (.fp (cs.drop off))
    | _ => none
  | .ia sz x i =>
    match ev G s x, idx (ev G s i) with
    | .sl es, some n => chk (0 ≤ n ∧ n < es.length) ((es[n.toNat]?).bind fun e => chk (e.cells.length = sz) (some (.fp e.cells)))
    | .own b ver k off len, some n => chk (k = sz ∧ 0 ≤ n ∧ n < len) (some (.ep b ver (off + n.toNat) 0))
    | _, _ => none
  | .iaa n sz x i =>
    match ev G s x, idx (ev G s i) with
    | .ptr b ver o, some k => chk (0 ≤ k ∧ k < n) (some (.ptr b ver (o + k.toNat * sz)))
    | .ep b ver j o, some k => chk (0 ≤ k ∧ k < n) (some (.ep b ver j (o + k.toNat * sz)))
    | .fp cs, some k => chk (0 ≤ k ∧ k < n) (some (.fp (cs.drop (k.toNat * sz))))
    | _, _ => none
  | .ixa agg n sz x i =>
    match ev G s x, idx (ev G s i) with
    | .agg cs, some k => chk (0 ≤ k ∧ k < n) (getC agg sz cs (k.toNat * sz))
    | _, _ => none
  | .slc sz x l h m =>
    match ev G s x with
    | .sl es => chk (unif sz es = true) ((bnds es.length (evo G s l) (evo G s h) (evo G s m)).map fun p => .sl ((es.drop p.1).take (p.2 - p.1)))
    | .own b ver k off len => chk (k = sz) ((bnds len (evo G s l) (evo G s h) (evo G s m)).map fun p => .own b ver k (off + p.1) (p.2 - p.1))
    | .atom (.slice none 0 0) => (bnds 0 (evo G s l) (evo G s h) (evo G s m)).map fun _ => anil
    | _ => none
  | .ext x i => match ev G s x with | .tup vs => vs[i]? | _ => none
  | .bld zero parts => (fillA zero (parts.map fun p => (p.1, p.2.1, ev G s p.2.2))).map .agg
  | .mkfn f first cap => some (.fn f (first.map (ev G s)) (cap.map (ev G s)))
  | .mkif t x => some (.ifc t (ev G s x))
  | .len x =>
    match ev G s x with
    | .atom (.slice none 0 0) => some (aint 0)
    | .sl es => some (aint es.length)
    | .own _ _ _ _ len => some (aint len)
    | _ => none
  | .lenS x => match ev G s x with | .atom (.string b) => some (aint b.size) | _ => none
  | .min xs => match xs.map (ev G s) with | .atom v :: r => (foldA min2A v r).map .atom | _ => none
  | .max xs => match xs.map (ev G s) with | .atom v :: r => (foldA max2A v r).map .atom | _ => none
  | .lookup zero ok m k =>
    match (match ev G s m with
      | .atom (.map none) => some []
      | .mp b ver => (match s.σ[b]? with | some (.map v es) => chk (v = ver) (some es) | _ => none)
      | _ => none) with
    | some es => (findK (ev G s k) es).map fun r =>
        match ok with
        | true => .tup [r.getD zero, abool r.isSome]
        | false => r.getD zero
    | none => none
  | _ => none
where
  fillA : List AVal → List (Nat × Nat × AVal) → Option (List AVal)
    | cs, [] => some cs
    | cs, (off, sz, v) :: r => chk (v.cells.length = sz ∧ off + sz ≤ cs.length ∧ oneL v.cells = true) (fillA (setC cs off v.cells) r)

/-- Does it change nothing? -/
def AOp.isE : AOp → Bool
  | .slc0 .. | .s2b .. | .alloc .. | .box .. | .bsl .. | .nown .. | .mksl .. | .mkmap .. | .mks .. | .st .. | .mapupd .. | .app .. | .call .. => false
  | _ => true

/-- The box that it reads. -/
def foot (s : AState) : AOp → Option Nat
  | .ld _ _ a => match ev G s a with | .ptr b _ _ | .ep b _ _ _ => some b | _ => none
  | .b2s x => match ev G s x with | .own b _ _ _ _ => some b | _ => none
  | .lookup _ _ m _ => match ev G s m with | .mp b _ => some b | _ => none
  | _ => none

/-- The number of the box at a place of its own. -/
def lay (s : AState) (site : Nat) (f : Nat → Box) (r : Nat → Nat → AVal) : Option (AVal × Store) :=
  match s.σ[s.base + site]? with
  | some B => some (r (s.base + site) (B.ver + 1), s.σ.set (s.base + site) (f (B.ver + 1)))
  | none => none

def maxRoom : Nat := 70368744177664

variable (callv : AVal → List AVal → Store → Option (AVal × Store)) (raw : FuncId → Bool)

/-- The operations that change something. -/
def cop (s : AState) : AOp → Option (AVal × Store)
  | .s2b site x => match ev G s x with
    | .atom (.string b) => lay s site (fun v => .arr v false 1 (b.toList.map abyte)) (fun b' v => .own b' v 1 0 b.size)
    | _ => none
  | .alloc site z => lay s site (fun v => .var v z.cells) (fun b v => .ptr b v 0)
  | .box site x => chk (oneL (ev G s x).cells = true) (lay s site (fun v => .var v (ev G s x).cells) (fun b v => .ptr b v 0))
  | .bsl site z n parts =>
    match fillP z.cells.length (List.replicate n z) (parts.map fun p => (p.1, frz s.σ (ev G s p.2))) with
    | some es => lay { s with σ := markArgs s.σ (parts.map fun p => ev G s p.2) } site (fun v => .arr v false z.cells.length es) (fun b v => .own b v z.cells.length 0 n)
    | none => none
  | .slc0 site sz x => match ev G s x with
    | .sl _ | .own .. | .atom (.slice none 0 0) => lay s site (fun v => .arr v false sz []) (fun b v => .own b v sz 0 0)
    | _ => none
  | .nown site sz => lay s site (fun v => .arr v false sz []) (fun b v => .own b v sz 0 0)
  | .mksl site bytes z l c =>
    match idx (ev G s l), idx (ev G s c) with
    | some l, some c => chk (0 ≤ l ∧ l ≤ c ∧ c * bytes ≤ maxRoom ∧ c ≤ maxRoom) (lay s site (fun v => .arr v false z.cells.length (List.replicate l.toNat z)) (fun b v => .own b v z.cells.length 0 l.toNat))
    | _, _ => none
  | .mkmap site => lay s site (fun v => .map v []) (fun b v => .mp b v)
  | .mks x => match ev G s x with
    | .own b ver sz off len => (match s.σ[b]? with
      | some (.arr v false k _) => chk (v = ver ∧ k = sz) (some (.own b ver sz off len, s.σ))
      | _ => none)
    | _ => none
  | .st sz a x =>
    let cs' := (ev G s x).cells
    chk (cs'.length = sz ∧ oneL cs' = true)
      (match ev G s a with
      | .ptr b ver off => (match s.σ[b]? with
        | some (.var v cs) => chk (v = ver ∧ off + sz ≤ cs.length) (some (.tup [], s.σ.set b (.var v (setC cs off cs'))))
        | _ => none)
      | .ep b ver i off => (match s.σ[b]? with
        | some (.arr v false k es) => chk (v = ver) ((es[i]?).bind fun e =>
            chk (off + sz ≤ e.cells.length ∧ pureL cs' = true) (some (.tup [], s.σ.set b (.arr v false k (es.set i (cop.recell e (setC e.cells off cs')))))))
        | _ => none)
      | _ => none)
  | .mapupd m k v =>
    match ev G s m with
    | .mp b ver => (match s.σ[b]?, frz s.σ (ev G s v) with
      | some (.map v' es), some x => chk (v' = ver ∧ pureV x = true ∧ pureV (ev G s k) = true) ((updK (ev G s k) x es).map fun es' => (.tup [], (mark s.σ (ev G s v)).set b (.map v' es')))
      | _, _ => none)
    | _ => none
  | .app site bytes sz x y =>
    match (match ev G s y with
      | .atom (.string b) => chk (sz = 1) (some (b.toList.map abyte))
      | .sl es => chk (unif sz es = true) (some es)
      | .sn es => chk (unif sz es = true) (some es)
      | .own b ver k off len => chk (k = sz) (cont s.σ (.own b ver k off len))
      | v => cont s.σ v) with
    | some ys =>
      (match ev G s x with
       | .atom (.slice none 0 0) =>
         chk (ys.length * bytes ≤ maxRoom ∧ ys.length ≤ maxRoom)
           (if ys = [] then some (anil, s.σ) else lay s site (fun v => .arr v false sz ys) (fun b v => .own b v sz 0 ys.length))
       | .own b ver k off len => (match s.σ[b]? with
         | some (.arr v false _ es) =>
           chk (v = ver ∧ k = sz ∧ off = 0 ∧ len = es.length ∧ (es.length + ys.length) * bytes ≤ maxRoom ∧ es.length + ys.length ≤ maxRoom)
             (some (.own b (ver + 1) sz 0 (es.length + ys.length), s.σ.set b (.arr (ver + 1) false sz (es ++ ys))))
         | _ => none)
       | _ => none)
    | none => none
  | .call site f args =>
    let fv := ev G s f
    let as := args.map (ev G s)
    match (match fv with | .fn k _ _ => raw k | _ => false) with
    | true => (callv fv as s.σ).bind (recv s site)
    | false => (match frzArgs s.σ as with
      | some as' => (callv fv as' (markArgs s.σ as)).bind (recv s site)
      | none => none)
  | _ => none
where
  fillP (sz : Nat) : List AVal → List (Nat × Option AVal) → Option (List AVal)
    | es, [] => some es
    | es, (i, some v) :: r => chk (i < es.length ∧ pureV v = true ∧ v.cells.length = sz ∧ oneL v.cells = true) (fillP sz (es.set i v) r)
    | _, (_, none) :: _ => none
  recell : AVal → List AVal → AVal
    | .agg _, cs => .agg cs
    | _, [c] => c
    | e, _ => e
  /-- A new array that a call hands back lies at the place of the call. -/
  recv (s : AState) (site : Nat) (r : AVal × Store) : Option (AVal × Store) :=
    match r with
    | (.own b ver sz off len, σ') =>
      if b = s.σ.length then
        (match σ'[b]?, σ'[s.base + site]? with
         | some (.arr v false k es), some B => chk (v = ver ∧ k = sz ∧ σ'.length = s.σ.length + 1 ∧ s.base + site < s.σ.length) (some (.own (s.base + site) (B.ver + 1) sz off len, (σ'.take s.σ.length).set (s.base + site) (.arr (B.ver + 1) false k es)))
         | _, _ => none)
      else some (.own b ver sz off len, σ')
    | r => some r

def stepOp (s : AState) (o : AOp) : Option (AVal × Store) :=
  if o.isE then (eop G s o).map fun v => (v, s.σ) else cop G callv raw s o

def wantedA (s : AState) : Option (Nat × Bool) → Option Bool
  | none => some true
  | some (t, want) => match s.tm t with | .atom (.bool b) => some (b == want) | .tup [] => some false | _ => none

/-- The same, but for what lies at one place. -/
def sameBut : Nat → Store → Store → Prop
  | 0, _ :: l, _ :: l' => l = l'
  | k + 1, a :: l, b :: l' => a = b ∧ sameBut k l l'
  | _, [], [] => True
  | _, _, _ => False

/-- What is asked where the order is open. -/
def flagOk (s : AState) (op : AOp) (fl : Bool) (av : List Nat) (σ' : Store) : Prop :=
  if op.isE then (fl = true → foot G s op = none) ∧ (∀ k ∈ av, foot G s op ≠ some (s.base + k)) else (fl = true → match op with | .call k _ _ => sameBut (s.base + k) σ' s.σ | _ => σ' = s.σ)

open Classical in
noncomputable def stepF (s : AState) (op : AOp) (fl : Bool) (av : List Nat) : Option (AVal × Store) :=
  (stepOp G callv raw s op).bind fun r => chk (flagOk G s op fl av r.2) (some r)

/-- All in a row. -/
noncomputable def runOps : List AOper → AState → Option AState
  | [], s => some s
  | o :: r, s =>
    match wantedA s o.guard with
    | some true => (stepF G callv raw s o.op o.fl o.av).bind fun x => runOps r ({ s with σ := x.2 }.put o.dst x.1)
    | some false => runOps r (s.put o.dst (.tup []))
    | none => none

/-- Some slots are forgotten. -/
def clr (lo hi : Nat) (tm : Nat → AVal) : Nat → AVal := fun t => if lo ≤ t ∧ t < hi then .any else tm t

/-- All in a row, by halves. -/
noncomputable def runG : GOps → AState → Option AState
  | .nil, s => some s
  | .one d op fl av r, s => (stepF G callv raw s op fl av).bind fun x => runG r ({ s with σ := x.2 }.put d x.1)
  | .sc d lo hi g want sub x y r, s =>
    (match s.tm g with
     | .atom (.bool t) =>
       if t = want then (runG sub s).map fun s' => (ev G s' (if want then x else y), s'.σ)
       else some (ev G s (if want then y else x), s.σ)
     | _ => none).bind fun z => runG r { s with tm := upd (clr lo hi s.tm) d z.1, σ := z.2 }

/-- The results. -/
def resOf (s : AState) : ARes → Option AVal
  | .tmp t => some (s.tm t)
  | .cell a agg sz => match s.tm a with
    | .ptr b ver off => (match s.σ[b]? with | some (.var v cs) => chk (v = ver) (getC agg sz cs off) | _ => none)
    | _ => none
def resAll (s : AState) : List ARes → Option (List AVal)
  | [] => some []
  | r :: rs => match resOf s r, resAll s rs with
    | some v, some vs => some (v :: vs)
    | _, _ => none
def resVal : List AVal → AVal
  | [v] => v
  | vs => .tup vs

/-- The boxes that were there are still such that none of them bears a number that is not. -/
def okTake (σ' σ : Store) : Prop := ∀ i B, σ'[i]? = some B → i < σ.length → σ[i]? = some B ∨ (match B with
  | .var _ cs => wfL σ.length cs = true
  | .arr .. | .map .. | .dead _ => True
  | .loop _ _ _ tm _ _ _ _ => ∃ v st pend base ps assign body, σ[i]? = some (.loop v st pend tm base ps assign body))

open Classical in
/-- What a call hands back. -/
noncomputable def finish (mode : AMode) (σ : Store) (r : AVal) (σ' : Store) : Option (AVal × Store) :=
  match mode with
  | .escape => (match r with | .own b .. => if b < σ.length then some (r, σ') else none | r => some (r, σ'))
  | .frozen =>
    match frz σ' r with
    | some r' => chk (wfV σ.length r' = true ∧ okTake (mark σ' r) σ) (some (r', (mark σ' r).take σ.length))
    | none => none
  | .own =>
    match r with
    | .own b ver sz off len =>
      if b < σ.length then chk (okTake σ' σ) (some (r, σ'.take σ.length))
      else match σ'[b]? with
        | some (.arr v false k es) => chk (v = ver ∧ k = sz ∧ off = 0 ∧ len = es.length ∧ okTake σ' σ) (some (.own σ.length 0 sz 0 len, σ'.take σ.length ++ [.arr 0 false sz es]))
        | _ => none
    | r =>
      match frz σ' r with
      | some r' => chk (wfV σ.length r' = true ∧ okTake (mark σ' r) σ) (some (r', (mark σ' r).take σ.length))
      | none => none

def initTm (args : List AVal) : Nat → AVal := fun j => args.getD j (.tup [])
end

/-- What a machine is given: its functions; which take arrays to write on; those that are told by another text. -/
structure Env where
  fns : FuncId → Option AFun
  raw : FuncId → Bool
  G : Nat → Option (List AVal)
  X : FuncId → Option (List AVal → Store → Option (AVal × Store))

section
variable (E : Env)
def setParams (tm : Nat → AVal) : List Nat → List AVal → Nat → AVal
  | p :: ps, v :: vs => setParams (upd tm p v) ps vs
  | _, _ => tm

/-- One level of the code. -/
noncomputable def execF (exec : ACode → AState → Option (AExit × AState)) (callv : AVal → List AVal → Store → Option (AVal × Store)) : ACode → AState → Option (AExit × AState)
  | .skip, s => some (.normal, s)
  | .region ops, s => (runG E.G callv E.raw ops s).map fun s => (.normal, s)
  | .seq a b, s => (exec a s).bind fun r => match r with
    | (.normal, s') => exec b s'
    | r => some r
  | .cond c a b, s => match ev E.G s c with
    | .atom (.bool t) => if t then exec a s else exec b s
    | _ => none
  | .block id b, s => (exec b s).map fun r => match r with
    | (.exit i, s') => if i = id then (.normal, s') else (.exit i, s')
    | r => r
  | .loop b, s => (exec b s).bind fun r => match r with
    | (.normal, s') => exec (.loop b) s'
    | r => some r
  | .rangeFunc site f ps assign body, s =>
    match s.σ[s.base + site]? with
    | some B =>
      let ver := B.ver + 1
      (match callv (ev E.G s f) [.yld (s.base + site) ver] (s.σ.set (s.base + site) (.loop ver .ready none s.tm s.base ps assign body)) with
       | some (_, σ2) =>
         (match σ2[s.base + site]? with
          | some (.loop v st pend _ _ _ _ _) =>
            chk (v = ver ∧ st ≠ .busy ∧ σ2.length = s.σ.length)
              (match pend with
               | none => some (.normal, { s with σ := σ2.set (s.base + site) (.dead ver) })
               | some c => exec c { s with σ := σ2.set (s.base + site) (.dead ver) })
          | _ => none)
       | none => none)
    | none => none
  | .exit id, s => some (.exit id, s)
  | .ret, s => some (.ret, s)

/-- A round is over. -/
def roundEnd (l v n : Nat) (s : AState) (x : AExit) : Option (AVal × Store) :=
  match s.σ[l]? with
  | some (.loop v' .busy _ tm base ps assign body) =>
    chk (v' = v ∧ s.σ.length = n)
      (match x with
       | .normal => some (abool true, s.σ.set l (.loop v .ready none tm base ps assign body))
       | .ret => some (abool false, s.σ.set l (.loop v .done (some .ret) tm base ps assign body))
       | .exit id => some (abool false, s.σ.set l (.loop v .done (some (.exit id)) tm base ps assign body)))
  | _ => none

/-- No round is handed to a round. -/
def noYld : List AVal → Bool
  | [] => true
  | .yld .. :: _ => false
  | _ :: vs => noYld vs

/-- One level of a call. -/
noncomputable def callF (exec : ACode → AState → Option (AExit × AState)) : AVal → List AVal → Store → Option (AVal × Store)
  | .fn f first cap, args, σ =>
    match E.X f with
    | some g => g (first ++ args ++ cap) σ
    | none =>
      match E.fns f with
      | some A =>
        (match exec A.body { tm := initTm (first ++ args ++ cap), σ := σ ++ List.replicate A.nb (.dead 0), base := σ.length } with
         | some (.normal, s) => (resAll s A.res).bind fun r => finish A.mode σ (resVal r) s.σ
         | some (.ret, s) => (resAll s A.res).bind fun r => finish A.mode σ (resVal r) s.σ
         | _ => none)
      | none => none
  | .yld l ver, args, σ =>
    match σ[l]? with
    | some (.loop v .ready _ tm base ps assign body) =>
      chk (v = ver ∧ ps.length = args.length ∧ noYld args = true)
        (match exec assign { tm := setParams tm ps args, σ := σ, base := base } with
         | some (.normal, s1) =>
           (match s1.σ[l]? with
            | some (.loop v1 .ready pend1 tm1 base1 ps1 assign1 body1) =>
              chk (v1 = v)
                (match exec body { s1 with σ := s1.σ.set l (.loop v .busy pend1 tm1 base1 ps1 assign1 body1) } with
                 | some (x, s2) => roundEnd l v σ.length s2 x
                 | none => none)
            | _ => none)
         | _ => none)
    | _ => none
  | _, _, _ => none

mutual
noncomputable def execN : Nat → ACode → AState → Option (AExit × AState)
  | 0, _, _ => none
  | n + 1, c, s => execF E (execN n) (callN n) c s
noncomputable def callN : Nat → AVal → List AVal → Store → Option (AVal × Store)
  | 0, _, _, _ => none
  | n + 1, v, args, σ => callF E (execN n) v args σ
end

open Classical in
noncomputable def limO {α : Type} (f : Nat → Option α) : Option α := if h : ∃ n r, f n = some r then f h.choose else none

noncomputable def exec (c : ACode) (s : AState) : Option (AExit × AState) := limO fun n => execN E n c s
noncomputable def callv (v : AVal) (args : List AVal) (σ : Store) : Option (AVal × Store) := limO fun n => callN E n v args σ
noncomputable def acall (f : FuncId) (args : List AVal) (σ : Store) : Option (AVal × Store) := callv E (.fn f [] []) args σ
end
end Go.Abs
