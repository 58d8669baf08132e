/- From the model's code to the abstract machine's: types are asked here, once. -/
import Derived.Test.YtmbleldjdhkkeaaFwA
set_option linter.unusedSimpArgs false
set_option linter.unusedVariables false
namespace Go.Abs

def constA : Value → Option AVal
  | .bool b => some (.atom (.bool b))
  | .int k n => some (.atom (.int k n))
  | .string s => some (.atom (.string s))
  | .pointer none => some (.atom (.pointer none))
  | .slice none 0 0 => some (.atom (.slice none 0 0))
  | .map none => some (.atom (.map none))
  | .nilFunc => some (.atom .nilFunc)
  | .nilIface => some (.atom .nilIface)
  | _ => none
def constL : List Value → Option (List AVal)
  | [] => some []
  | v :: vs => match constA v, constL vs with
    | some v, some vs => some (v :: vs)
    | _, _ => none
def constV : Value → Option AVal
  | .agg cs => (constL cs.toList).map .agg
  | .tuple vs => if vs.size = 0 then some (.tup []) else none
  | v => constA v

def compOpd : Operand → Option AOpd
  | .tmp t => some (.t t)
  | .const v => (constV v).map .c
  | .global g => some (.g g)
  | .func f => some (.c (.fn f [] []))
def compOpds : List Operand → Option (List AOpd)
  | [] => some []
  | x :: xs => match compOpd x, compOpds xs with
    | some x, some xs => some (x :: xs)
    | _, _ => none
def compOpdO : Option Operand → Option (Option AOpd)
  | none => some none
  | some x => (compOpd x).map some

section
variable (P : Program)
def tagg (t : TypeId) : Option Bool :=
  match P.underlying t with
  | some (.struct _) | some (.array _ _) => some true
  | some _ => some false
  | none => none
def tsize (t : TypeId) : Option Nat := (P.info? t).map (·.size)
def noTup : AVal → Option AVal
  | .tup _ => none
  | v => some v
def tzero (t : TypeId) : Option AVal := (((P.info? t).bind (·.zero)).bind constV).bind noTup
def tbytes (t : TypeId) : Option Nat := (P.info? t).map (·.bytes)
def telem (t : TypeId) : Option TypeId := match P.underlying t with | some (.slice e) => some e | _ => none
/-- Values of this type are rows of plain ones, of which '==' asks each. -/
def plainT (t : TypeId) : Bool :=
  match P.underlying t with
  | some (.int _) | some .string | some .bool => true
  | _ => false
def flatEq (t : TypeId) : Bool :=
  match P.underlying t with
  | some (.array n e) => plainT P e && (tsize P e == some 1) && (tsize P t == some n)
  | some (.struct fs) => !P.stoodInHeld t && (fs.toList.zipIdx.all fun (f, i) => f.name != "_" && plainT P f.type && f.offset == i && tsize P f.type == some 1) && (tsize P t == some fs.size)
  | _ => false

def fieldOf (t : TypeId) (f : Nat) : Option (Bool × Nat × Nat) :=
  match P.underlying t with
  | some (.struct fs) => match fs[f]? with
    | some x => match tagg P x.type, tsize P x.type with
      | some a, some n => if n = 0 then none else some (a, x.offset, n)
      | _, _ => none
    | none => none
  | _ => none
def partsOf (place : Nat → Option (Nat × Nat)) : List (Nat × Operand) → Option (List (Nat × Nat × AOpd))
  | [] => some []
  | (i, x) :: r => match place i, compOpd x, partsOf place r with
    | some (off, n), some x, some r => some ((off, n, x) :: r)
    | _, _, _ => none
def partsS : List (Nat × Operand) → Option (List (Nat × AOpd))
  | [] => some []
  | (i, x) :: r => match compOpd x, partsS r with
    | some x, some r => some ((i, x) :: r)
    | _, _ => none

def nilKind : TypeDesc → Operand → Option ANil
  | .pointer _, .const (.pointer none) => some .ptr
  | .slice _, .const (.slice none 0 0) => some .sl
  | .map _ _, .const (.map none) => some .map
  | .func .., .const .nilFunc => some .fn
  | .interface _, .const .nilIface => some .ifc
  | _, _ => none

def compBin (op : BinOp) (t : TypeId) (x y : Operand) : Option AOp :=
  match P.underlying t with
  | some (.int _) | some .string =>
    match compOpd x, compOpd y with
    | some x, some y => some (.bin op x y)
    | _, _ => none
  | some .bool =>
    match op, compOpd x, compOpd y with
    | .eql, some x, some y => some (.beq false x y)
    | .neq, some x, some y => some (.beq true x y)
    | _, _, _ => none
  | some (.struct _) | some (.array _ _) =>
    if false && flatEq P t then
      match op, compOpd x, compOpd y with
      | .eql, some x, some y => some (.eqagg false x y)
      | .neq, some x, some y => some (.eqagg true x y)
      | _, _, _ => none
    else none
  | some d =>
    match nilKind d y, op, compOpd x with
    | some k, .eql, some x => some (.isnil k false x)
    | some k, .neq, some x => some (.isnil k true x)
    | _, _, _ => none
  | none => none

/-- not yet shown -/
def later {α : Type} (_ : Option α) : Option α := none

def compConv (s d : TypeId) (site : Nat) (x : Operand) : Option (AOp × Nat) :=
  match P.underlying s, P.underlying d, compOpd x with
  | some (.int _), some (.int k), some x => some (.i2i k x, site)
  | some .string, some .string, some x => some (.s2s x, site)
  | some (.slice e), some .string, some x => (match P.underlying e with | some (.int .u8) => some (.b2s x, site) | _ => none)
  | some (.slice e), some (.slice e'), some x => if s = d ∧ e = e' then later (match P.underlying e with | some (.int .u8) => some (.mks x, site) | _ => none) else none
  | some .string, some (.slice e), some x => match P.underlying e, tsize P e with | some (.int .u8), some 1 => some (.s2b site x, site + 1) | _, _ => none
  | _, _, _ => none

def compOp (app : List (Nat × Nat)) (dst : Option Nat) (site : Nat) : Op → Option (AOp × Nat)
  | .move x => (compOpd x).map fun x => (.mv x, site)
  | .assign x =>
    match x, dst with
    | .const (.slice none 0 0), some d => match app.find? (fun p => p.1 == d) with | some (_, sz) => some (.nown site sz, site + 1) | none => (compOpd x).map fun x => (.mv x, site)
    | _, _ => (compOpd x).map fun x => (.mv x, site)
  | .pick c a b => match compOpd c, compOpd a, compOpd b with
    | some c, some a, some b => some (.pick c a b, site)
    | _, _, _ => none
  | .alloc t => match tzero P t, tsize P t with
    | some z, some n => if z.cells.length = n then some (.alloc site z, site + 1) else none
    | _, _ => none
  | .box _ x => (compOpd x).map fun x => (.box site x, site + 1)
  | .build t ps =>
    match tzero P t, P.underlying t with
    | some (.agg z), some (.struct fs) => if fs.toList.all (fun f => (tsize P f.type).isSome) then (partsOf (fun i => (fieldOf P t i).map (·.2)) ps.toList).map fun ps => (.bld z ps, site) else none
    | some (.agg z), some (.array _ e) => match tsize P e with
      | some n => if n = 0 then none else (partsOf (fun i => some (i * n, n)) ps.toList).map fun ps => (.bld z ps, site)
      | none => none
    | _, _ => none
  | .buildSlice t n ps =>
    match telem P t with
    | some e => match tzero P e, tsize P e, partsS ps.toList with
      | some z, some k, some ps => if z.cells.length = k ∧ 0 < k ∧ n * k ≤ 2 ^ 24 then some (.bsl site z n ps, site + 1) else none
      | _, _, _ => none
    | none => none
  | .load t a => match tagg P t, tsize P t, compOpd a with
    | some g, some n, some a => some (.ld g n a, site)
    | _, _, _ => none
  | .store t a x => match tsize P t, compOpd a, compOpd x with
    | some n, some a, some x => some (.st n a x, site)
    | _, _, _ => none
  | .nilCheck x => (compOpd x).map fun x => (.nilc x, site)
  | .binOp op t x y _ => (compBin P op t x y).map fun o => (o, site)
  | .unOp op _ x => (compOpd x).map fun x => (.un op x, site)
  | .convert s d x => compConv P s d site x
  | .makeInterface t x => match P.underlying t, compOpd x with
    | some (.interface _), _ => none
    | some _, some x => some (.mkif t x, site)
    | _, _ => none
  | .makeFunc (.func f) first cap => match compOpds first.toList, compOpds cap.toList with
    | some a, some b => some (.mkfn f a b, site)
    | _, _ => none
  | .makeSlice t l c =>
    match telem P t with
    | some e => match tzero P e, tsize P e, tbytes P e, compOpd l, compOpd c with
      | some z, some n, some b, some l, some c => if z.cells.length = n ∧ 0 < n then some (.mksl site b z l c, site + 1) else none
      | _, _, _, _, _ => none
    | none => none
  | .slice t x l h m =>
    match telem P t with
    | some e => match tsize P e, compOpd x, compOpdO l, compOpdO h, compOpdO m with
      | some k, some x, some l', some h', some m' =>
        if 0 < k && (m.isNone || h.isSome) then
          match l, h, m with
          | none, some (.const (.int _ 0)), some (.const (.int _ 0)) => some (.slc0 site k x, site + 1)
          | _, _, _ => some (.slc k x l' h' m', site)
        else none
      | _, _, _, _, _ => none
    | none => none
  | .fieldAddr t x f => match fieldOf P t f, compOpd x with
    | some (_, off, _), some x => some (.fa off x, site)
    | _, _ => none
  | .field t x f => match fieldOf P t f, compOpd x with
    | some (g, off, n), some x => some (.fld g off n x, site)
    | _, _ => none
  | .indexAddr t x i =>
    match P.underlying t, compOpd x, compOpd i with
    | some (.slice e), some x, some i => (match tsize P e with | some k => if 0 < k then some (.ia k x i, site) else none | _ => none)
    | some (.array n e), some x, some i => (match tsize P e with | some k => if k = 0 then none else some (.iaa n k x i, site) | none => none)
    | _, _, _ => none
  | .index t x i =>
    match P.underlying t, compOpd x, compOpd i with
    | some (.array n e), some x, some i => (match tagg P e, tsize P e with | some g, some k => if k = 0 then none else some (.ixa g n k x i, site) | _, _ => none)
    | _, _, _ => none
  | .lookup t m k ok =>
    match P.underlying t with
    | some (.map kt e) =>
      if false && (plainT P kt || flatEq P kt) then
        match tzero P e, compOpd m, compOpd k with
        | some z, some m, some k => some (.lookup z ok m k, site)
        | _, _, _ => none
      else none
    | _ => none
  | .mapUpdate t m k v | .insert t m k v =>
    match P.underlying t with
    | some (.map kt _) =>
      if false && (plainT P kt || flatEq P kt) then
        match compOpd m, compOpd k, compOpd v with
        | some m, some k, some v => some (.mapupd m k v, site)
        | _, _, _ => none
      else none
    | _ => none
  | .extract x i => (compOpd x).map fun x => (.ext x i, site)
  | .call { callee := .builtin .len, args, argTypes } =>
    match args.toList, argTypes[0]? with
    | [x], some t => (match P.underlying t, compOpd x with
      | some (.slice _), some x => some (.len x, site)
      | some .string, some x => some (.lenS x, site)
      | _, _ => none)
    | _, _ => none
  | .call { callee := .builtin .min, args, .. } => (compOpds args.toList).map fun xs => (.min xs, site)
  | .call { callee := .builtin .max, args, .. } => (compOpds args.toList).map fun xs => (.max xs, site)
  | .call { callee := .builtin .append, args, argTypes } =>
    match args.toList, argTypes.toList with
    | [x, y], [t, u] => (match telem P t, P.underlying u, compOpd x, compOpd y with
      | some e, some (.slice _), some x, some y | some e, some .string, some x, some y =>
        (match tsize P e, tbytes P e, tzero P e with | some k, some b, some z => if 0 < k ∧ 0 < b ∧ z.cells.length = k then some (.app site b k x y, site + 1) else none | _, _, _ => none)
      | _, _, _, _ => none)
    | _, _ => none
  | .call { callee := .value f, args, .. } => match compOpd f, compOpds args.toList with
    | some f, some args => some (.call site f args, site + 1)
    | _, _ => none
  | _ => none

/-- What comes ahead of each operation. -/
def befs : List Oper → List Nat → List Nat
  | [], acc => acc
  | o :: r, acc => befs r (acc ++ [o.after.toList.foldl (fun s e => if Region.binds .any e then s ||| 2 ^ e.on ||| acc.getD e.on 0 else s) 0])

def compOps (app : List (Nat × Nat)) (all : List Oper) : List Oper → Nat → Option (List AOper × Nat)
  | [], site => some ([], site)
  | o :: r, site =>
    match compOp P app o.dst site o.op with
    | some (a, site') =>
      (match (match o.guard with
        | none => some none
        | some (j, want) => (match (all[j]?).bind (·.dst) with | some d => some (some (d, want)) | none => none)) with
       | some g => (compOps app all r site').map fun p => ({ dst := o.dst, op := a, guard := g } :: p.1, p.2)
       | none => none)
    | none => none

def opdTmp : AOpd → List Nat
  | .t n => [n]
  | _ => []
def opdTmpO : Option AOpd → List Nat
  | some x => opdTmp x
  | none => []
/-- The slots that an operation reads. -/
def AOp.reads : AOp → List Nat
  | .mv x | .ld _ _ x | .nilc x | .isnil _ _ x | .un _ x | .i2i _ x | .b2s x | .slc0 _ _ x | .s2b _ x | .mks x | .fld _ _ _ x | .fa _ x | .ext x _ | .mkif _ x | .s2s x | .len x | .lenS x | .box _ x => opdTmp x
  | .pick a b c => opdTmp a ++ opdTmp b ++ opdTmp c
  | .bin _ x y | .beq _ x y | .eqagg _ x y | .ia _ x y | .iaa _ _ x y | .ixa _ _ _ x y | .lookup _ _ x y | .mksl _ _ _ x y | .st _ x y | .app _ _ _ x y => opdTmp x ++ opdTmp y
  | .slc _ x l h m => opdTmp x ++ opdTmpO l ++ opdTmpO h ++ opdTmpO m
  | .bld _ ps => ps.flatMap fun p => opdTmp p.2.2
  | .mkfn _ a b => a.flatMap opdTmp ++ b.flatMap opdTmp
  | .min xs | .max xs => xs.flatMap opdTmp
  | .alloc .. | .nown .. | .mkmap .. => []
  | .bsl _ _ _ ps => ps.flatMap fun p => opdTmp p.2
  | .mapupd a b c => opdTmp a ++ opdTmp b ++ opdTmp c
  | .call _ f args => opdTmp f ++ args.flatMap opdTmp
def AOper.sees (o : AOper) : List Nat := o.op.reads ++ (match o.guard with | some (t, _) => [t] | none => [])
/-- The place of its own that it lays anew. -/
def AOp.site? : AOp → Option Nat
  | .slc0 k _ _ | .s2b k _ | .alloc k _ | .box k _ | .nown k _ | .mksl k .. | .mkmap k => some k
  | .bsl k _ _ [] => some k
  | _ => none
/-- Can it read a box? -/
def AOp.canRead : AOp → Bool
  | .ld .. | .b2s .. | .lookup .. => true
  | _ => false
/-- May it change what others read? ('wr': which functions may) -/
def AOp.loud (wr : FuncId → Bool) : AOp → Bool
  | .call _ (.c (.fn f _ _)) _ => wr f
  | .call .. | .mks _ => false
  | _ => true
/-- Two operations of which the order says nothing: nothing that one writes is seen by the other; one of the two changes nothing. -/
def apartA (x y : AOper) : Bool :=
  (match x.dst with | some d => !(y.sees).contains d && y.dst != some d | none => true) &&
  (match y.dst with | some d => !(x.sees).contains d | none => true) &&
  (x.op.isE || y.op.isE)
/-- What a pair of operations asks, if nothing orders them: (e: the one that reads; c: the one that changes) -/
def pairOk (e c : AOper) : Bool :=
  if c.op.isE || !e.op.canRead then true else
  match c.op.site? with
  | some k => e.av.contains k
  | none => e.fl || (c.fl && (match c.op with | .call k _ _ => e.av.contains k | _ => true))
def distinctB : List Nat → Bool
  | [] => true
  | x :: xs => !xs.contains x && distinctB xs
def drawOk (ops : List AOper) (bs : List Nat) : Bool :=
  distinctB (ops.filterMap (·.dst)) && (ops.zip bs).zipIdx.all fun (y, j) => decide (y.2 < 2 ^ j) && ((ops.zip bs).take j).zipIdx.all fun (x, i) => y.2.testBit i || (apartA x.1 y.1 && (if x.1.op.isE then pairOk x.1 y.1 else pairOk y.1 x.1))
/-- The flags of a region that draws its order. -/
def flagsOf (wr : FuncId → Bool) (ops : List AOper) (bs : List Nat) : List AOper :=
  let all := (ops.zip bs).zipIdx
  all.map fun (y, j) =>
    let open_ := all.filter fun (x, i) => i != j && !(y.2.testBit i) && !(x.2.testBit j)
    if y.1.op.isE then if !y.1.op.canRead then y.1 else
      { y.1 with fl := open_.any fun (x, _) => !x.1.op.isE && (x.1.op.site?).isNone && x.1.op.loud wr,
                 av := open_.filterMap fun (x, _) => match x.1.op with | .call k _ _ => if x.1.op.loud wr then none else some k | o => o.site? }
    else { y.1 with fl := (y.1.op.site?).isNone && !y.1.op.loud wr && (open_.any fun (x, _) => x.1.op.canRead) }

/-- Those of the second halves set apart; what is left. -/
def groupG : Nat → List (Option (Nat × Bool)) → Option (Nat × Bool) → List AOper → Option (GOps × List AOper)
  | 0, _, _, _ => none
  | _ + 1, _, _, [] => some (.nil, [])
  | n + 1, up, g, o :: r =>
    if o.guard = g then
      (groupG n up g r).map fun p => (.one o.dst o.op o.fl o.av p.1, p.2)
    else if up.contains o.guard then some (.nil, o :: r)
    else
      match o.guard with
      | none => none
      | some (g', w) =>
        match groupG n (g :: up) (some (g', w)) (o :: r) with
        | some (sub, ⟨some d, .pick (.t c) x y, pg, false, []⟩ :: r') =>
          if c = g' ∧ pg = g then
            (match bndG sub with
             | some (lo, hi) => (groupG n up g r').map fun p => (.sc d lo hi g' w sub x y p.1, p.2)
             | none => none)
          else none
        | _ => none
where
  /-- the slots that are written -/
  bndG : GOps → Option (Nat × Nat)
    | .nil => none
    | .one (some d) _ _ _ r => match bndG r with | some (lo, hi) => some (Nat.min d lo, Nat.max (d + 1) hi) | none => some (d, d + 1)
    | .one none _ _ _ r => bndG r
    | .sc d lo hi _ _ _ _ _ r => match bndG r with | some (lo', hi') => some (Nat.min (Nat.min d lo) lo', Nat.max (Nat.max (d + 1) hi) hi') | none => some (Nat.min d lo, Nat.max (d + 1) hi)

/-- The operations in a row. -/
def flatG (g : Option (Nat × Bool)) : GOps → List AOper
  | .nil => []
  | .one d op fl av r => ⟨d, op, g, fl, av⟩ :: flatG g r
  | .sc d _ _ c w sub x y r => flatG (some (c, w)) sub ++ (⟨some d, .pick (.t c) x y, g, false, []⟩ :: flatG g r)

/-- Slots from lo to hi are not seen, nor written. -/
def offO (lo hi : Nat) (l : List Nat) : Bool := l.all fun t => decide (t < lo ∨ hi ≤ t)
def offG (lo hi : Nat) : GOps → Bool
  | .nil => true
  | .one d op _ _ r => offO lo hi op.reads && offO lo hi d.toList && offG lo hi r
  | .sc d _ _ c _ sub x y r => offO lo hi (opdTmp x ++ opdTmp y ++ [d, c]) && offG lo hi sub && offG lo hi r
/-- What is written lies from lo on, below hi. -/
def inG (lo hi : Nat) : GOps → Bool
  | .nil => true
  | .one d _ _ _ r => (d.toList.all fun t => decide (lo ≤ t ∧ t < hi)) && inG lo hi r
  | .sc d lo' hi' _ _ sub _ _ r => decide (lo ≤ d ∧ d < hi ∧ lo ≤ lo' ∧ hi' ≤ hi) && inG lo hi sub && inG lo hi r
/-- If the guard is not met: all inside are not met either. -/
def shutG : List Nat → GOps → Bool
  | _, .nil => true
  | ds, .one d _ _ _ r => shutG (d.toList ++ ds) r
  | ds, .sc d _ _ c _ sub _ _ r => ds.contains c && shutG ds sub && shutG (d :: ds) r
def ints : GOps → List (Nat × Nat)
  | .nil => []
  | .one _ _ _ _ r => ints r
  | .sc _ lo hi _ _ _ _ _ r => (lo, hi) :: ints r
/-- What the second halves write is seen by nobody else. -/
def okG : GOps → Bool
  | .nil => true
  | .one _ _ _ _ r => okG r
  | .sc d lo hi c w sub x y r => okG sub && okG r && inG lo hi sub && offG lo hi r && offO lo hi (opdTmp (if w then y else x) ++ [d, c]) && shutG [] sub && ((ints sub).all fun p => offO p.1 p.2 (opdTmp (if w then x else y)))

/-- The slots that hold slices which are appended to. -/
def appSlots : Code → List (Nat × Nat)
  | .region _ ops _ =>
    let apps := ops.toList.filterMap fun o => match o.op with | .call { callee := .builtin .append, argTypes, .. } => (match o.dst, ((argTypes[0]?).bind (telem P)).bind (tsize P) with | some d, some k => if 0 < k then some (d, k) else none | _, _ => none) | _ => none
    ops.toList.filterMap fun o => match o.op with | .assign (.tmp t) => (match apps.find? (fun p => p.1 == t), o.dst with | some (_, k), some d => some (d, k) | _, _ => none) | _ => none
  | .seq a b | .cond _ a b | .rangeFunc _ _ a b => appSlots a ++ appSlots b
  | .block _ a | .loop a | .scope a => appSlots a
  | _ => []

/-- Are drawn orders shown? -/
def drawReady : Bool := true

variable (wr : FuncId → Bool)
def compCode (app : List (Nat × Nat)) : Code → Nat → Option (ACode × Nat)
  | .skip, n => some (.skip, n)
  | .region _ ops draw, n =>
    match compOps P app ops.toList ops.toList n with
    | some (os, n') =>
      let bs := if draw then befs ops.toList [] else []
      let os := if draw then flagsOf wr os bs else os
      if !draw || (drawReady && drawOk os bs) then
        match groupG (2 * os.length + 1) [] none os with
        | some (gs, []) => if okG gs then some (.region gs, n') else none
        | _ => none
      else none
    | none => none
  | .seq a b, n => match compCode app a n with
    | some (a, n) => (match compCode app b n with | some (b, n) => some (.seq a b, n) | none => none)
    | none => none
  | .cond c a b, n => match compOpd c, compCode app a n with
    | some c, some (a, n) => (match compCode app b n with | some (b, n) => some (.cond c a b, n) | none => none)
    | _, _ => none
  | .block id a, n => (compCode app a n).map fun p => (.block id p.1, p.2)
  | .loop a, n => (compCode app a n).map fun p => (.loop p.1, p.2)
  | .rangeFunc f ps a b, n => match compOpd f, compCode app a (n + 1) with
    | some f, some (a, m) => (match compCode app b m with | some (b, m) => some (.rangeFunc n f ps.toList a b, m) | none => none)
    | _, _ => none
  | .exit id, n => some (.exit id, n)
  | .ret, n => some (.ret, n)
  | _, _ => none

def compRes : List ResultVar → Option (List ARes)
  | [] => some []
  | .tmp t :: r => (compRes r).map (.tmp t :: ·)
  | .cell a t :: r => match tagg P t, tsize P t, compRes r with
    | some g, some n, some r => some (.cell a g n :: r)
    | _, _, _ => none

/-- Every slot that is written is one of the frame's. -/
def dstsOk (nt : Nat) : Code → Bool
  | .region _ ops _ => ops.toList.all fun o => match o.dst with | some d => decide (d < nt) | none => true
  | .seq a b | .cond _ a b => dstsOk nt a && dstsOk nt b
  | .rangeFunc _ ps a b => ps.toList.all (fun d => decide (d < nt)) && dstsOk nt a && dstsOk nt b
  | .block _ a | .loop a | .scope a => dstsOk nt a
  | _ => true

def compFn (mode : FuncId → AMode) (f : FuncId) : Option AFun :=
  match P.funcs[f]? with
  | some fn =>
    match fn.body, compRes P fn.results.toList with
    | some c, some rs =>
      if dstsOk fn.ntmps c && fn.name != "runtime.NumGoroutine" then
        (match compCode P wr (appSlots P c) c 0 with
         | some (a, n) => some { body := a, res := rs, nb := n, mode := mode f }
         | none => none)
      else none
    | _, _ => none
  | none => none
end
end Go.Abs
