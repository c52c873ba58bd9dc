/- The abstract code and its interpreter. -/
import Derived.Test.YtpebcbnkalkikaaVsMem
namespace Go.VS

inductive Ref where
  | v (i : Nat)
  | t (x : Nat)
  | c (a : AV)
  deriving Inhabited

/-- Where a result goes: a variable (m: it may be written in place), a temporary. -/
inductive Dst where
  | v (i : Nat) (m : Bool)
  | t (x : Nat)
  | n
  deriving Inhabited

inductive AOp where
  | mv (d : Dst) (x : Ref)
  | take (i : Nat) (m : Bool) (x : Nat)
  | pick (d : Dst) (c a b : Ref)
  | bin (d : Dst) (op : BinOp) (x y : Ref)
  | eqv (d : Dst) (neg : Bool) (x y : Ref)
  | niq (d : Dst) (neg : Bool) (x : Ref)
  | un (d : Dst) (op : UnOp) (x : Ref)
  | mnx (d : Dst) (mx : Bool) (x y : Ref)
  | len (d : Dst) (str : Bool) (x : Ref)
  | idx (d : Dst) (x i : Ref)
  | iad (d : Dst) (s : Nat) (x i : Ref)
  | iada (d : Dst) (n s : Nat) (x i : Ref)
  | fad (d : Dst) (off : Nat) (x : Ref)
  | fld (d : Dst) (off : Nat) (sz : Option Nat) (x : Ref)
  | ld (d : Dst) (sz : Option Nat) (x : Ref)
  | sto (sz : Option Nat) (x v : Ref)
  | slc (d : Dst) (str : Bool) (s : Nat) (x : Ref) (lo hi : Option Ref)
  | mks (d : Dst) (zero : AV) (s eb : Nat) (n : Ref)
  | lit (d : Dst) (s : Nat) (parts : List Ref)
  | bld (d : Dst) (zero : List AV) (parts : List (Nat × Nat × Ref))
  | alo (i : Nat) (zero : List AV)
  | box (i : Nat) (x : Ref)
  | app (d : Dst) (s eb : Nat) (x y : Ref)
  | cvi (d : Dst) (k : IntKind) (x : Ref)
  | b2s (d : Dst) (x : Ref)
  | s2b (d : Dst) (x : Ref)
  | call (d : Dst) (f : FuncId) (args : List Ref)
  | callo (d : Dst) (f : FuncId) (x : Ref)
  | callr (d : Dst) (f : FuncId) (args : List Ref)
  | callv (d : Dst) (f : Ref) (args : List Ref)
  | ext (d : Dst) (x k : Nat)
  | mkf (d : Dst) (f : FuncId) (caps : List Ref)
  | mkq (d : Dst) (f : FuncId) (i : Nat)
  | nck (d : Dst) (x : Ref)
  | g (x : Ref) (want : Bool) (ds : List Dst) (op : AOp)
  deriving Inhabited

inductive AC where
  | skip
  | frz (i : Nat) (c : AC)
  | ops (dr : Bool) (l : List AOp)
  | ite (c : Ref) (a b : AC)
  | seq (a b : AC)
  | block (id : Nat) (c : AC)
  | loop (kill : List Nat) (c : AC)
  | sc (kill : List Nat) (c : AC)
  | scope (kill : List Nat) (c cur : AC)
  | label (l : Nat)
  | goto (l : Nat)
  | exit (id : Nat)
  | ret
  deriving Inhabited

inductive Out where
  | norm
  | exit (id : Nat)
  | goto (l : Nat)
  | ret
  deriving DecidableEq, Inhabited

/-- What a function answers: a variable's value, or what lies in its box. -/
inductive ARes where
  | v (i : Nat)
  | cell (i : Nat) (sz : Option Nat)
  deriving Inhabited

structure AFunc where
  slots : List Nat
  n : Nat
  body : AC
  res : List ARes
  deriving Inhabited

abbrev CallSem := FuncId → List AV → List Obj → Option (AV × List Obj)

inductive AFn where
  | code (f : AFunc)
  | prim (f : List AV → List Obj → Option (AV × List Obj))

/-! ### reading -/
def cellsOf : AV → List AV
  | .agg cs => cs
  | v => [v]

def view (i : Nat) : AV → AV
  | .sl (.own m) s xs => .sl (.of i 0 0 m) s xs
  | .lbox _ => .lptr i 0
  | v => v

def rd (st : St) : Ref → AV
  | .v i => view i (st.vars.getD i .undef)
  | .t x => look x st.tmps
  | .c a => a

def unr (i : Nat) : AV → AV
  | .sl (.of j off vo m) s xs => if j = i then (if m then .undef else .sl .none s xs) else .sl (.of j off vo m) s xs
  | .eptr (.of j off vo m) s xs k o => if j = i then (if m then .undef else .eptr .none s xs k o) else .eptr (.of j off vo m) s xs k o
  | .lptr j off => if j = i then .undef else .lptr j off
  | v => v

def unref (i : Nat) : List (Nat × AV) → List (Nat × AV)
  | [] => []
  | (x, v) :: r => (x, unr i v) :: unref i r

def setV (st : St) (i : Nat) (av : AV) : St := { st with vars := st.vars.set i av, tmps := unref i st.tmps }

/-- Values that own nothing and point to no variable. -/
def plain : AV → Bool
  | .sl .none _ _ | .sl .full _ _ => true
  | .sl _ _ _ => false
  | .eptr .none _ _ _ _ => true
  | .eptr _ _ _ _ _ => false
  | .lptr _ _ | .lbox _ | .tup _ | .undef => false
  | _ => true

def put (st : St) : Dst → AV → Option St
  | .t x, av => some { st with tmps := (x, av) :: st.tmps }
  | .n, _ => some st
  | .v i m, .sl (.own m') s xs => some (setV st i (.sl (.own (m && m')) s xs))
  | .v i _, .sl (.of _ _ _ m') s xs => if m' then none else some (setV st i (.sl .none s xs))
  | .v i _, .sl (.ofg _ _ _ m') s xs => if m' then none else some (setV st i (.sl .none s xs))
  | .v i m, .sl .full s [] => some (setV st i (.sl (.own m) s []))
  | .v i _, .undef => some (setV st i .undef)
  | .v i _, av => if plain av then some (setV st i av) else none

def kill (st : St) (x : Nat) (av : AV) : St := { st with tmps := (x, av) :: st.tmps }

/-- An operand that is handed on: its value as one that stays; a temporary's own array stays from now on. -/
def pers (st : St) : Ref → Option (AV × St)
  | .t x => match look x st.tmps with
    | .sl (.own _) s xs => some (.sl .none s xs, kill st x (.sl .none s xs))
    | .sl (.of _ _ _ m) s xs => if m then none else some (.sl .none s xs, st)
    | .sl (.ofg _ _ _ m) s xs => if m then none else some (.sl .none s xs, st)
    | av => if plain av then some (av, st) else none
  | r => match rd st r with
    | .sl (.of _ _ _ m) s xs => if m then none else some (.sl .none s xs, st)
    | av => if plain av then some (av, st) else none

def persL (st : St) : List Ref → Option (List AV × St)
  | [] => some ([], st)
  | r :: rs => match pers st r with
    | some (a, st') => match persL st' rs with
      | some (as, st'') => some (a :: as, st'')
      | none => none
    | none => none

/-- What is read of the objects' arrays is gone once an object may have changed. -/
def unG : List (Nat × AV) → List (Nat × AV)
  | [] => []
  | (x, v) :: r => (x, match v with | .sl (.ofg _ _ _ _) _ _ => .undef | .eptr (.ofg _ _ _ _) _ _ _ _ => .undef | v => v) :: unG r

/-! ### scalars -/
def bitsOp (k : IntKind) (f : BitVec k.bits → BitVec k.bits → BitVec k.bits) (x y : Int) : Int :=
  k.wrap (f (BitVec.ofInt k.bits x) (BitVec.ofInt k.bits y)).toNat

def intBin (op : BinOp) (k : IntKind) (x y : Int) : Option AV :=
  match op with
  | .add => some (.int k (k.wrap (x + y)))
  | .sub => some (.int k (k.wrap (x - y)))
  | .mul => some (.int k (k.wrap (x * y)))
  | .quo => if y = 0 then none else some (.int k (k.wrap (x.tdiv y)))
  | .rem => if y = 0 then none else some (.int k (x.tmod y))
  | .and => some (.int k (bitsOp k (· &&& ·) x y))
  | .or => some (.int k (bitsOp k (· ||| ·) x y))
  | .xor => some (.int k (bitsOp k (· ^^^ ·) x y))
  | .andNot => some (.int k (bitsOp k (fun a b => a &&& ~~~b) x y))
  | .eql => some (.bool (x == y))
  | .neq => some (.bool (x != y))
  | .lss => some (.bool (decide (x < y)))
  | .leq => some (.bool (decide (x ≤ y)))
  | .gtr => some (.bool (decide (x > y)))
  | .geq => some (.bool (decide (x ≥ y)))
  | _ => none

def intShift (op : BinOp) (k : IntKind) (x y : Int) : Option AV :=
  if y < 0 then none else
    match op with
    | .shl => some (.int k (k.wrap (x * 2 ^ min y.toNat k.bits)))
    | .shr => some (.int k (x.fdiv (2 ^ min y.toNat k.bits)))
    | _ => none

def strBin (op : BinOp) (x y : List UInt8) : Option AV :=
  match op with
  | .add => if x.length + y.length ≤ 2147483648 then some (.str (x ++ y)) else none
  | .eql => some (.bool (x == y))
  | .neq => some (.bool (!(x == y)))
  | .lss => some (.bool (Op.bytesLess x y))
  | .leq => some (.bool (Op.bytesLess x y || x == y))
  | .gtr => some (.bool (!(Op.bytesLess x y || x == y)))
  | .geq => some (.bool (!Op.bytesLess x y))
  | _ => none

def isShift : BinOp → Bool
  | .shl | .shr => true
  | _ => false

def binop (op : BinOp) : AV → AV → Option AV
  | .int k x, .int k' y => if isShift op then intShift op k x y else if k = k' then intBin op k x y else none
  | .str x, .str y => strBin op x y
  | _, _ => none

def unop (op : UnOp) : AV → Option AV
  | .bool b => match op with | .not => some (.bool !b) | _ => none
  | .int k n => match op with
    | .neg => some (.int k (k.wrap (0 - n)))
    | .xor => some (.int k (bitsOp k (· ^^^ ·) (if k.signed then -1 else k.max) n))
    | _ => none
  | _ => none

def decByte : AV → Option UInt8
  | .int .u8 n => some (UInt8.ofNat n.toNat)
  | _ => none

def decBytes : List AV → Option (List UInt8)
  | [] => some []
  | x :: xs => match decByte x, decBytes xs with
    | some b, some r => some (b :: r)
    | _, _ => none

def encByte (b : UInt8) : AV := .int .u8 b.toNat

def toIdx : AV → Option Int
  | .int _ n => some n
  | _ => none

/-- A part of an element's cells. -/
def partOf : AV → Nat → Option Nat → Option AV
  | .undef, _, _ => none
  | x, off, none => match (cellsOf x)[off]? with
    | some c => if oneCell c then some c else none
    | none => none
  | x, off, some n => if off + n ≤ (cellsOf x).length then some (.agg (((cellsOf x).drop off).take n)) else none

/-- What was read of a box's cell. -/
def cellView (i k : Nat) : AV → AV
  | .sl (.own m) s xs => .sl (.of i (k + 1) 0 m) s xs
  | v => v

/-- A cell's value in a struct that is read whole. -/
def cellWhole : AV → Option AV
  | .sl (.own m) s xs => if m then none else some (.sl .none s xs)
  | v => if plain v && oneCell v then some v else none

def wholes : List AV → Option (List AV)
  | [] => some []
  | c :: cs => match cellWhole c, wholes cs with
    | some a, some r => some (a :: r)
    | _, _ => none

/-- How a value stands in a box's cell. -/
def intoCell : AV → AV
  | .sl .full s [] => .sl (.own false) s []
  | v => v

def setCells (cs : List AV) (off : Nat) : List AV → List AV
  | [] => cs
  | v :: vs => setCells (cs.set off (intoCell v)) (off + 1) vs

def lim : Nat := 2147483648

section
variable (CS : CallSem) (RP : FuncId → Option (List AV → Option AV))

/-- The elements that an append puts behind. -/
def elemsOf (s : Nat) : AV → Option (List AV)
  | .sl _ s' ys => if s' = s then some ys else none
  | .str l => if s = 1 then some (l.map encByte) else none
  | _ => none

/-- Who owned an array owns it no more. -/
def disown (st : St) (i off : Nat) (m : Bool) (s : Nat) (xs : List AV) : Option St :=
  match off with
  | 0 => some (setV st i (if m then .undef else .sl .none s xs))
  | k + 1 => match st.vars[i]? with
    | some (.lbox cs) => some (setV st i (.lbox (cs.set k (if m then .undef else .sl .none s xs))))
    | _ => none

def ownerLen (st : St) (i off : Nat) : Nat :=
  match off with
  | 0 => match st.vars[i]? with
    | some (.sl (.own _) _ ys) => ys.length
    | _ => 0
  | k + 1 => match st.vars[i]? with
    | some (.lbox cs) => match cs[k]? with
      | some (.sl (.own _) _ ys) => ys.length
      | _ => 0
    | _ => 0

/-- An operand whose array is given away. -/
def give (st : St) (r : Ref) : Option (AV × St) :=
  match rd st r, r with
  | .sl (.own m) s xs, .t x => some (.sl (.own m) s xs, kill st x .undef)
  | .sl .full s [], _ => some (.sl (.own true) s [], st)
  | .sl (.of j off vo m) s xs, _ => if vo = 0 then (if xs.length = ownerLen st j off then (match disown st j off m s xs with
    | some st' => some (.sl (.own m) s xs, st')
    | none => none) else none) else none
  | _, _ => none

def runApp (st : St) (d : Dst) (s eb : Nat) (x y : Ref) : Option St :=
  match elemsOf s (rd st y) with
  | none => none
  | some ys =>
    if eb ≤ 4096 then
      match rd st x, x with
      | .sl .full s' [], _ => if s' = s then (if ys.length ≤ lim then put st d (.sl (.own true) s ys) else none) else none
      | .sl (.own m) s' xs, .t t => if s' = s then (if xs.length + ys.length ≤ lim then put (kill st t .undef) d (.sl (.own m) s (xs ++ ys)) else none) else none
      | .sl (.of i off vo m) s' xs, _ =>
        if s' = s then
          if vo = 0 then
            if xs.length = ownerLen st i off then
              if xs.length + ys.length ≤ lim then
                match disown st i off m s xs with
                | some st' => put st' d (.sl (.own m) s (xs ++ ys))
                | none => none
              else none
            else none
          else none
        else none
      | _, _ => none
    else none

def runLd (st : St) (d : Dst) (sz : Option Nat) (x : Ref) : Option St :=
  match rd st x with
  | .eptr _ _ xs i off => match xs[i]? with
    | some e => match partOf e off sz with
      | some v => put st d v
      | none => none
    | none => none
  | .lptr i off => match st.vars[i]? with
    | some (.lbox cs) => match sz with
      | none => match cs[off]? with
        | some c => put st d (cellView i off c)
        | none => none
      | some n => if off + n ≤ cs.length then
          match wholes ((cs.drop off).take n) with
          | some l => put st d (.agg l)
          | none => none
        else none
    | _ => none
  | _ => none

def stoCell (st : St) (i off : Nat) (c : AV) : Option St :=
  match st.vars[i]? with
  | some (.lbox cs) => if off < cs.length then (if oneCell c then some (setV st i (.lbox (cs.set off c))) else none) else none
  | _ => none

def setElem (e : AV) (off : Nat) (a : AV) : Option AV :=
  match e with
  | .undef => none
  | .agg cs => if off < cs.length then some (.agg (cs.set off a)) else none
  | _ => if off = 0 then some a else none

def runSto (st : St) (sz : Option Nat) (x v : Ref) : Option St :=
  match rd st x with
  | .lptr i off => match sz with
    | none => match v with
      | .t t => match look t st.tmps with
        | .sl (.own _) s xs => stoCell (kill st t .undef) i off (.sl (.own false) s xs)
        | _ => match pers st v with
          | some (a, st') => stoCell st' i off (intoCell a)
          | none => none
      | _ => match pers st v with
        | some (a, st') => stoCell st' i off (intoCell a)
        | none => none
    | some n => match pers st v with
      | some (.agg l, st') => match st'.vars[i]? with
        | some (.lbox cs) => if l.length = n then (if off + n ≤ cs.length then some (setV st' i (.lbox (setCells cs off l))) else none) else none
        | _ => none
      | _ => none
  | .eptr (.of i 0 vo true) s _ j off => match sz, pers st v with
    | none, some (a, st') => match st'.vars[i]? with
      | some (.sl (.own true) s' ys) =>
        if s' = s then
          if oneCell a then
            match ys[vo + j]? with
            | some e => match setElem e off a with
              | some e' => some (setV st' i (.sl (.own true) s (ys.set (vo + j) e')))
              | none => none
            | none => none
          else none
        else none
      | _ => none
    | _, _ => none
  | _ => none

def optIdx (st : St) : Option Ref → Option (Option Nat)
  | none => some none
  | some r => match rd st r with
    | .int _ n => if 0 ≤ n then some (some n.toNat) else none
    | _ => none

def freezeT (st : St) : Ref → St
  | .t x => match look x st.tmps with
    | .sl (.own _) s xs => kill st x (.sl .none s xs)
    | _ => st
  | _ => st

def runSlc (st : St) (d : Dst) (str : Bool) (s : Nat) (x : Ref) (lo hi : Option Ref) : Option St :=
  match optIdx st lo, optIdx st hi with
  | some lo, some hi =>
    match str, rd st x with
    | true, .str l =>
      if lo.getD 0 ≤ hi.getD l.length then
        (if hi.getD l.length ≤ l.length then put st d (.str ((l.drop (lo.getD 0)).take (hi.getD l.length - lo.getD 0))) else none)
      else none
    | false, .sl o s' xs =>
      if s' = s then
      if lo.getD 0 ≤ hi.getD xs.length then
        (if hi.getD xs.length ≤ xs.length then
          (let ys := (xs.drop (lo.getD 0)).take (hi.getD xs.length - lo.getD 0)
           match o with
           | .of i off vo m => put st d (.sl (.of i off (vo + lo.getD 0) m) s ys)
           | .ofg _ _ _ _ => none
           | _ => put (freezeT st x) d (.sl .none s ys))
        else none)
      else none
      else none
    | _, _ => none
  | _, _ => none

def setPart (cs : List AV) (off sz : Nat) (a : AV) : Option (List AV) :=
  if (cellsOf a).length = sz then (if off + sz ≤ cs.length then some (cs.take off ++ cellsOf a ++ cs.drop (off + sz)) else none) else none

def buildCells (st : St) (cs : List AV) : List (Nat × Nat × Ref) → Option (List AV × St)
  | [] => some (cs, st)
  | (off, sz, r) :: ps => match pers st r with
    | some (a, st') => match setPart cs off sz a with
      | some cs' => buildCells st' cs' ps
      | none => none
    | none => none

def elemOk (s : Nat) (a : AV) : Bool := (cellsOf a).length == s

/-- What a skipped operation leaves. -/
def skipV : Dst → AV
  | .t _ => .tup []
  | _ => .undef

def skipD (st : St) (ds : List Dst) : Option St := ds.foldl (fun st d => st.bind fun st => put st d (skipV d)) (some st)

/-- The results of a call, as a temporary has them. -/
def runOp (st : St) : AOp → Option St
  | .mv d x => match x with
    | .t y => match look y st.tmps with
      | .sl (.own m) s xs => put (kill st y .undef) d (.sl (.own m) s xs)
      | .tup vs => put (kill st y .undef) d (.tup vs)
      | v => put st d v
    | _ => put st d (rd st x)
  | .take i m x => match look x st.tmps with
    | .sl (.of j 0 0 m') s xs =>
      if xs.length = ownerLen st j 0 then
        (match disown st j 0 m' s xs with
         | some st' => put st' (.v i m) (.sl (.own m') s xs)
         | none => none)
      else none
    | .sl (.own m') s xs => put (kill st x .undef) (.v i m) (.sl (.own m') s xs)
    | .tup _ => none
    | v => put st (.v i m) v
  | .pick d c a b => match rd st c with
    | .bool t => if t then (match pers st a with | some (v, st') => put st' d v | none => none)
                 else (match pers st b with | some (v, st') => put st' d v | none => none)
    | _ => none
  | .bin d op x y => match binop op (rd st x) (rd st y) with
    | some v => put st d v
    | none => none
  | .eqv d neg x y => match rd st x, rd st y with
    | .bool a, .bool b => put st d (.bool (if neg then !(a == b) else a == b))
    | _, _ => none
  | .niq d neg x => match rd st x with
    | .sl _ _ (_ :: _) => put st d (.bool neg)
    | _ => none
  | .mnx d mx x y => match rd st x, rd st y with
    | .int k a, .int k' b => if k = k' then put st d (.int k (if mx then (if b > a then b else a) else (if b < a then b else a))) else none
    | _, _ => none
  | .un d op x => match unop op (rd st x) with
    | some v => put st d v
    | none => none
  | .len d str x => match str, rd st x with
    | true, .str l => put st d (.int .i64 l.length)
    | false, .sl _ _ xs => put st d (.int .i64 xs.length)
    | _, _ => none
  | .idx d x i => match rd st x, rd st i with
    | .str l, .int _ n => if 0 ≤ n then (match l[n.toNat]? with | some b => put st d (encByte b) | none => none) else none
    | _, _ => none
  | .iad d s x i => match rd st x, rd st i with
    | .sl o s' xs, .int _ n =>
      if s' = s then
        if 0 ≤ n then
          if n.toNat < xs.length then
            (match o with
             | .of j off vo m => put st d (.eptr (.of j off vo m) s xs n.toNat 0)
             | .ofg _ _ _ _ => none
             | _ => put (freezeT st x) d (.eptr .none s xs n.toNat 0))
          else none
        else none
      else none
    | _, _ => none
  | .iada d n s x i => match rd st x, rd st i with
    | .lptr j off, .int _ k => if 0 ≤ k then (if k.toNat < n then put st d (.lptr j (off + k.toNat * s)) else none) else none
    | _, _ => none
  | .fad d off x => match rd st x with
    | .lptr j o => put st d (.lptr j (o + off))
    | .eptr ow s xs i o => put st d (.eptr ow s xs i (o + off))
    | _ => none
  | .fld d off sz x => match rd st x with
    | .agg cs => match partOf (.agg cs) off sz with
      | some v => put st d v
      | none => none
    | _ => none
  | .ld d sz x => runLd st d sz x
  | .sto sz x v => runSto st sz x v
  | .slc d str s x lo hi => runSlc st d str s x lo hi
  | .mks d zero s eb n => match rd st n with
    | .int _ k => if 0 ≤ k then (if k.toNat ≤ lim then (if eb ≤ 4096 then (if elemOk s zero then put st d (.sl (.own true) s (List.replicate k.toNat zero)) else none) else none) else none) else none
    | _ => none
  | .lit d s parts => match persL st parts with
    | some (l, st') => if l.all (elemOk s) then put st' d (match l with | [] => .sl .full s [] | _ => .sl (.own true) s l) else none
    | none => none
  | .bld d zero parts => match buildCells st zero parts with
    | some (cs, st') => put st' d (.agg cs)
    | none => none
  | .alo i zero => some (setV st i (.lbox (zero.map intoCell)))
  | .box i x => match x with
    | .t t => match look t st.tmps with
      | .sl (.own _) s xs => some (setV (kill st t .undef) i (.lbox [.sl (.own false) s xs]))
      | _ => match pers st x with
        | some (a, st') => some (setV st' i (.lbox ((cellsOf a).map intoCell)))
        | none => none
    | _ => match pers st x with
      | some (a, st') => some (setV st' i (.lbox ((cellsOf a).map intoCell)))
      | none => none
  | .app d s eb x y => runApp st d s eb x y
  | .cvi d k x => match rd st x with
    | .int _ n => put st d (.int k (k.wrap n))
    | _ => none
  | .b2s d x => match rd st x with
    | .sl _ 1 xs => match decBytes xs with
      | some l => put st d (.str l)
      | none => none
    | _ => none
  | .s2b d x => match rd st x with
    | .str l => if l.length ≤ lim then put st d (match l with | [] => .sl .none 1 [] | _ => .sl (.own true) 1 (l.map encByte)) else none
    | _ => none
  | .call d f args => match persL st args with
    | some (vs, st') => match CS f vs st'.store with
      | some (r, store') => put { st' with store := store', tmps := unG st'.tmps } d r
      | none => none
    | none => none
  | .callo d f x => match give st x with
    | some (v, st') => match CS f [v] st'.store with
      | some (r, store') => put { st' with store := store', tmps := unG st'.tmps } d r
      | none => none
    | none => none
  | .callr d f args => match RP f with
    | some p => match p (args.map (rd st)) with
      | some r => put st d r
      | none => none
    | none => none
  | .callv d f args => match rd st f, persL st args with
    | .func k caps, some (vs, st') => if caps.all plain then match CS k (vs ++ caps) st'.store with
      | some (r, store') => put { st' with store := store', tmps := unG st'.tmps } d r
      | none => none
      else none
    | _, _ => none
  | .ext d x k => match look x st.tmps with
    | .tup vs => match vs[k]? with
      | some v => put (kill st x (.tup (vs.set k .undef))) d v
      | none => none
    | _ => none
  | .mkf d f caps => match persL st caps with
    | some (vs, st') => if vs.all oneCell then put st' d (.func f vs) else none
    | none => none
  | .mkq d f i => match st.vars[i]? with
    | some (.lbox [.sl .none s xs]) => put (setV st i .undef) d (.seq f s xs)
    | some (.lbox [.sl (.own false) s xs]) => put (setV st i .undef) d (.seq f s xs)
    | _ => none
  | .nck d x => match rd st x with
    | .lptr j o => put st d (.lptr j o)
    | .ptr id o => put st d (.ptr id o)
    | _ => none
  | .g x want ds op => match rd st x with
    | .bool b => if b = want then runOp st op else skipD st ds
    | .tup [] => skipD st ds
    | _ => none

def runOps (st : St) : List AOp → Option St
  | [] => some st
  | o :: os => match runOp CS RP st o with
    | some st' => runOps st' os
    | none => none

def drop (st : St) : St := { st with tmps := [] }

def killV (st : St) : List Nat → St
  | [] => st
  | i :: is => killV (setV st i .undef) is

def findL : AC → Nat → Option AC
  | .seq a b, l => match findL a l with
    | some r => some (.seq r b)
    | none => findL b l
  | .label l', l => if l' = l then some .skip else none
  | .frz _ c, l => findL c l
  | _, _ => none

abbrev CodeSem := AC → St → Option (Out × St)

/-- One unfolding of a piece of code. -/
def stepC (C : CodeSem) : AC → St → Option (Out × St)
  | .skip, st => some (.norm, st)
  | .frz i c, st => match st.vars[i]? with
    | some (.sl (.own _) s xs) => C c (setV st i (.sl (.own false) s xs))
    | _ => none
  | .ops dr l, st => match runOps CS RP st l with
    | some st' => some (.norm, if dr then drop st' else st')
    | none => none
  | .ite c a b, st => match rd st c with
    | .bool t => if t then C a (drop st) else C b (drop st)
    | _ => none
  | .seq a b, st => match C a st with
    | some (.norm, st') => C b st'
    | r => r
  | .block id c, st => match C c st with
    | some (.exit id', st') => if id' = id then some (.norm, st') else some (.exit id', st')
    | r => r
  | .loop ks c, st => match C c (killV st ks) with
    | some (.norm, st') => C (.loop ks c) st'
    | r => r
  | .sc ks c, st => C (.scope ks c c) st
  | .scope ks c cur, st => match C cur st with
    | some (.goto l, st') => match findL c l with
      | some r => C (.scope ks c r) (killV st' ks)
      | none => some (.goto l, st')
    | r => r
  | .label _, st => some (.norm, st)
  | .goto l, st => some (.goto l, st)
  | .exit id, st => some (.exit id, st)
  | .ret, st => some (.ret, st)
end

/-! ### functions -/
def enter (f : AFunc) (args : List AV) (store : List Obj) : St :=
  { vars := f.slots.map fun x => args.getD x .undef, tmps := [], store }

def outV : AV → Option AV
  | .sl .full s [] => some (.sl (.own true) s [])
  | .sl (.own m) s xs => some (.sl (.own m) s xs)
  | v => if plain v then some v else none

def resOf (st : St) : ARes → Option (AV × St)
  | .v i => match st.vars[i]? with
    | some av => match outV av with
      | some r => some (r, setV st i .undef)
      | none => none
    | none => none
  | .cell i sz => match st.vars[i]? with
    | some (.lbox cs) => match sz with
      | none => match cs with
        | [c] => match outV c with
          | some r => some (r, setV st i .undef)
          | none => none
        | _ => none
      | some n => if cs.length = n then (match wholes cs with
          | some l => some (.agg l, st)
          | none => none) else none
    | _ => none

def resL (st : St) : List ARes → Option (List AV)
  | [] => some []
  | r :: rs => match resOf st r with
    | some (a, st') => match resL st' rs with
      | some l => some (a :: l)
      | none => none
    | none => none

def leave (f : AFunc) (st : St) : Option (AV × List Obj) :=
  match resL st f.res with
  | some [a] => some (a, st.store)
  | some l => some (.tup l, st.store)
  | none => none

section
variable (AP : FuncId → Option AFn) (RP : FuncId → Option (List AV → Option AV))

def runF (C : CodeSem) : CallSem := fun k args store =>
  match AP k with
  | some (.code f) => if args.length ≤ f.n && args.all plain then match C f.body (enter f args store) with
    | some (.norm, st) => leave f st
    | some (.ret, st) => leave f st
    | _ => none
    else none
  | some (.prim p) => p args store
  | none => none

def evalC : Nat → CodeSem
  | 0 => fun _ _ => none
  | n + 1 => stepC (runF AP (evalC n)) RP (evalC n)

def evalF (n : Nat) : CallSem := runF AP (evalC AP RP n)
end

end Go.VS
