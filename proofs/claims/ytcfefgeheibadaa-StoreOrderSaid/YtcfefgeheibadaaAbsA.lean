/-
  A small abstract machine: values, operations, code, an executor with fuel, its limit and the limit's unfolding equations.
  No program in sight.
-/
import GoSem.Core.Lib
namespace Go.Abs

/-- Abstract values. `sl own n cells`: a slice by value (n elements, their cells in a row; own = some sz: it may be appended to);
`ar sz id off n k`: a slice over the object id, with room for k at least; `nls`: a slice that is nil; `via id off n cells`: the slice by value that the cell off of object id holds just now; `ptr id off`: a pointer into an object; `fp cells i`: a pointer into cells that nobody writes. -/
inductive V where
  | bool (b : Bool)
  | int (k : IntKind) (n : Int)
  | str (s : List UInt8)
  | ptr (id off : Nat)
  | nilp
  | fp (cells : List V) (i : Nat)
  | via (id off n : Nat) (cells : List V)
  | sl (own : Option Nat) (n : Nat) (cells : List V)
  | ar (sz id off n k : Nat)
  | fn (f : FuncId) (caps : List V)
  | nilf
  | ifc (t : TypeId) (v : V)
  | nili
  | nls
  | agg (cells : List V)
  | tup (vs : List V)
  deriving Inhabited

abbrev Heap := List (List V)
abbrev Env := List (Nat × V)

/-- The same value without leave to append. -/
def V.dis1 : V → V
  | .sl _ n cs => .sl none n cs
  | .via _ _ n cs => .sl none n cs
  | v => v
def V.dis2 : V → V
  | .sl _ n cs => .sl none n cs
  | .via _ _ n cs => .sl none n cs
  | .agg cs => .agg (cs.map V.dis1)
  | v => v
def V.dis : V → V
  | .sl _ n cs => .sl none n cs
  | .via _ _ n cs => .sl none n cs
  | .agg cs => .agg (cs.map V.dis1)
  | .tup vs => .tup (vs.map V.dis2)
  | v => v

mutual
/-- Does a value name objects below n alone? -/
def V.rb (n : Nat) : V → Bool
  | .ptr id _ => decide (id < n)
  | .ar _ id _ _ _ => decide (id < n)
  | .fp cs _ => V.rbL n cs
  | .via id _ _ cs => decide (id < n) && V.rbL n cs
  | .sl _ _ cs => V.rbL n cs
  | .fn _ cs => V.rbL n cs
  | .ifc _ v => v.rb n
  | .agg cs => V.rbL n cs
  | .tup cs => V.rbL n cs
  | _ => true
def V.rbL (n : Nat) : List V → Bool
  | [] => true
  | v :: r => v.rb n && V.rbL n r
end

def V.cells : V → List V
  | .agg cs => cs
  | v => [v]
/-- It is no slice just read from a cell. -/
def V.noVia : V → Bool
  | .via .. => false
  | _ => true
/-- May it lie in a cell? -/
def V.single : V → Bool
  | .agg _ | .tup _ | .via .. => false
  | _ => true

/-- May it be laid into memory, cell by cell? -/
def V.boxy : V → Bool
  | .tup _ | .via .. => false
  | _ => true

def hget (H : Heap) (id off : Nat) : Option V := (H[id]?).bind (·[off]?)
def hset (H : Heap) (id off : Nat) (v : V) : Heap := H.set id (((H[id]?).getD []).set off v)
def hcells (H : Heap) (id off n : Nat) : Option (List V) :=
  (H[id]?).bind fun cs => if off + n ≤ cs.length then some ((cs.drop off).take n) else none
/-- xs laid over cs from off on. -/
def lay (cs : List V) (off : Nat) (xs : List V) : List V := cs.take off ++ xs ++ cs.drop (off + xs.length)

inductive X where
  | t (n : Nat)
  | m (n : Nat)
  | k (v : V)
  deriving Inhabited

/-- Operations that call nobody. -/
inductive O where
  | bin (op : BinOp)
  | beq (neg : Bool)
  | peq (neg : Bool)
  | ieq (neg : Bool)
  | un (op : UnOp)
  | fa (off : Nat)
  | ix (sz : Nat)
  | ixa (sz len : Nat)
  | ld
  | ldn (n : Nat)
  | lv
  | st
  | stn (n : Nat)
  | nc
  | box (n : Nat)
  | bfp (n : Nat)
  | alc (zero : List V)
  | bld (zero : List V) (parts : List (Nat × Nat))
  | bsl (sz : Nat) (zero : List V) (len : Nat) (offs : List Nat)
  | fld (off : Nat) (n : Option Nat)
  | ixs
  | ixv (sz : Nat) (one : Bool) (len : Nat)
  | slc (sz : Nat) (lo hi : Bool)
  | sls (lo hi : Bool)
  | app (sz bytes : Nat)
  | apv (sz bytes : Nat)
  | apg (sz bytes : Nat)
  | clr (sz : Nat) (zero : List V)
  | sl3 (sz : Nat)
  | len (s : Bool)
  | kst (v : V)
  | mx
  | mn
  | cvi (k : IntKind)
  | cvs
  | b2s
  | s2b
  | mif (t : TypeId)
  | tas (t : TypeId) (ok : Bool) (zero : V)
  | tai (ts ns : List TypeId) (ok : Bool)
  | ext (i : Nat)
  | mkf (f : FuncId)
  | mks (sz bytes : Nat) (zero : List V)
  | pan
  deriving Inhabited

inductive I where
  | mv (x : X)
  | op (o : O) (xs : List X)
  | pick (c a b : X)
  | exm (i t : Nat)
  | call (f : FuncId) (xs : List X) (nw : Nat := 0)
  | cav (x : X) (xs : List X)
  | cam (tbl : List (TypeId × FuncId)) (x : X) (xs : List X)
  deriving Inhabited

inductive C where
  | nop
  | reg (keep : List Nat) (conf : List (Nat × Nat × Nat × Nat)) (free fps : List Nat) (ops : List (Option Nat × Option (Nat × Bool) × I))
  | seq (a b : C)
  | cnd (x : X) (a b : C)
  | blk (id : Nat) (c : C)
  | loop (c : C)
  | exit (id : Nat)
  | ret
  deriving Inhabited

inductive Mode where
  | P | T | K
  deriving DecidableEq, Inhabited

inductive Rs where
  | t (n : Nat)
  | cell (n : Nat)
  | cells (n sz : Nat)
  deriving Inhabited

structure CF where
  mode : Mode
  np : Nat
  res : List Rs
  body : C
  deriving Inhabited

/-! ### Operations -/

def bits (op : BinOp) (k : IntKind) (x y : Int) : Option V :=
  let a := BitVec.ofInt k.bits x
  let b := BitVec.ofInt k.bits y
  match op with
  | .and => some (.int k (k.wrap (a &&& b).toNat))
  | .or => some (.int k (k.wrap (a ||| b).toNat))
  | .xor => some (.int k (k.wrap (a ^^^ b).toNat))
  | .andNot => some (.int k (k.wrap (a &&& ~~~b).toNat))
  | _ => none

def iop (op : BinOp) (k : IntKind) (x y : Int) : Option V :=
  match op with
  | .add => some (.int k (k.wrap (x + y)))
  | .sub => some (.int k (k.wrap (x - y)))
  | .mul => some (.int k (k.wrap (x * y)))
  | .quo => if y = 0 then none else some (.int k (k.wrap (x.tdiv y)))
  | .rem => if y = 0 then none else some (.int k (x.tmod y))
  | .and => bits .and k x y
  | .or => bits .or k x y
  | .xor => bits .xor k x y
  | .andNot => bits .andNot k x y
  | .eql => some (.bool (x == y))
  | .neq => some (.bool (x != y))
  | .lss => some (.bool (decide (x < y)))
  | .leq => some (.bool (decide (x ≤ y)))
  | .gtr => some (.bool (decide (x > y)))
  | .geq => some (.bool (decide (x ≥ y)))
  | .shl => if y < 0 then none else some (.int k (k.wrap (x * 2 ^ (min y.toNat k.bits))))
  | .shr => if y < 0 then none else some (.int k (x.fdiv (2 ^ (min y.toNat k.bits))))

def bin (op : BinOp) : V → V → Option V
  | .int k a, .int k' b =>
    match op with
    | .shl => iop .shl k a b
    | .shr => iop .shr k a b
    | _ => if k = k' then iop op k a b else none
  | .str a, .str b =>
    match op with
    | .add => if ((a.length + b.length : Nat) : Int) > 9223372036854775807 then none else some (.str (a ++ b))
    | .eql => some (.bool (a == b))
    | .neq => some (.bool !(a == b))
    | _ => none
  | _, _ => none

def un (op : UnOp) (x : V) : Option V :=
  match op, x with
  | .not, .bool b => some (.bool !b)
  | .neg, .int k n => iop .sub k 0 n
  | .xor, .int k n => bits .xor k (if k.signed then -1 else k.max) n
  | _, _ => none

def bytesOf : List V → Option (List UInt8)
  | [] => some []
  | .int .u8 n :: r => (bytesOf r).map (UInt8.ofNat n.toNat :: ·)
  | _ :: _ => none

/-- Parts laid one behind the other over cells. -/
def fillV : List V → List (Nat × Nat) → List V → Option (List V)
  | cs, [], [] => some cs
  | cs, (off, size) :: ps, v :: vs =>
    if v.boxy ∧ v.cells.length = size ∧ off + size ≤ cs.length then fillV (lay cs off v.cells) ps vs else none
  | _, _, _ => none

def mxn (le : Int → Int → Bool) : V → List V → Option V
  | v, [] => some v
  | .int k x, .int _ y :: r => mxn le (.int k (if le x y then y else x)) r
  | _, _ => none

def reps (zero : List V) : Nat → List V
  | 0 => []
  | n + 1 => zero ++ reps zero n

def room : Nat := 140737488355328

/-- May an object be written here? lim: the objects below it may not. -/
def mayW (lim : Option Nat) (id : Nat) (_ok : Nat → Bool) : Bool :=
  match lim with
  | none => true
  | some l => decide (l ≤ id)

/-- What is appended, as cells. -/
def tail (sz : Nat) (x : V) (H : Heap) : Option (Nat × List V) :=
  match x with
  | .sl _ m ds => if ds.length = m * sz then some (m, ds) else none
  | .ar _ id off m _ => (hcells H id off (m * sz)).map fun ds => (m, ds.map V.dis1)
  | .str s => if sz = 1 then some (s.length, s.map fun c => .int .u8 c.toNat) else none
  | .nls => some (0, [])
  | _ => none

def appendTo (sz bytes : Nat) (s : V) (x : V) (H : Heap) : Option V :=
  match s with
  | .sl (some z) n cs => if z = sz ∧ cs.length = n * sz then
      (tail sz x H).bind fun q => if (n + q.1) * bytes ≤ room then some (.sl (some sz) (n + q.1) (cs ++ q.2)) else none
    else none
  | _ => none

def aBin (op : BinOp) : List V → Option V
  | [x, y] => bin op x y
  | _ => none
def aBeq (neg : Bool) : List V → Option V
  | [.bool a, .bool b] => some (.bool (neg != (a == b)))
  | _ => none
/-- Is it nil, or a pointer that is not? -/
def isNilP : V → Option Bool
  | .nilp => some true
  | .ptr .. => some false
  | .fp .. => some false
  | _ => none
def isNilI : V → Option Bool
  | .nili => some true
  | .ifc .. => some false
  | _ => none
/-- Equal? Where one at least is nil. -/
def nilEq : Option Bool → Option Bool → Option Bool
  | some true, some b => some b
  | some b, some true => some b
  | _, _ => none
def aPeq (neg : Bool) : List V → Option V
  | [x, y] => (nilEq (isNilP x) (isNilP y)).map fun b => .bool (neg != b)
  | _ => none
def aIeq (neg : Bool) : List V → Option V
  | [x, y] => (nilEq (isNilI x) (isNilI y)).map fun b => .bool (neg != b)
  | _ => none
def aUn (op : UnOp) : List V → Option V
  | [x] => un op x
  | _ => none
def aFa (off : Nat) : List V → Option V
  | [.ptr id o] => some (.ptr id (o + off))
  | [.fp cs i] => some (.fp cs (i + off))
  | _ => none
def aIx (sz : Nat) : List V → Option V
  | [.sl _ n cs, .int _ i] => if 0 ≤ i ∧ i < (n : Int) then some (.fp cs (i.toNat * sz)) else none
  | [.ar _ id off n _, .int _ i] => if 0 ≤ i ∧ i < (n : Int) then some (.ptr id (off + i.toNat * sz)) else none
  | _ => none
def aIxa (sz len : Nat) : List V → Option V
  | [.ptr id o, .int _ i] => if 0 ≤ i ∧ i < (len : Int) then some (.ptr id (o + i.toNat * sz)) else none
  | [.fp cs o, .int _ i] => if 0 ≤ i ∧ i < (len : Int) then some (.fp cs (o + i.toNat * sz)) else none
  | _ => none
def aLd (H : Heap) : List V → Option V
  | [.ptr id o] => (hget H id o).map V.dis1
  | [.fp cs i] => (cs[i]?).map V.dis1
  | _ => none
def aLdn (n : Nat) (H : Heap) : List V → Option V
  | [.ptr id o] => (hcells H id o n).map fun cs => .agg (cs.map V.dis1)
  | [.fp cs i] => if i + n ≤ cs.length then some (.agg (((cs.drop i).take n).map V.dis1)) else none
  | _ => none
/-- What is read of a cell whose slice is to be appended to. -/
def viaOf (id o : Nat) : V → V
  | .sl (some _) n cs => .via id o n cs
  | v => v.dis1
def aLv (H : Heap) : List V → Option V
  | [.ptr id o] => (hget H id o).map (viaOf id o)
  | [.fp cs i] => (cs[i]?).map V.dis1
  | _ => none
def aSt (lim : Option Nat) (H : Heap) : List V → Option (V × Heap)
  | [.ptr id o, v] => if v.single && (hget H id o).isSome && mayW lim id (v.rb ·) then some (.tup [], hset H id o v) else none
  | _ => none
def aStn (lim : Option Nat) (n : Nat) (H : Heap) : List V → Option (V × Heap)
  | [.ptr id o, .agg xs] => if xs.length = n && (hcells H id o n).isSome && mayW lim id (V.rbL · xs) then some (.tup [], H.set id (lay ((H[id]?).getD []) o xs)) else none
  | _ => none
def aNc : List V → Option V
  | [.ptr id o] => some (.ptr id o)
  | [.fp cs i] => some (.fp cs i)
  | _ => none
def aBox (n : Nat) (H : Heap) : List V → Option (V × Heap)
  | [v] => if v.boxy && v.cells.length == n then some (.ptr H.length 0, H ++ [v.cells]) else none
  | _ => none
def aBfp (n : Nat) : List V → Option V
  | [v] => if v.boxy && v.cells.length == n then some (.fp (v.cells.map V.dis1) 0) else none
  | _ => none
def V.ntup : V → Option V
  | .tup _ => none
  | .via .. => none
  | v => some v
def aFld (off : Nat) (n : Option Nat) : List V → Option V
  | [.agg cs] => match n with
    | none => (cs[off]?).bind V.ntup
    | some n => if off + n ≤ cs.length then some (.agg ((cs.drop off).take n)) else none
  | _ => none
def aIxs : List V → Option V
  | [.str s, .int _ i] => if 0 ≤ i then (s[i.toNat]?).map fun c => .int .u8 c.toNat else none
  | _ => none
def aIxv (sz : Nat) (one : Bool) (len : Nat) : List V → Option V
  | [.agg cs, .int _ i] =>
    if 0 ≤ i ∧ i < (len : Int) then
      if one then (cs[i.toNat * sz]?).bind V.ntup
      else if i.toNat * sz + sz ≤ cs.length then some (.agg ((cs.drop (i.toNat * sz)).take sz)) else none
    else none
  | _ => none
/-- The bounds of a piece of n. -/
def cutOf (lo hi : Bool) (n : Nat) (bs : List V) : Option (Nat × Nat) :=
  match lo, hi, bs with
  | false, false, [] => some (0, n)
  | true, false, [.int _ l] => if 0 ≤ l ∧ l ≤ (n : Int) then some (l.toNat, n) else none
  | false, true, [.int _ h] => if 0 ≤ h ∧ h ≤ (n : Int) then some (0, h.toNat) else none
  | true, true, [.int _ l, .int _ h] => if 0 ≤ l ∧ l ≤ h ∧ h ≤ (n : Int) then some (l.toNat, h.toNat) else none
  | _, _, _ => none
def aSlc (sz : Nat) (lo hi : Bool) : List V → Option V
  | .sl own n cs :: bs => (cutOf lo hi n bs).bind fun (l, h) => if cs.length = n * sz then
      some (.sl (if h = n ∧ own = some sz then own else none) (h - l) ((cs.drop (l * sz)).take ((h - l) * sz))) else none
  | .ar z id off n k :: bs => (cutOf lo hi (if hi then k else n) bs).bind fun (l, h) => if z = sz then (if l < k ∨ l = 0 then some (.ar sz id (off + l * sz) (h - l) (k - l)) else some (.sl none 0 [])) else none
  | _ => none
/-- A piece whose room is told. -/
def aSl3 (sz : Nat) : List V → Option V
  | [.ar z id off n k, .int _ i, .int _ j, .int _ m] => if z = sz ∧ 0 ≤ i ∧ i ≤ j ∧ j ≤ m ∧ m ≤ (k : Int) then
      (if i < m ∨ i = 0 then some (.ar sz id (off + i.toNat * sz) (j.toNat - i.toNat) (m.toNat - i.toNat)) else some (.sl none 0 [])) else none
  | _ => none
def aSls (lo hi : Bool) : List V → Option V
  | .str s :: bs => (cutOf lo hi s.length bs).map fun (l, h) => .str ((s.drop l).take (h - l))
  | _ => none
def aApp (sz bytes : Nat) (H : Heap) : List V → Option V
  | [s, x] => appendTo sz bytes s x H
  | _ => none
def aApv (lim : Option Nat) (sz bytes : Nat) (H : Heap) : List V → Option (V × Heap)
  | [s, x] => match s with
    | .via id off _ _ =>
      if mayW lim id (fun _ => true) then (hget H id off).bind fun s => (appendTo sz bytes s x (hset H id off s.dis1)).map (·, hset H id off s.dis1) else none
    | s => (appendTo sz bytes s x H).map (·, H)
  | _ => none
/-- Appending to a slice that is an object: the object goes, another one comes. -/
def aApg (lim : Option Nat) (sz bytes : Nat) (H : Heap) : List V → Option (V × Heap)
  | [.nls, x] => (tail sz x H).bind fun q => if q.1 * bytes ≤ room then (if q.1 = 0 then some (.nls, H) else some (.ar sz H.length 0 q.1 q.1, H ++ [q.2.map V.dis1])) else none
  | [.ar z id off n k, x] => if z = sz ∧ mayW lim id (fun _ => true) then (H[id]?).bind fun cs => (tail sz x H).bind fun q =>
      if n + q.1 ≤ k then (if off + (n + q.1) * sz ≤ cs.length then some (.ar sz id off (n + q.1) k, H.set id (lay cs (off + n * sz) (q.2.map V.dis1))) else none)
      else if off = 0 ∧ cs ≠ [] ∧ n * sz ≤ cs.length ∧ (n + q.1) * bytes ≤ room then some (.ar sz H.length 0 (n + q.1) (n + q.1), H.set id [] ++ [cs.take (n * sz) ++ q.2.map V.dis1]) else none
      else none
  | _ => none
/-- Zeroes in all its cells. -/
def aClr (lim : Option Nat) (sz : Nat) (zero : List V) (H : Heap) : List V → Option (V × Heap)
  | [.ar z id off n _] => if z = sz ∧ mayW lim id (fun _ => true) then (H[id]?).bind fun cs => if off + n * sz ≤ cs.length then some (.tup [], H.set id (lay cs off (reps zero n))) else none else none
  | [.sl _ 0 _] => some (.tup [], H)
  | [.nls] => some (.tup [], H)
  | _ => none
def aLen : Bool → List V → Option V
  | false, [.sl _ n _] => some (.int .i64 n)
  | false, [.ar _ _ _ n _] => some (.int .i64 n)
  | false, [.nls] => some (.int .i64 0)
  | true, [.str s] => some (.int .i64 s.length)
  | _, _ => none
def aMx : List V → Option V
  | v :: r => mxn (fun x y => decide (y > x)) v r
  | _ => none
def aMn : List V → Option V
  | v :: r => mxn (fun x y => decide (y < x)) v r
  | _ => none
def aCvi (k : IntKind) : List V → Option V
  | [.int _ n] => some (.int k (k.wrap n))
  | _ => none
def aCvs : List V → Option V
  | [.str s] => some (.str s)
  | _ => none
def aB2s : List V → Option V
  | [.sl _ n cs] => if cs.length = n then (bytesOf cs).map V.str else none
  | _ => none
def aS2b : List V → Option V
  | [.str s] => some (.sl (some 1) s.length (s.map fun c => .int .u8 c.toNat))
  | _ => none
def aMif (t : TypeId) : List V → Option V
  | [v] => if v.noVia then some (.ifc t v) else none
  | _ => none
def aTas (t : TypeId) (ok : Bool) (zero : V) : List V → Option V
  | [.ifc t' v] => if t' = t then some (if ok then .tup [v.dis2, .bool true] else v.dis) else if ok then some (.tup [zero, .bool false]) else none
  | [.nili] => if ok then some (.tup [zero, .bool false]) else none
  | _ => none
def aTai (ts ns : List TypeId) (ok : Bool) : List V → Option V
  | [.ifc t v] => if ts.contains t then some (if ok then .tup [.ifc t v, .bool true] else .ifc t v) else if ns.contains t && ok then some (.tup [.nili, .bool false]) else none
  | [.nili] => if ok then some (.tup [.nili, .bool false]) else none
  | _ => none
def aExt (i : Nat) : List V → Option V
  | [.tup vs] => (vs[i]?).bind V.ntup
  | _ => none
def aMks (sz bytes : Nat) (zero : List V) (H : Heap) : List V → Option (V × Heap)
  | [.int _ l, .int _ c] =>
    if 0 ≤ l ∧ l ≤ c ∧ bytes * c ≤ 140737488355328 ∧ c < 9223372036854775808 then some (.ar sz H.length 0 l.toNat c.toNat, H ++ [reps zero c.toNat]) else none
  | _ => none

def apply (lim : Option Nat) (o : O) (vs : List V) (H : Heap) : Option (V × Heap) :=
  match o with
  | .bin op => (aBin op vs).map (·, H)
  | .beq neg => (aBeq neg vs).map (·, H)
  | .peq neg => (aPeq neg vs).map (·, H)
  | .ieq neg => (aIeq neg vs).map (·, H)
  | .un op => (aUn op vs).map (·, H)
  | .fa off => (aFa off vs).map (·, H)
  | .ix sz => (aIx sz vs).map (·, H)
  | .ixa sz len => (aIxa sz len vs).map (·, H)
  | .ld => (aLd H vs).map (·, H)
  | .ldn n => (aLdn n H vs).map (·, H)
  | .lv => (aLv H vs).map (·, H)
  | .st => aSt lim H vs
  | .stn n => aStn lim n H vs
  | .nc => (aNc vs).map (·, H)
  | .box n => aBox n H vs
  | .bfp n => (aBfp n vs).map (·, H)
  | .alc zero => if vs.isEmpty then some (.ptr H.length 0, H ++ [zero]) else none
  | .bld zero parts => (fillV zero parts vs).map fun cs => (.agg cs, H)
  | .bsl sz zero len offs => if len * sz ≤ 16777216 then (fillV (reps zero len) (offs.map (·, sz)) vs).map fun cs => (.sl (some sz) len (cs.map V.dis1), H) else none
  | .fld off n => (aFld off n vs).map (·, H)
  | .ixs => (aIxs vs).map (·, H)
  | .ixv sz one len => (aIxv sz one len vs).map (·, H)
  | .slc sz lo hi => (aSlc sz lo hi vs).map (·, H)
  | .sls lo hi => (aSls lo hi vs).map (·, H)
  | .app sz bytes => (aApp sz bytes H vs).map (·, H)
  | .apv sz bytes => aApv lim sz bytes H vs
  | .apg sz bytes => aApg lim sz bytes H vs
  | .clr sz zero => aClr lim sz zero H vs
  | .sl3 sz => (aSl3 sz vs).map (·, H)
  | .len s => (aLen s vs).map (·, H)
  | .kst v => some (v, H)
  | .mx => (aMx vs).map (·, H)
  | .mn => (aMn vs).map (·, H)
  | .cvi k => (aCvi k vs).map (·, H)
  | .cvs => (aCvs vs).map (·, H)
  | .b2s => (aB2s vs).map (·, H)
  | .s2b => (aS2b vs).map (·, H)
  | .mif t => (aMif t vs).map (·, H)
  | .tas t ok zero => (aTas t ok zero vs).map (·, H)
  | .tai ts ns ok => (aTai ts ns ok vs).map (·, H)
  | .ext i => (aExt i vs).map (·, H)
  | .mkf f => if vs.all V.single then some (.fn f vs, H) else none
  | .mks sz bytes zero => aMks sz bytes zero H vs
  | .pan => none

/-! ### Environments -/
def eget : Env → Nat → Option V
  | [], _ => none
  | (s, v) :: e, t => if s = t then some v else eget e t
def edel : Env → Nat → Env
  | [], _ => []
  | (s, v) :: e, t => if s = t then edel e t else (s, v) :: edel e t
def eput (e : Env) (t : Nat) (v : V) : Env := (t, v) :: edel e t
/-- Put in by rising numbers. -/
def eins (s : Nat) (v : V) : Env → Env
  | [] => [(s, v)]
  | (t, u) :: e => match Nat.ble s t with | true => (s, v) :: (t, u) :: e | false => (t, u) :: eins s v e
def ekeep (l : List Nat) : Env → Env
  | [] => []
  | (s, v) :: e => if l.contains s then eins s v (ekeep l e) else ekeep l e

def evX : X → Env → Option (V × Env)
  | .t n, e => (eget e n).map (·.dis, e)
  | .m n, e => (eget e n).map (·, edel e n)
  | .k v, e => some (v, e)
def evs : List X → Env → Option (List V × Env)
  | [], e => some ([], e)
  | x :: xs, e => (evX x e).bind fun r => (evs xs r.2).map fun q => (r.1 :: q.1, q.2)

abbrev Oracle := Option Nat → FuncId → List V → Heap → Option (V × Heap)

/-- No slice that was just read from a cell is at hand. -/
def calm : Env → Bool
  | [] => true
  | (_, v) :: e => v.noVia && calm e
def O.writes : O → Bool
  | .st | .stn _ | .apv .. | .apg .. | .clr .. => true
  | _ => false

/-- pu f: whoever calls f finds all objects as they were. -/
structure Orc where
  run : Oracle
  pu : FuncId → Bool

mutual
/-- The same value? -/
def eqV : V → V → Bool
  | .bool a, x => match x with | .bool b => a == b | _ => false
  | .int k n, x => match x with | .int j m => decide (k = j) && decide (n = m) | _ => false
  | .str a, x => match x with | .str b => decide (a = b) | _ => false
  | .ptr i o, x => match x with | .ptr j p => Nat.beq i j && Nat.beq o p | _ => false
  | .nilp, x => match x with | .nilp => true | _ => false
  | .fp c i, x => match x with | .fp d j => eqL c d && Nat.beq i j | _ => false
  | .via i o n c, x => match x with | .via j p m d => Nat.beq i j && Nat.beq o p && Nat.beq n m && eqL c d | _ => false
  | .sl o n c, x => match x with | .sl p m d => decide (o = p) && Nat.beq n m && eqL c d | _ => false
  | .ar a b c d e, x => match x with | .ar a' b' c' d' e' => Nat.beq a a' && Nat.beq b b' && Nat.beq c c' && Nat.beq d d' && Nat.beq e e' | _ => false
  | .fn f c, x => match x with | .fn g d => Nat.beq f g && eqL c d | _ => false
  | .nilf, x => match x with | .nilf => true | _ => false
  | .ifc t v, x => match x with | .ifc u w => Nat.beq t u && eqV v w | _ => false
  | .nili, x => match x with | .nili => true | _ => false
  | .nls, x => match x with | .nls => true | _ => false
  | .agg c, x => match x with | .agg d => eqL c d | _ => false
  | .tup c, x => match x with | .tup d => eqL c d | _ => false
def eqL : List V → List V → Bool
  | [], x => match x with | [] => true | _ => false
  | v :: r, x => match x with | w :: s => eqV v w && eqL r s | _ => false
end
mutual
theorem eqV_refl : ∀ a : V, eqV a a = true
  | .bool _ | .int .. | .str _ | .nilp | .nilf | .nili | .nls => by simp [eqV]
  | .ptr .. | .ar .. => by simp [eqV]
  | .fp c i => by simp [eqV, eqL_refl c]
  | .via i o n c => by simp [eqV, eqL_refl c]
  | .sl o n c => by simp [eqV, eqL_refl c]
  | .fn f c => by simp [eqV, eqL_refl c]
  | .ifc t v => by simp [eqV, eqV_refl v]
  | .agg c => by simp [eqV, eqL_refl c]
  | .tup c => by simp [eqV, eqL_refl c]
theorem eqL_refl : ∀ a : List V, eqL a a = true
  | [] => by simp [eqL]
  | v :: r => by simp [eqL, eqV_refl v, eqL_refl r]
end
/-- Is the heap as it was, but for what came behind it? -/
def pre : Heap → Heap → Bool
  | [], _ => true
  | a :: r, b :: s => eqL a b && pre r s
  | _ :: _, [] => false
theorem pre_refl : ∀ H : Heap, pre H H = true
  | [] => rfl
  | a :: r => by simp [pre, eqL_refl, pre_refl r]
theorem pre_app : ∀ H X : Heap, pre H (H ++ X) = true
  | [], _ => rfl
  | a :: r, X => by simp [pre, eqL_refl, pre_app r X]
/-- The same, but for one object. -/
def preX : Nat → Heap → Heap → Bool
  | _, [], _ => true
  | 0, _ :: r, _ :: s => pre r s
  | n + 1, a :: r, b :: s => eqL a b && preX n r s
  | _, _ :: _, [] => false
/-- What is asked of a call: nothing (0), that it changes no object that was there (1), none but the one that its first argument names (2). -/
def okN (nw : Nat) (args : List V) (H H' : Heap) : Bool :=
  match nw, args with
  | 0, _ => true
  | 1, _ => pre H H'
  | _, .ptr id _ :: _ => preX id H H'
  | _, _ => pre H H'
def chkN (nw : Nat) (args : List V) (H : Heap) (q : V × Heap) : Option (V × Heap) := if okN nw args H q.2 then some q else none
theorem chkN_run {nw : Nat} {args : List V} {H : Heap} {x : Option (V × Heap)} {q : V × Heap} (h : x.bind (chkN nw args H) = some q) : x = some q ∧ okN nw args H q.2 = true := by
  obtain ⟨y, hy, h⟩ := Option.bind_eq_some_iff.1 h
  unfold chkN at h
  split at h
  · cases h; exact ⟨hy, by assumption⟩
  · cases h
theorem chkN_of {nw : Nat} {args : List V} {H : Heap} {x : Option (V × Heap)} {q : V × Heap} (h : x = some q) (k : okN nw args H q.2 = true) : x.bind (chkN nw args H) = some q := by
  rw [h, Option.bind_some, chkN, if_pos k]
theorem preX_refl : ∀ (n : Nat) (H : Heap), preX n H H = true
  | _, [] => by simp [preX]
  | 0, _ :: r => by simp [preX, pre_refl r]
  | n + 1, a :: r => by simp [preX, eqL_refl, preX_refl n r]
theorem okN_refl (nw : Nat) (args : List V) (H : Heap) : okN nw args H H = true := by
  unfold okN; split <;> first | rfl | exact pre_refl H | exact preX_refl _ H

def step (T : Orc) (s : Option Nat) (i : I) (e : Env) (H : Heap) : Option (V × Env × Heap) :=
  match i with
  | .mv x => (evX x e).map fun r => (r.1, r.2, H)
  | .op o xs => (evs xs e).bind fun r => if !o.writes || calm r.2 then (apply s o r.1 H).map fun q => (q.1, r.2, q.2) else none
  | .pick c a b => (evX c e).bind fun r => match r.1 with
    | .bool t => (evX (if t then a else b) r.2).map fun q => (q.1, q.2, H)
    | _ => none
  | .exm i t => match eget e t with
    | some (.tup vs) => ((vs[i]?).bind V.ntup).map fun v => (v, eput e t (.tup (vs.set i v.dis2)), H)
    | _ => none
  | .call f xs nw => (evs xs e).bind fun r => if T.pu f || calm r.2 then ((T.run s f r.1 H).bind (chkN nw r.1 H)).map fun q => (q.1, r.2, q.2) else none
  | .cav x xs => (evX x e).bind fun p => match p.1 with
    | .fn f caps => (evs xs p.2).bind fun r => if T.pu f || calm r.2 then (T.run s f (r.1 ++ caps.map V.dis1) H).map fun q => (q.1, r.2, q.2) else none
    | _ => none
  | .cam tbl x xs => (evX x e).bind fun p => match p.1 with
    | .ifc t v => match tbl.lookup t with
      | some f => (evs xs p.2).bind fun r => if T.pu f || calm r.2 then (T.run s f (v.dis :: r.1) H).map fun q => (q.1, r.2, q.2) else none
      | none => none
    | _ => none

def putD (e : Env) (d : Option Nat) (v : V) : Env := match d with | some t => eput e t v | none => e
/-- What is not carried out leaves nothing where it would have left something. -/
def delD (e : Env) (d : Option Nat) : Env := putD e d (.tup [])

def op1 (T : Orc) (s : Option Nat) (o : Option Nat × Option (Nat × Bool) × I) (e : Env) (H : Heap) : Option (Env × Heap) :=
  match o.2.1 with
  | none => (step T s o.2.2 e H).map fun r => (putD r.2.1 o.1 r.1, r.2.2)
  | some (g, want) => match eget e g with
    | some (.bool c) => if c = want then (step T s o.2.2 e H).map fun r => (putD r.2.1 o.1 r.1, r.2.2) else some (delD e o.1, H)
    | some (.tup _) => some (delD e o.1, H)
    | _ => none

def rops (T : Orc) (s : Option Nat) : List (Option Nat × Option (Nat × Bool) × I) → Env → Heap → Option (Env × Heap)
  | [], e, H => some (e, H)
  | o :: r, e, H => (op1 T s o e H).bind fun q => rops T s r q.1 q.2

/-- all of an object -/
def far : Nat := 1000000000
/-- Do two addresses (so many cells each) lie apart? -/
def apartV (x : Option V) (n : Nat) (y : Option V) (m : Nat) : Bool :=
  match x, y with
  | some (.ptr i o), some (.ptr j p) => decide (i ≠ j) || (n != far && m != far && (decide (o + n ≤ p) || decide (p + m ≤ o)))
  | some (.fp ..), some _ => true
  | some _, some (.fp ..) => true
  | _, _ => false
def confOK : List (Nat × Nat × Nat × Nat) → Env → Bool
  | [], _ => true
  | (a, n, b, m) :: r, e => apartV (eget e a) n (eget e b) m && confOK r e

/-- Do these temporaries, as far as they hold anything, hold pointers into cells that nobody writes? -/
def fpsOK : List Nat → Env → Bool
  | [], _ => true
  | t :: r, e => (match eget e t with | some (.fp ..) => true | some (.tup _) => true | none => true | _ => false) && fpsOK r e
/-- Do these temporaries hold values that name no object? -/
def freeOK : List Nat → Env → Bool
  | [], _ => true
  | t :: r, e => (match eget e t with | some v => v.rb 0 | none => false) && freeOK r e

inductive Ex where
  | nrm | ret | exit (id : Nat)
  deriving DecidableEq, Inhabited

abbrev Out := Ex × Env × Heap

/-- Are objects the same, or name none from m on? -/
def keptL (m : Nat) : Heap → Heap → Bool
  | a :: r, b :: s => (eqL a b || V.rbL m b) && keptL m r s
  | _, _ => true
/-- Of the objects from l on that were there (H): is each what it was, or names it none that came since? -/
def keptB (l : Nat) (H H' : Heap) : Bool := keptL H.length (H.drop l) (H'.drop l)
def trim (s : Option Nat) (G : Heap) (e : Env) (H : Heap) : Heap :=
  match s with
  | some l => if l ≤ G.length ∧ G.length < H.length ∧ e.all (fun p => p.2.rb G.length) ∧ keptB l G H then H.take G.length else H
  | none => H

def loopN (s : Option Nat) (body : Env → Heap → Option Out) : Nat → Env → Heap → Option Out
  | 0, _, _ => none
  | n + 1, e, H => (body e H).bind fun r => match r.1 with
    | .nrm => loopN s body n r.2.1 (trim s H r.2.1 r.2.2)
    | x => some (x, r.2.1, r.2.2)

def exL (T : Orc) (s : Option Nat) (n : Nat) : C → Env → Heap → Option Out
  | .nop, e, H => some (.nrm, e, H)
  | .reg keep conf free fps ops, e, H => if !calm e then none else (rops T s ops e H).bind fun r => if confOK conf r.1 && freeOK free r.1 && fpsOK fps r.1 then some (.nrm, ekeep keep r.1, r.2) else none
  | .seq a b, e, H => (exL T s n a e H).bind fun r => match r.1 with
    | .nrm => exL T s n b r.2.1 r.2.2
    | x => some (x, r.2.1, r.2.2)
  | .cnd x a b, e, H => (evX x e).bind fun p => match p.1 with
    | .bool t => if t then exL T s n a p.2 H else exL T s n b p.2 H
    | _ => none
  | .blk id c, e, H => (exL T s n c e H).map fun r => match r.1 with
    | .exit j => if j = id then (.nrm, r.2.1, r.2.2) else (.exit j, r.2.1, r.2.2)
    | x => (x, r.2.1, r.2.2)
  | .loop c, e, H => loopN s (exL T s n c) n e H
  | .exit id, e, H => some (.exit id, e, H)
  | .ret, e, H => some (.ret, e, H)

/-! ### Functions -/
def initEnv : Nat → List V → Env
  | _, [] => []
  | i, v :: r => (i, v) :: initEnv (i + 1) r

def resOf (e : Env) (H : Heap) : Rs → Option V
  | .t n => eget e n
  | .cell n => match eget e n with
    | some (.ptr id o) => (hget H id o).map V.dis1
    | _ => none
  | .cells n sz => match eget e n with
    | some (.ptr id o) => (hcells H id o sz).map fun cs => .agg (cs.map V.dis1)
    | _ => none

def resAll (e : Env) (H : Heap) : List Rs → Option (List V)
  | [] => some []
  | r :: rs => (resOf e H r).bind fun v => if v.noVia then (resAll e H rs).map (v :: ·) else none

/-- A slice over an object of the call's own, by value. -/
def frz1 (H : Heap) (n0 : Nat) : V → V
  | .ar sz id off n k => if n0 ≤ id then match hcells H id off (n * sz) with | some cs => .sl none n (cs.map V.dis1) | none => .ar sz id off n k else .ar sz id off n k
  | .nls => .sl none 0 []
  | v => v
def frz (H : Heap) (n0 : Nat) : V → V
  | .ar sz id off n k => frz1 H n0 (.ar sz id off n k)
  | .nls => .sl none 0 []
  | .agg cs => .agg (cs.map (frz1 H n0))
  | v => v

def tie (vs : List V) : V := match vs with | [v] => v | vs => .tup vs

/-- The heap in which a call is carried out: whoever is given no object, and changes none, sees none. -/
def base (mode : Mode) (args : List V) (H : Heap) : Heap :=
  match mode with
  | .P => if V.rbL 0 args then [] else H
  | _ => H

/-- The limit within a call. -/
def inner (mode : Mode) (s : Option Nat) (H : Heap) : Option Nat :=
  match mode with
  | .P => some H.length
  | _ => s

/-- What a call hands back. H: the heap as it was; H0: as the call saw it; H': as the call left it. -/
def finish (mode : Mode) (s : Option Nat) (H H0 : Heap) (vs : List V) (H' : Heap) : Option (V × Heap) :=
  match mode, s with
  | .P, _ => if V.rbL H0.length (vs.map (frz H' H0.length)) then some (tie (vs.map (frz H' H0.length)), H) else none
  | .T, some l => if V.rbL H.length vs && keptB l H H' then some (tie vs, H'.take H.length) else some (tie vs, H')
  | .T, none => some (tie vs, H')
  | .K, _ => some (tie vs, H')

abbrev Prim := List V → Option V
structure Tab where
  code : FuncId → Option CF
  prim : FuncId → Option Prim

def Tab.pu (T : Tab) (f : FuncId) : Bool := (T.prim f).isSome || (match T.code f with | some cf => cf.mode == .P | none => false)

def callF (T : Tab) : Nat → Oracle
  | 0, _, _, _, _ => none
  | n + 1, s, f, args, H =>
    match T.prim f with
    | some p => (p args).bind fun v => if v.noVia then some (v, H) else none
    | none => match T.code f with
      | none => none
      | some cf =>
        if args.length = cf.np then
          (exL ⟨callF T n, T.pu⟩ (inner cf.mode s (base cf.mode args H)) n cf.body (initEnv 0 args) (base cf.mode args H)).bind fun r => match r.1 with
            | .exit _ => none
            | _ => (resAll r.2.1 r.2.2 cf.res).bind fun vs => finish cf.mode s H (base cf.mode args H) vs r.2.2
        else none

end Go.Abs
