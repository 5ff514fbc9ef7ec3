/- A part of the proof of RowAirFits, RowAirHeard, RowAirOrder, RowAirLost: lemmas alone, without conditions. -/
import GoSem.Core.Lib
import GoSem.Dispatch
import GoSem.Core.Region
set_option linter.all false
namespace Go.Abs
inductive V where
 | bool (b : Bool)
 | int (k : IntKind) (n : Int)
 | str (s : List UInt8)
 | ptr (id off : Nat)
 | nilp
 | fp (cells : List V) (i : Nat)
 | via (id off n : Nat) (cells : List V)
 | sl (own : Option Nat) (n : Nat) (cells : List V)
 | ar (sz id off n k : Nat)
 | fn (f : FuncId) (caps : List V)
 | nilf
 | ifc (t : TypeId) (v : V)
 | nili
 | nls
 | raw (b o : Nat)
 | agg (cells : List V)
 | tup (vs : List V)
 deriving Inhabited
abbrev aB := List (List V)
abbrev aQ := List (Nat × V)
def V.dis1 : V → V
 | .sl _ n cs => .sl none n cs
 | .via _ _ n cs => .sl none n cs
 | v => v
def V.dis2 : V → V
 | .sl _ n cs => .sl none n cs
 | .via _ _ n cs => .sl none n cs
 | .agg cs => .agg (cs.map V.dis1)
 | v => v
def V.dis : V → V
 | .sl _ n cs => .sl none n cs
 | .via _ _ n cs => .sl none n cs
 | .agg cs => .agg (cs.map V.dis1)
 | .tup vs => .tup (vs.map V.dis2)
 | v => v
mutual
def V.rb (n : Nat) : V → Bool
 | .ptr id _ => decide (id < n)
 | .ar _ id _ _ _ => decide (id < n)
 | .fp cs _ => V.rbL n cs
 | .via id _ _ cs => decide (id < n) && V.rbL n cs
 | .sl _ _ cs => V.rbL n cs
 | .fn _ cs => V.rbL n cs
 | .ifc _ v => v.rb n
 | .agg cs => V.rbL n cs
 | .tup cs => V.rbL n cs
 | _ => true
def V.rbL (n : Nat) : List V → Bool
 | [] => true
 | v :: r => v.rb n && V.rbL n r
end
def V.cells : V → List V
 | .agg cs => cs
 | v => [v]
def V.noVia : V → Bool
 | .via .. => false
 | _ => true
def V.single : V → Bool
 | .agg _ | .tup _ | .via .. => false
 | _ => true
def V.boxy : V → Bool
 | .tup _ | .via .. => false
 | _ => true
def rM (H : aB) (id off : Nat) : Option V := (H[id]?).bind (·[off]?)
def yV (H : aB) (id off : Nat) (v : V) : aB := H.set id (((H[id]?).getD []).set off v)
def bX (H : aB) (id off n : Nat) : Option (List V) :=
 (H[id]?).bind fun cs => if off + n ≤ cs.length then some ((cs.drop off).take n) else none
def fB (cs : List V) (off : Nat) (xs : List V) : List V := cs.take off ++ xs ++ cs.drop (off + xs.length)
inductive X where
 | t (n : Nat)
 | m (n : Nat)
 | k (v : V)
 deriving Inhabited
inductive O where
 | bin (op : BinOp)
 | beq (neg : Bool)
 | peq (neg : Bool)
 | ieq (neg : Bool)
 | un (op : UnOp)
 | fa (off : Nat)
 | ix (sz : Nat)
 | ixa (sz len : Nat)
 | ld
 | ldn (n : Nat)
 | lv
 | st
 | stn (n : Nat)
 | nc
 | box (n : Nat)
 | bfp (n : Nat)
 | alc (zero : List V)
 | bld (zero : List V) (parts : List (Nat × Nat))
 | bsl (sz : Nat) (zero : List V) (len : Nat) (offs : List Nat)
 | fld (off : Nat) (n : Option Nat)
 | ixs
 | ixv (sz : Nat) (one : Bool) (len : Nat)
 | slc (sz : Nat) (lo hi : Bool)
 | sls (lo hi : Bool)
 | app (sz bytes : Nat)
 | apv (sz bytes : Nat)
 | apg (sz bytes : Nat)
 | clr (sz : Nat) (zero : List V)
 | sl3 (sz : Nat)
 | cpy (sz : Nat)
 | ife (neg : Bool) (ts : List TypeId)
 | tyo (rt gs : Nat) (g : FuncId)
 | cmb (rt gs : Nat) (g : FuncId) (ts : List TypeId)
 | len (s : Bool)
 | kst (v : V)
 | mx
 | mn
 | cvi (k : IntKind)
 | cvs
 | b2s
 | s2b
 | mif (t : TypeId)
 | tas (t : TypeId) (ok : Bool) (zero : V)
 | tai (ts ns : List TypeId) (ok : Bool)
 | ext (i : Nat)
 | mkf (f : FuncId)
 | mks (sz bytes : Nat) (zero : List V)
 | mkv (sz bytes : Nat) (zero : List V)
 | pan
 deriving Inhabited
inductive I where
 | mv (x : X)
 | op (o : O) (xs : List X)
 | pick (c a b : X)
 | exm (i t : Nat)
 | call (f : FuncId) (xs : List X) (nw : Nat := 0)
 | cav (x : X) (xs : List X)
 | cam (tbl : List (TypeId × FuncId)) (x : X) (xs : List X)
 deriving Inhabited
inductive C where
 | nop
 | reg (keep : List Nat) (conf : List (Nat × Nat × Nat × Nat)) (free fps : List Nat) (ops : List (Option Nat × Option (Nat × Bool) × I))
 | seq (a b : C)
 | cnd (x : X) (a b : C)
 | blk (id : Nat) (c : C)
 | loop (c : C)
 | exit (id : Nat)
 | ret
 deriving Inhabited
inductive Mode where
 | P | T | K | F
 deriving DecidableEq, Inhabited
inductive Rs where
 | t (n : Nat)
 | cell (n : Nat)
 | cells (n sz : Nat)
 deriving Inhabited
structure CF where
 mode : Mode
 np : Nat
 res : List Rs
 body : C
 deriving Inhabited
def bits (op : BinOp) (k : IntKind) (x y : Int) : Option V :=
 let a := BitVec.ofInt k.bits x
 let b := BitVec.ofInt k.bits y
 match op with
 | .and => some (.int k (k.wrap (a &&& b).toNat))
 | .or => some (.int k (k.wrap (a ||| b).toNat))
 | .xor => some (.int k (k.wrap (a ^^^ b).toNat))
 | .andNot => some (.int k (k.wrap (a &&& ~~~b).toNat))
 | _ => none
def iop (op : BinOp) (k : IntKind) (x y : Int) : Option V :=
 match op with
 | .add => some (.int k (k.wrap (x + y)))
 | .sub => some (.int k (k.wrap (x - y)))
 | .mul => some (.int k (k.wrap (x * y)))
 | .quo => if y = 0 then none else some (.int k (k.wrap (x.tdiv y)))
 | .rem => if y = 0 then none else some (.int k (x.tmod y))
 | .and => bits .and k x y
 | .or => bits .or k x y
 | .xor => bits .xor k x y
 | .andNot => bits .andNot k x y
 | .eql => some (.bool (x == y))
 | .neq => some (.bool (x != y))
 | .lss => some (.bool (decide (x < y)))
 | .leq => some (.bool (decide (x ≤ y)))
 | .gtr => some (.bool (decide (x > y)))
 | .geq => some (.bool (decide (x ≥ y)))
 | .shl => if y < 0 then none else some (.int k (k.wrap (x * 2 ^ (min y.toNat k.bits))))
 | .shr => if y < 0 then none else some (.int k (x.fdiv (2 ^ (min y.toNat k.bits))))
def bin (op : BinOp) : V → V → Option V
 | .int k a, .int k' b =>
   match op with
   | .shl => iop .shl k a b
   | .shr => iop .shr k a b
   | _ => if k = k' then iop op k a b else none
 | .str a, .str b =>
   match op with
   | .add => if ((a.length + b.length : Nat) : Int) > 9223372036854775807 then none else some (.str (a ++ b))
   | .eql => some (.bool (a == b))
   | .neq => some (.bool !(a == b))
   | _ => none
 | _, _ => none
def un (op : UnOp) (x : V) : Option V :=
 match op, x with
 | .not, .bool b => some (.bool !b)
 | .neg, .int k n => iop .sub k 0 n
 | .xor, .int k n => bits .xor k (if k.signed then -1 else k.max) n
 | _, _ => none
def bytesOf : List V → Option (List UInt8)
 | [] => some []
 | .int .u8 n :: r => (bytesOf r).map (UInt8.ofNat n.toNat :: ·)
 | _ :: _ => none
def aW : List V → List (Nat × Nat) → List V → Option (List V)
 | cs, [], [] => some cs
 | cs, (off, size) :: ps, v :: vs =>
   if v.boxy ∧ v.cells.length = size ∧ off + size ≤ cs.length then aW (fB cs off v.cells) ps vs else none
 | _, _, _ => none
def mxn (le : Int → Int → Bool) : V → List V → Option V
 | v, [] => some v
 | .int k x, .int _ y :: r => mxn le (.int k (if le x y then y else x)) r
 | _, _ => none
def kJ (zero : List V) : Nat → List V
 | 0 => []
 | n + 1 => zero ++ kJ zero n
def room : Nat := 140737488355328
def bN (lim : Option Nat) (id : Nat) (_ok : Nat → Bool) : Bool :=
 match lim with
 | none => true
 | some l => decide (l ≤ id)
def sQ (sz : Nat) (x : V) (H : aB) : Option (Nat × List V) :=
 match x with
 | .sl _ m ds => if ds.length = m * sz then some (m, ds) else none
 | .ar _ id off m _ => (bX H id off (m * sz)).map fun ds => (m, ds.map V.dis1)
 | .str s => if sz = 1 then some (s.length, s.map fun c => .int .u8 c.toNat) else none
 | .nls => some (0, [])
 | _ => none
def eQ (sz bytes : Nat) (s : V) (x : V) (H : aB) : Option V :=
 match s with
 | .sl (some z) n cs => if z = sz ∧ cs.length = n * sz then
  (sQ sz x H).bind fun q => if (n + q.1) * bytes ≤ room then some (.sl (some sz) (n + q.1) (cs ++ q.2)) else none
  else none
 | _ => none
def aUl (op : BinOp) : List V → Option V
 | [x, y] => bin op x y
 | _ => none
def aNm (neg : Bool) : List V → Option V
 | [.bool a, .bool b] => some (.bool (neg != (a == b)))
 | _ => none
def xS : V → Option Bool
 | .nilp => some true
 | .ptr .. => some false
 | .fp .. => some false
 | _ => none
def d6 : V → Option Bool
 | .nili => some true
 | .ifc .. => some false
 | _ => none
def M5 : Option Bool → Option Bool → Option Bool
 | some true, some b => some b
 | some b, some true => some b
 | _, _ => none
def aNn (neg : Bool) : List V → Option V
 | [x, y] => (M5 (xS x) (xS y)).map fun b => .bool (neg != b)
 | _ => none
def aNo (neg : Bool) : List V → Option V
 | [x, y] => (M5 (d6 x) (d6 y)).map fun b => .bool (neg != b)
 | _ => none
def aUn (op : UnOp) : List V → Option V
 | [x] => un op x
 | _ => none
def aFa (off : Nat) : List V → Option V
 | [.ptr id o] => some (.ptr id (o + off))
 | [.fp cs i] => some (.fp cs (i + off))
 | _ => none
def aIx (sz : Nat) : List V → Option V
 | [.sl _ n cs, .int _ i] => if 0 ≤ i ∧ i < (n : Int) then some (.fp cs (i.toNat * sz)) else none
 | [.ar _ id off n _, .int _ i] => if 0 ≤ i ∧ i < (n : Int) then some (.ptr id (off + i.toNat * sz)) else none
 | _ => none
def Z3 (sz len : Nat) : List V → Option V
 | [.ptr id o, .int _ i] => if 0 ≤ i ∧ i < (len : Int) then some (.ptr id (o + i.toNat * sz)) else none
 | [.fp cs o, .int _ i] => if 0 ≤ i ∧ i < (len : Int) then some (.fp cs (o + i.toNat * sz)) else none
 | _ => none
def aLd (H : aB) : List V → Option V
 | [.ptr id o] => (rM H id o).map V.dis1
 | [.fp cs i] => (cs[i]?).map V.dis1
 | _ => none
def O8 (n : Nat) (H : aB) : List V → Option V
 | [.ptr id o] => (bX H id o n).map fun cs => .agg (cs.map V.dis1)
 | [.fp cs i] => if i + n ≤ cs.length then some (.agg (((cs.drop i).take n).map V.dis1)) else none
 | _ => none
def Z4 (id o : Nat) : V → V
 | .sl (some _) n cs => .via id o n cs
 | v => v.dis1
def aLv (H : aB) : List V → Option V
 | [.ptr id o] => (rM H id o).map (Z4 id o)
 | [.fp cs i] => (cs[i]?).map V.dis1
 | _ => none
def aSt (lim : Option Nat) (H : aB) : List V → Option (V × aB)
 | [.ptr id o, v] => if v.single && (rM H id o).isSome && bN lim id (v.rb ·) then some (.tup [], yV H id o v) else none
 | _ => none
def aG4 (lim : Option Nat) (n : Nat) (H : aB) : List V → Option (V × aB)
 | [.ptr id o, .agg xs] => if xs.length = n && (bX H id o n).isSome && bN lim id (V.rbL · xs) then some (.tup [], H.set id (fB ((H[id]?).getD []) o xs)) else none
 | _ => none
def aNc : List V → Option V
 | [.ptr id o] => some (.ptr id o)
 | [.fp cs i] => some (.fp cs i)
 | _ => none
def aKj (n : Nat) (H : aB) : List V → Option (V × aB)
 | [v] => if v.boxy && v.cells.length == n then some (.ptr H.length 0, H ++ [v.cells]) else none
 | _ => none
def aHd (n : Nat) : List V → Option V
 | [v] => if v.boxy && v.cells.length == n then some (.fp (v.cells.map V.dis1) 0) else none
 | _ => none
def V.ntup : V → Option V
 | .tup _ => none
 | .via .. => none
 | v => some v
def aHe (off : Nat) (n : Option Nat) : List V → Option V
 | [.agg cs] => match n with
   | none => (cs[off]?).bind V.ntup
   | some n => if off + n ≤ cs.length then some (.agg ((cs.drop off).take n)) else none
 | _ => none
def aHf : List V → Option V
 | [.str s, .int _ i] => if 0 ≤ i then (s[i.toNat]?).map fun c => .int .u8 c.toNat else none
 | _ => none
def aHg (sz : Nat) (one : Bool) (len : Nat) : List V → Option V
 | [.agg cs, .int _ i] =>
   if 0 ≤ i ∧ i < (len : Int) then
    if one then (cs[i.toNat * sz]?).bind V.ntup
    else if i.toNat * sz + sz ≤ cs.length then some (.agg ((cs.drop (i.toNat * sz)).take sz)) else none
   else none
 | _ => none
def qH (lo hi : Bool) (n : Nat) (bs : List V) : Option (Nat × Nat) :=
 match lo, hi, bs with
 | false, false, [] => some (0, n)
 | true, false, [.int _ l] => if 0 ≤ l ∧ l ≤ (n : Int) then some (l.toNat, n) else none
 | false, true, [.int _ h] => if 0 ≤ h ∧ h ≤ (n : Int) then some (0, h.toNat) else none
 | true, true, [.int _ l, .int _ h] => if 0 ≤ l ∧ l ≤ h ∧ h ≤ (n : Int) then some (l.toNat, h.toNat) else none
 | _, _, _ => none
def aHh (sz : Nat) (lo hi : Bool) : List V → Option V
 | .sl own n cs :: bs => (qH lo hi n bs).bind fun (l, h) => if cs.length = n * sz then
  some (.sl (if h = n ∧ own = some sz then own else none) (h - l) ((cs.drop (l * sz)).take ((h - l) * sz))) else none
 | .ar z id off n k :: bs => (qH lo hi (if hi then k else n) bs).bind fun (l, h) => if z = sz then (if l < k ∨ l = 0 then some (.ar sz id (off + l * sz) (h - l) (k - l)) else some (.sl none 0 [])) else none
 | _ => none
def aDu (sz : Nat) : List V → Option V
 | [.ar z id off n k, .int _ i, .int _ j, .int _ m] => if z = sz ∧ 0 ≤ i ∧ i ≤ j ∧ j ≤ m ∧ m ≤ (k : Int) then
  (if i < m ∨ i = 0 then some (.ar sz id (off + i.toNat * sz) (j.toNat - i.toNat) (m.toNat - i.toNat)) else some (.sl none 0 [])) else none
 | _ => none
def V.noStr : V → Bool
 | .str _ => false
 | _ => true
def aNq (lim : Option Nat) (sz : Nat) (H : aB) : List V → Option (V × aB)
 | [.ar z id off n _, x] => if z = sz ∧ bN lim id (fun _ => true) ∧ x.noStr then (H[id]?).bind fun cs => (sQ sz x H).bind fun q =>
  if off + min q.1 n * sz ≤ cs.length then some (.int .i64 (min q.1 n : Nat), H.set id (fB cs off ((q.2.take (min q.1 n * sz)).map V.dis1))) else none else none
 | _ => none
def aRp (ts : List TypeId) : V → V → Option Bool
 | .ifc t v, .ifc u w => if t = u then (match v, w with
  | .int k a, .int j b => if ts.contains t ∧ k = j then some (a == b) else none
  | _, _ => none) else some false
 | .nili, .ifc .. => some false
 | .ifc .., .nili => some false
 | _, _ => none
def aNr (neg : Bool) (ts : List TypeId) : List V → Option V
 | [x, y] => (aRp ts x y).map fun b => .bool (neg != b)
 | _ => none
def aQp (rt gs : Nat) (g : FuncId) : List V → Option V
 | [.fn f [], .ifc t _] => if f = g then some (.ifc rt (.agg [.raw gs t])) else none
 | _ => none
def aQq (rt gs : Nat) (ts : List TypeId) : List V → Option V
 | [.ifc u (.agg [.raw b t])] => if u = rt ∧ b = gs ∧ ts.contains t then some (.bool true) else none
 | _ => none
def aKk (lo hi : Bool) : List V → Option V
 | .str s :: bs => (qH lo hi s.length bs).map fun (l, h) => .str ((s.drop l).take (h - l))
 | _ => none
def aQr (sz bytes : Nat) (H : aB) : List V → Option V
 | [s, x] => eQ sz bytes s x H
 | _ => none
def aNs (lim : Option Nat) (sz bytes : Nat) (H : aB) : List V → Option (V × aB)
 | [s, x] => match s with
   | .via id off _ _ =>
     if bN lim id (fun _ => true) then (rM H id off).bind fun s => (eQ sz bytes s x (yV H id off s.dis1)).map (·, yV H id off s.dis1) else none
   | s => (eQ sz bytes s x H).map (·, H)
 | _ => none
def Z5 (lim : Option Nat) (sz bytes : Nat) (H : aB) : List V → Option (V × aB)
 | [.nls, x] => (sQ sz x H).bind fun q => if q.1 * bytes ≤ room then (if q.1 = 0 then some (.nls, H) else some (.ar sz H.length 0 q.1 q.1, H ++ [q.2.map V.dis1])) else none
 | [.ar z id off n k, x] => if z = sz ∧ bN lim id (fun _ => true) then (H[id]?).bind fun cs => (sQ sz x H).bind fun q =>
  if n + q.1 ≤ k then (if off + (n + q.1) * sz ≤ cs.length then some (.ar sz id off (n + q.1) k, H.set id (fB cs (off + n * sz) (q.2.map V.dis1))) else none)
  else if off = 0 ∧ cs ≠ [] ∧ n * sz ≤ cs.length ∧ (n + q.1) * bytes ≤ room then some (.ar sz H.length 0 (n + q.1) (n + q.1), H.set id [] ++ [cs.take (n * sz) ++ q.2.map V.dis1]) else none
  else none
 | _ => none
def aG5 (lim : Option Nat) (sz : Nat) (zero : List V) (H : aB) : List V → Option (V × aB)
 | [.ar z id off n _] => if z = sz ∧ bN lim id (fun _ => true) then (H[id]?).bind fun cs => if off + n * sz ≤ cs.length then some (.tup [], H.set id (fB cs off (kJ zero n))) else none else none
 | [.sl _ 0 _] => some (.tup [], H)
 | [.nls] => some (.tup [], H)
 | _ => none
def aHi : Bool → List V → Option V
 | false, [.sl _ n _] => some (.int .i64 n)
 | false, [.ar _ _ _ n _] => some (.int .i64 n)
 | false, [.nls] => some (.int .i64 0)
 | true, [.str s] => some (.int .i64 s.length)
 | _, _ => none
def aMx : List V → Option V
 | v :: r => mxn (fun x y => decide (y > x)) v r
 | _ => none
def aMn : List V → Option V
 | v :: r => mxn (fun x y => decide (y < x)) v r
 | _ => none
def aNt (k : IntKind) : List V → Option V
 | [.int _ n] => some (.int k (k.wrap n))
 | _ => none
def aNu : List V → Option V
 | [.str s] => some (.str s)
 | _ => none
def aHj : List V → Option V
 | [.sl _ n cs] => if cs.length = n then (bytesOf cs).map V.str else none
 | _ => none
def aNv : List V → Option V
 | [.str s] => some (.sl (some 1) s.length (s.map fun c => .int .u8 c.toNat))
 | _ => none
def aNw (t : TypeId) : List V → Option V
 | [v] => if v.noVia then some (.ifc t v) else none
 | _ => none
def aHk (t : TypeId) (ok : Bool) (zero : V) : List V → Option V
 | [.ifc t' v] => if t' = t then some (if ok then .tup [v.dis2, .bool true] else v.dis) else if ok then some (.tup [zero, .bool false]) else none
 | [.nili] => if ok then some (.tup [zero, .bool false]) else none
 | _ => none
def aHl (ts ns : List TypeId) (ok : Bool) : List V → Option V
 | [.ifc t v] => if ts.contains t then some (if ok then .tup [.ifc t v, .bool true] else .ifc t v) else if ns.contains t && ok then some (.tup [.nili, .bool false]) else none
 | [.nili] => if ok then some (.tup [.nili, .bool false]) else none
 | _ => none
def aHm (i : Nat) : List V → Option V
 | [.tup vs] => (vs[i]?).bind V.ntup
 | _ => none
def aHn (sz bytes : Nat) (zero : List V) (H : aB) : List V → Option (V × aB)
 | [.int _ l, .int _ c] =>
   if 0 ≤ l ∧ l ≤ c ∧ bytes * c ≤ 140737488355328 ∧ c < 9223372036854775808 then some (.ar sz H.length 0 l.toNat c.toNat, H ++ [kJ zero c.toNat]) else none
 | _ => none
def aDv (sz bytes : Nat) (zero : List V) : List V → Option V
 | [.int _ l, .int _ c] =>
   if 0 ≤ l ∧ l = c ∧ bytes * c ≤ 140737488355328 ∧ c < 9223372036854775808 then some (.sl (some sz) c.toNat ((kJ zero c.toNat).map V.dis1)) else none
 | _ => none
def apply (lim : Option Nat) (o : O) (vs : List V) (H : aB) : Option (V × aB) :=
 match o with
 | .bin op => (aUl op vs).map (·, H)
 | .beq neg => (aNm neg vs).map (·, H)
 | .peq neg => (aNn neg vs).map (·, H)
 | .ieq neg => (aNo neg vs).map (·, H)
 | .un op => (aUn op vs).map (·, H)
 | .fa off => (aFa off vs).map (·, H)
 | .ix sz => (aIx sz vs).map (·, H)
 | .ixa sz len => (Z3 sz len vs).map (·, H)
 | .ld => (aLd H vs).map (·, H)
 | .ldn n => (O8 n H vs).map (·, H)
 | .lv => (aLv H vs).map (·, H)
 | .st => aSt lim H vs
 | .stn n => aG4 lim n H vs
 | .nc => (aNc vs).map (·, H)
 | .box n => aKj n H vs
 | .bfp n => (aHd n vs).map (·, H)
 | .alc zero => if vs.isEmpty then some (.ptr H.length 0, H ++ [zero]) else none
 | .bld zero parts => (aW zero parts vs).map fun cs => (.agg cs, H)
 | .bsl sz zero len offs => if len * sz ≤ 16777216 then (aW (kJ zero len) (offs.map (·, sz)) vs).map fun cs => (.sl (some sz) len (cs.map V.dis1), H) else none
 | .fld off n => (aHe off n vs).map (·, H)
 | .ixs => (aHf vs).map (·, H)
 | .ixv sz one len => (aHg sz one len vs).map (·, H)
 | .slc sz lo hi => (aHh sz lo hi vs).map (·, H)
 | .sls lo hi => (aKk lo hi vs).map (·, H)
 | .app sz bytes => (aQr sz bytes H vs).map (·, H)
 | .apv sz bytes => aNs lim sz bytes H vs
 | .apg sz bytes => Z5 lim sz bytes H vs
 | .clr sz zero => aG5 lim sz zero H vs
 | .sl3 sz => (aDu sz vs).map (·, H)
 | .cpy sz => aNq lim sz H vs
 | .ife neg ts => (aNr neg ts vs).map (·, H)
 | .tyo rt gs g => (aQp rt gs g vs).map (·, H)
 | .cmb rt gs _ ts => (aQq rt gs ts vs).map (·, H)
 | .len s => (aHi s vs).map (·, H)
 | .kst v => some (v, H)
 | .mx => (aMx vs).map (·, H)
 | .mn => (aMn vs).map (·, H)
 | .cvi k => (aNt k vs).map (·, H)
 | .cvs => (aNu vs).map (·, H)
 | .b2s => (aHj vs).map (·, H)
 | .s2b => (aNv vs).map (·, H)
 | .mif t => (aNw t vs).map (·, H)
 | .tas t ok zero => (aHk t ok zero vs).map (·, H)
 | .tai ts ns ok => (aHl ts ns ok vs).map (·, H)
 | .ext i => (aHm i vs).map (·, H)
 | .mkf f => if vs.all V.single then some (.fn f vs, H) else none
 | .mks sz bytes zero => aHn sz bytes zero H vs
 | .mkv sz bytes zero => (aDv sz bytes zero vs).map (·, H)
 | .pan => none
def eget : aQ → Nat → Option V
 | [], _ => none
 | (s, v) :: e, t => if s = t then some v else eget e t
def aX : aQ → Nat → aQ
 | [], _ => []
 | (s, v) :: e, t => if s = t then aX e t else (s, v) :: aX e t
def vB (e : aQ) (t : Nat) (v : V) : aQ := (t, v) :: aX e t
def cO (s : Nat) (v : V) : aQ → aQ
 | [] => [(s, v)]
 | (t, u) :: e => match Nat.ble s t with | true => (s, v) :: (t, u) :: e | false => (t, u) :: cO s v e
def aZ (l : List Nat) : aQ → aQ
 | [] => []
 | (s, v) :: e => if l.contains s then cO s v (aZ l e) else aZ l e
def eI : X → aQ → Option (V × aQ)
 | .t n, e => (eget e n).map (·.dis, e)
 | .m n, e => (eget e n).map (·, aX e n)
 | .k v, e => some (v, e)
def dB : List X → aQ → Option (List V × aQ)
 | [], e => some ([], e)
 | x :: xs, e => (eI x e).bind fun r => (dB xs r.2).map fun q => (r.1 :: q.1, q.2)
abbrev Oracle := Option Nat → FuncId → List V → aB → Option (V × aB)
def gK : aQ → Bool
 | [] => true
 | (_, v) :: e => v.noVia && gK e
def O.writes : O → Bool
 | .st | .stn _ | .apv .. | .apg .. | .clr .. | .cpy _ => true
 | _ => false
structure Orc where
 run : Oracle
 pu : FuncId → Bool
mutual
def eqV : V → V → Bool
 | .bool a, x => match x with | .bool b => a == b | _ => false
 | .int k n, x => match x with | .int j m => decide (k = j) && decide (n = m) | _ => false
 | .str a, x => match x with | .str b => decide (a = b) | _ => false
 | .ptr i o, x => match x with | .ptr j p => Nat.beq i j && Nat.beq o p | _ => false
 | .nilp, x => match x with | .nilp => true | _ => false
 | .fp c i, x => match x with | .fp d j => eqL c d && Nat.beq i j | _ => false
 | .via i o n c, x => match x with | .via j p m d => Nat.beq i j && Nat.beq o p && Nat.beq n m && eqL c d | _ => false
 | .sl o n c, x => match x with | .sl p m d => decide (o = p) && Nat.beq n m && eqL c d | _ => false
 | .ar a b c d e, x => match x with | .ar a' b' c' d' e' => Nat.beq a a' && Nat.beq b b' && Nat.beq c c' && Nat.beq d d' && Nat.beq e e' | _ => false
 | .fn f c, x => match x with | .fn g d => Nat.beq f g && eqL c d | _ => false
 | .nilf, x => match x with | .nilf => true | _ => false
 | .ifc t v, x => match x with | .ifc u w => Nat.beq t u && eqV v w | _ => false
 | .nili, x => match x with | .nili => true | _ => false
 | .nls, x => match x with | .nls => true | _ => false
 | .raw a b, x => match x with | .raw c d => Nat.beq a c && Nat.beq b d | _ => false
 | .agg c, x => match x with | .agg d => eqL c d | _ => false
 | .tup c, x => match x with | .tup d => eqL c d | _ => false
def eqL : List V → List V → Bool
 | [], x => match x with | [] => true | _ => false
 | v :: r, x => match x with | w :: s => eqV v w && eqL r s | _ => false
end
mutual
theorem aG7 : ∀ a : V, eqV a a = true
 | .bool _ | .int .. | .str _ | .nilp | .nilf | .nili | .nls => by simp [eqV]
 | .ptr .. | .ar .. | .raw .. => by simp [eqV]
 | .fp c i => by simp [eqV, iX c]
 | .via i o n c => by simp [eqV, iX c]
 | .sl o n c => by simp [eqV, iX c]
 | .fn f c => by simp [eqV, iX c]
 | .ifc t v => by simp [eqV, aG7 v]
 | .agg c => by simp [eqV, iX c]
 | .tup c => by simp [eqV, iX c]
theorem iX : ∀ a : List V, eqL a a = true
 | [] => by simp [eqL]
 | v :: r => by simp [eqL, aG7 v, iX r]
end
def pre : aB → aB → Bool
 | [], _ => true
 | a :: r, b :: s => eqL a b && pre r s
 | _ :: _, [] => false
theorem Z6 : ∀ H : aB, pre H H = true
 | [] => rfl
 | a :: r => by simp [pre, iX, Z6 r]
def aDw : Nat → aB → aB → Bool
 | _, [], _ => true
 | 0, _ :: r, _ :: s => pre r s
 | n + 1, a :: r, b :: s => eqL a b && aDw n r s
 | _, _ :: _, [] => false
def sR : Nat → aB → aB → Bool
 | _, [], _ => true
 | 0, a :: r, b :: s => eqL a b && decide (r.length ≤ s.length)
 | n + 1, _ :: r, _ :: s => sR n r s
 | _, _ :: _, [] => false
def okN (nw : Nat) (args : List V) (H H' : aB) : Bool :=
 match nw, args with
 | 0, _ => true
 | 1, _ => pre H H'
 | 3, .ptr id _ :: _ => sR id H H'
 | _, .ptr id _ :: _ => aDw id H H'
 | _, _ => pre H H'
def aNx (nw : Nat) (args : List V) (H : aB) (q : V × aB) : Option (V × aB) := if okN nw args H q.2 then some q else none
theorem qI {nw : Nat} {args : List V} {H : aB} {x : Option (V × aB)} {q : V × aB} (h : x.bind (aNx nw args H) = some q) : x = some q ∧ okN nw args H q.2 = true := by
 obtain ⟨y, hy, h⟩ := Option.bind_eq_some_iff.1 h
 unfold aNx at h
 split at h
 ·cases h; exact ⟨hy, by assumption⟩
 ·cases h
theorem P5 {nw : Nat} {args : List V} {H : aB} {x : Option (V × aB)} {q : V × aB} (h : x = some q) (k : okN nw args H q.2 = true) : x.bind (aNx nw args H) = some q := by
 rw [h, Option.bind_some, aNx, if_pos k]
theorem aCp : ∀ (n : Nat) (H : aB), aDw n H H = true
 | _, [] => by simp [aDw]
 | 0, _ :: r => by simp [aDw, Z6 r]
 | n + 1, a :: r => by simp [aDw, iX, aCp n r]
theorem y9 : ∀ (n : Nat) (H : aB), sR n H H = true
 | _, [] => by simp [sR]
 | 0, _ :: r => by simp [sR, iX]
 | n + 1, a :: r => by simp [sR, y9 n r]
theorem aG8 (nw : Nat) (args : List V) (H : aB) : okN nw args H H = true := by
 unfold okN; split <;> first | rfl | exact Z6 H | exact aCp _ H | exact y9 _ H
def step (T : Orc) (s : Option Nat) (i : I) (e : aQ) (H : aB) : Option (V × aQ × aB) :=
 match i with
 | .mv x => (eI x e).map fun r => (r.1, r.2, H)
 | .op o xs => (dB xs e).bind fun r => if !o.writes || gK r.2 then (apply s o r.1 H).map fun q => (q.1, r.2, q.2) else none
 | .pick c a b => (eI c e).bind fun r => match r.1 with
   | .bool t => (eI (if t then a else b) r.2).map fun q => (q.1, q.2, H)
   | _ => none
 | .exm i t => match eget e t with
   | some (.tup vs) => ((vs[i]?).bind V.ntup).map fun v => (v, vB e t (.tup (vs.set i v.dis2)), H)
   | _ => none
 | .call f xs nw => (dB xs e).bind fun r => if T.pu f || gK r.2 then ((T.run s f r.1 H).bind (aNx nw r.1 H)).map fun q => (q.1, r.2, q.2) else none
 | .cav x xs => (eI x e).bind fun p => match p.1 with
   | .fn f caps => (dB xs p.2).bind fun r => if T.pu f || gK r.2 then (T.run s f (r.1 ++ caps.map V.dis1) H).map fun q => (q.1, r.2, q.2) else none
   | _ => none
 | .cam tbl x xs => (eI x e).bind fun p => match p.1 with
   | .ifc t v => match tbl.lookup t with
     | some f => (dB xs p.2).bind fun r => if T.pu f || gK r.2 then (T.run s f (v.dis :: r.1) H).map fun q => (q.1, r.2, q.2) else none
     | none => none
   | _ => none
def pD (e : aQ) (d : Option Nat) (v : V) : aQ := match d with | some t => vB e t v | none => e
def aBb (e : aQ) (d : Option Nat) : aQ := pD e d (.tup [])
def lA (T : Orc) (s : Option Nat) (o : Option Nat × Option (Nat × Bool) × I) (e : aQ) (H : aB) : Option (aQ × aB) :=
 match o.2.1 with
 | none => (step T s o.2.2 e H).map fun r => (pD r.2.1 o.1 r.1, r.2.2)
 | some (g, want) => match eget e g with
   | some (.bool c) => if c = want then (step T s o.2.2 e H).map fun r => (pD r.2.1 o.1 r.1, r.2.2) else some (aBb e o.1, H)
   | some (.tup _) => some (aBb e o.1, H)
   | _ => none
def lB (T : Orc) (s : Option Nat) : List (Option Nat × Option (Nat × Bool) × I) → aQ → aB → Option (aQ × aB)
 | [], e, H => some (e, H)
 | o :: r, e, H => (lA T s o e H).bind fun q => lB T s r q.1 q.2
def far : Nat := 1000000000
def near : Nat := 1000000001
def fK (x : Option V) (n : Nat) (y : Option V) (m : Nat) : Bool :=
 match x, y with
 | some (.ptr i o), some (.ptr j p) => if n == near && m == near then decide (i = j) else decide (i ≠ j) || (n != far && m != far && (decide (o + n ≤ p) || decide (p + m ≤ o)))
 | some (.fp ..), some _ => true
 | some _, some (.fp ..) => true
 | _, _ => false
def nK : List (Nat × Nat × Nat × Nat) → aQ → Bool
 | [], _ => true
 | (a, n, b, m) :: r, e => fK (eget e a) n (eget e b) m && nK r e
def sS : List Nat → aQ → Bool
 | [], _ => true
 | t :: r, e => (match eget e t with | some (.fp ..) => true | some (.tup _) => true | none => true | _ => false) && sS r e
def hU : List Nat → aQ → Bool
 | [], _ => true
 | t :: r, e => (match eget e t with | some v => v.rb 0 | none => false) && hU r e
inductive Ex where
 | nrm | ret | exit (id : Nat)
 deriving DecidableEq, Inhabited
abbrev oY := Ex × aQ × aB
def o7 (m : Nat) : aB → aB → Bool
 | a :: r, b :: s => (V.rbL m b || eqL a b) && o7 m r s
 | _, _ => true
def C9 (l : Nat) (H H' : aB) : Bool := o7 H.length (H.drop l) (H'.drop l)
def cK (s : Option Nat) (G : aB) (e : aQ) (H : aB) : aB :=
 match s with
 | some l => if l ≤ G.length ∧ G.length < H.length ∧ e.all (fun p => p.2.rb G.length) ∧ C9 l G H then H.take G.length else H
 | none => H
def D0 (s : Option Nat) (body : aQ → aB → Option oY) : Nat → aQ → aB → Option oY
 | 0, _, _ => none
 | n + 1, e, H => (body e H).bind fun r => match r.1 with
   | .nrm => D0 s body n r.2.1 (cK s H r.2.1 r.2.2)
   | x => some (x, r.2.1, r.2.2)
def d7 (T : Orc) (s : Option Nat) (n : Nat) : C → aQ → aB → Option oY
 | .nop, e, H => some (.nrm, e, H)
 | .reg keep conf free fps ops, e, H => if !gK e then none else (lB T s ops e H).bind fun r => if nK conf r.1 && hU free r.1 && sS fps r.1 then some (.nrm, aZ keep r.1, r.2) else none
 | .seq a b, e, H => (d7 T s n a e H).bind fun r => match r.1 with
   | .nrm => d7 T s n b r.2.1 r.2.2
   | x => some (x, r.2.1, r.2.2)
 | .cnd x a b, e, H => (eI x e).bind fun p => match p.1 with
   | .bool t => if t then d7 T s n a p.2 H else d7 T s n b p.2 H
   | _ => none
 | .blk id c, e, H => (d7 T s n c e H).map fun r => match r.1 with
   | .exit j => if j = id then (.nrm, r.2.1, r.2.2) else (.exit j, r.2.1, r.2.2)
   | x => (x, r.2.1, r.2.2)
 | .loop c, e, H => D0 s (d7 T s n c) n e H
 | .exit id, e, H => some (.exit id, e, H)
 | .ret, e, H => some (.ret, e, H)
def aA : Nat → List V → aQ
 | _, [] => []
 | i, v :: r => (i, v) :: aA (i + 1) r
def M6 (e : aQ) (H : aB) : Rs → Option V
 | .t n => eget e n
 | .cell n => match eget e n with
   | some (.ptr id o) => (rM H id o).map V.dis1
   | _ => none
 | .cells n sz => match eget e n with
   | some (.ptr id o) => (bX H id o sz).map fun cs => .agg (cs.map V.dis1)
   | _ => none
def aP (e : aQ) (H : aB) : List Rs → Option (List V)
 | [] => some []
 | r :: rs => (M6 e H r).bind fun v => if v.noVia then (aP e H rs).map (v :: ·) else none
def cA (H : aB) (n0 : Nat) : V → V
 | .ar sz id off n k => if n0 ≤ id then match bX H id off (n * sz) with | some cs => .sl none n (cs.map V.dis1) | none => .ar sz id off n k else .ar sz id off n k
 | .nls => .sl none 0 []
 | v => v
def gL (H : aB) (n0 : Nat) : V → V
 | .ar sz id off n k => cA H n0 (.ar sz id off n k)
 | .nls => .sl none 0 []
 | .agg cs => .agg (cs.map (cA H n0))
 | v => v
def V.flat : V → Bool
 | .bool _ | .int .. | .str _ => true
 | _ => false
def qJ (mode : Mode) (args : List V) (H : aB) : List V :=
 match mode with
 | .F => args.map (gL H 0)
 | _ => args
def tie (vs : List V) : V := match vs with | [v] => v | vs => .tup vs
def base (mode : Mode) (args : List V) (H : aB) : aB :=
 match mode with
 | .P => if V.rbL 0 args then [] else H
 | .F => if V.rbL 0 (qJ .F args H) then [] else [[]]
 | _ => H
def o8 (mode : Mode) (s : Option Nat) (H : aB) : Option Nat :=
 match mode with
 | .P => some H.length
 | .F => some H.length
 | _ => s
def aN (mode : Mode) (s : Option Nat) (H H0 : aB) (vs : List V) (H' : aB) : Option (V × aB) :=
 match mode, s with
 | .P, _ => if V.rbL H0.length (vs.map (gL H' H0.length)) then some (tie (vs.map (gL H' H0.length)), H) else none
 | .T, some l => if V.rbL H.length vs && C9 l H H' then some (tie vs, H'.take H.length) else some (tie vs, H')
 | .T, none => some (tie vs, H')
 | .K, _ => some (tie vs, H')
 | .F, _ => if H0.isEmpty && vs.all V.flat then some (tie vs, H) else none
abbrev Prim := List V → Option V
structure Tab where
 code : FuncId → Option CF
 prim : FuncId → Option Prim
def Tab.pu (T : Tab) (f : FuncId) : Bool := (T.prim f).isSome || (match T.code f with | some cf => cf.mode == .P || cf.mode == .F | none => false)
def hY (T : Tab) : Nat → Oracle
 | 0, _, _, _, _ => none
 | n + 1, s, f, args, H =>
   match T.prim f with
   | some p => (p args).bind fun v => if v.noVia then some (v, H) else none
   | none => match T.code f with
     | none => none
     | some cf =>
       if args.length = cf.np then
        (d7 ⟨hY T n, T.pu⟩ (o8 cf.mode s (base cf.mode args H)) n cf.body (aA 0 (qJ cf.mode args H)) (base cf.mode args H)).bind fun r => match r.1 with
         | .exit _ => none
         | _ => (aP r.2.1 r.2.2 cf.res).bind fun vs => aN cf.mode s H (base cf.mode args H) vs r.2.2
       else none
end Go.Abs
namespace Go.Abs
mutual
def okV (c : Value) : V → Bool
 | .bool b => match c with | .bool d => d == b | _ => false
 | .int k n => match c with | .int j m => j == k && m == n | _ => false
 | .str l => match c with | .string s => s.data.toList == l | _ => false
 | .nilp => match c with | .pointer none => true | _ => false
 | .sl _ n cs => match c with | .slice none l cap => l == 0 && cap == 0 && n == 0 && cs.isEmpty | _ => false
 | .nilf => match c with | .nilFunc => true | _ => false
 | .nili => match c with | .nilIface => true | _ => false
 | .nls => match c with | .slice none l cap => l == 0 && cap == 0 | _ => false
 | .agg l => match c with | .agg cs => S4 cs.toList l | _ => false
 | .tup l => match c with | .tuple vs => vs.toList.isEmpty && l.isEmpty | _ => false
 | .fn g l => match c with | .func (.func f) first caps => f == g && first.toList.isEmpty && caps.toList.isEmpty && l.isEmpty | _ => false
 | _ => false
def S4 (cs : List Value) : List V → Bool
 | [] => cs.isEmpty
 | v :: vs => match cs with
   | [] => false
   | c :: cs => v.single && okV c v && S4 cs vs
end
def okX : Operand → X → Bool
 | .tmp n, .t m => n == m
 | .tmp n, .m m => n == m
 | .const v, .k u => okV v u
 | .func f, .k (.fn g l) => f == g && l.isEmpty
 | _, _ => false
def G2 : List Operand → List X → Bool
 | [], [] => true
 | o :: os, x :: xs => okX o x && G2 os xs
 | _, _ => false
section
variable (P : Program)
def dQ (t : TypeId) : Bool := match P.underlying t with | some (.struct _) | some (.array ..) => true | _ => false
def fP (t : TypeId) (n : Nat) : Bool := match P.info? t with | some i => i.size == n | none => false
def lP (t : TypeId) (n : Nat) : Bool := match P.info? t with | some i => i.bytes == n | none => false
def oI (t : TypeId) (z : List V) : Bool :=
 match (P.info? t).bind (·.zero) with
 | some v => S4 v.cells.toList z
 | none => false
def G5 (t : TypeId) (z : V) : Bool :=
 match (P.info? t).bind (·.zero) with
 | some v => okV v z
 | none => false
def l8 (fs : Array Field) : List (Nat × Operand) → List (Nat × Nat) → Bool
 | [], [] => true
 | (i, _) :: ps, (off, size) :: qs => (match fs[i]? with | some f => f.offset == off && fP P f.type size | none => false) && l8 fs ps qs
 | _, _ => false
def wP (size : Nat) : List (Nat × Operand) → List Nat → Bool
 | [], [] => true
 | (i, _) :: ps, off :: qs => i * size == off && wP size ps qs
 | _, _ => false
def qT (f : FuncId) : Bool :=
 match P.funcs[f]? with
 | some fn => fn.body.isSome && fn.name != "runtime.NumGoroutine"
 | none => false
def G6 (name : String) (t : TypeId) (f : FuncId) : Bool :=
 match P.info? t with
 | some i => match i.methods.find? (·.name == name) with
   | some m => m.path.isEmpty && (match m.func with
     | some (g, pr) => g == f && qT P f && (match P.underlying t with | some (.pointer _) => pr | some _ => !pr | none => false)
     | none => false)
   | none => false
 | none => false
def aI0 (name : String) (t : TypeId) (f : FuncId) : Bool :=
 match P.info? t with
 | some i => match i.methods.find? (·.name == name) with
   | some m => m.path.isEmpty && (match m.func with
     | some (g, pr) => g == f && (match P.underlying t with | some (.pointer _) => pr | some _ => !pr | none => false)
     | none => false)
   | none => false
 | none => false
def aLp (f : FuncId) (name : String) : Bool :=
 match P.funcs[f]? with
 | some fn => fn.body.isNone && fn.name == name && (Extern.findNext fn).isNone
 | none => false
def aBu (want : Array (String × TypeId)) (got : Array Method) : Bool := !(want.toList.filter fun (name, sig) => !got.any fun m => m.name == name && m.sig == sig).isEmpty
def okO (o : Op) (a : O) : Bool :=
 match o, a with
 | .binOp op t _ _ _, .bin op' => op == op' && (match P.underlying t with | some (.int _) | some .string => true | _ => false)
 | .binOp op t x y _, .beq neg => (op == .eql && !neg || op == .neq && neg) && (match P.underlying t with | some .bool => true | _ => false)
 | .binOp op t x y _, .peq neg => (op == .eql && !neg || op == .neq && neg) && (match P.underlying t with | some (.pointer _) => true | _ => false)
 | .binOp op t x y _, .ife neg ts => (op == .eql && !neg || op == .neq && neg) && (match P.underlying t with | some (.interface _) => true | _ => false) &&
  ts.all (fun u => match P.info? u with | some i => i.comparable && (match P.underlying u with | some (.int _) => true | _ => false) | none => false)
 | .binOp op t x y _, .ieq neg => (op == .eql && !neg || op == .neq && neg) && (match P.underlying t with | some (.interface _) => true | _ => false) &&
  (match x, y with | .const _, _ => true | _, .const _ => true | _, _ => false)
 | .unOp op _ x, .un op' => op == op'
 | .fieldAddr s x f, .fa off => (match P.underlying s with
  | some (.struct fs) => (match fs[f]? with | some g => g.offset == off && (match P.info? g.type with | some i => i.size != 0 | none => false) | none => false)
  | _ => false)
 | .indexAddr t x i, .ix sz => (match P.underlying t with | some (.slice e) => fP P e sz | _ => false)
 | .indexAddr t x i, .ixa sz len => (match P.underlying t with | some (.array n e) => n == len && fP P e sz | _ => false)
 | .load t x, .ld | .load t x, .lv => (match P.underlying t with | some (.struct _) | some (.array ..) | none => false | _ => true)
 | .load t x, .ldn n => dQ P t && fP P t n
 | .store t x v, .st => fP P t 1
 | .store t x v, .stn n => fP P t n
 | .nilCheck x, .nc => true
 | .box _ x, .box _ => true
 | .box _ x, .bfp _ => true
 | .alloc t, .alc z => oI P t z
 | .build t ps, .bld z qs => oI P t z && (match P.underlying t with
  | some (.struct fs) => fs.toList.all (fun f => (P.info? f.type).isSome) && l8 P fs ps.toList qs
  | some (.array _ e) => (match P.info? e with | some i => wP i.size ps.toList (qs.map (·.1)) && qs.all (·.2 == i.size) | none => false)
  | _ => false)
 | .buildSlice t n ps, .bsl sz z len offs => n == len && (match P.underlying t with
  | some (.slice e) => fP P e sz && (if n * sz = 0 then z.isEmpty else oI P e z && z.length == sz) && wP sz ps.toList offs
  | _ => false)
 | .field t x f, .fld off sz => (match P.underlying t with
  | some (.struct fs) => (match fs[f]? with
    | some g => g.offset == off && (match sz with | none => (match P.underlying g.type with | some (.struct _) | some (.array ..) | none => false | _ => true) | some n => dQ P g.type && fP P g.type n)
    | none => false)
  | _ => false)
 | .index t x i, .ixs => (match P.underlying t with | some .string => true | _ => false)
 | .index t x i, .ixv sz one len => (match P.underlying t with
  | some (.array n e) => n == len && fP P e sz && (match P.underlying e with | some (.struct _) | some (.array ..) => !one | some _ => one | none => false)
  | _ => false)
 | .slice t x lo hi none, .slc sz l h => l == lo.isSome && h == hi.isSome && (match P.underlying t with | some (.slice e) => fP P e sz | _ => false)
 | .slice t x (some _) (some _) (some _), .sl3 sz => (match P.underlying t with | some (.slice e) => fP P e sz | _ => false)
 | .slice t x lo hi none, .sls l h => l == lo.isSome && h == hi.isSome && (match P.underlying t with | some .string => true | _ => false)
 | .call { callee := .builtin .append, args, argTypes }, .app sz bytes
 | .call { callee := .builtin .append, args, argTypes }, .apv sz bytes
 | .call { callee := .builtin .append, args, argTypes }, .apg sz bytes => (match (argTypes[0]? : Option TypeId), (argTypes[1]? : Option TypeId) with
  | some t, some u => (match P.underlying t, P.underlying u with
    | some (.slice e), some d => fP P e sz && lP P e bytes && 0 < sz && 0 < bytes && (match d with | .int _ => false | _ => true) && (match (P.info? e).bind (·.zero) with | some zv => zv.cells.size == sz | none => false)
    | _, _ => false)
  | _, _ => false)
 | .call { callee := .builtin .len, args, argTypes }, .len s => args.size == 1 && (match (argTypes[0]? : Option TypeId) with
  | some t => (match P.underlying t with | some .string => s | some (.slice _) => !s | _ => false)
  | none => false)
 | .call { callee := .builtin .len, args, argTypes }, .kst v => args.size == 1 && (match (argTypes[0]? : Option TypeId) with
  | some t => (match P.underlying t with
    | some (.array n _) => okV (goInt n) v
    | some (.pointer a) => (match P.underlying a with | some (.array n _) => okV (goInt n) v | _ => false)
    | _ => false)
  | none => false)
 | .call { callee := .builtin .clear, args, argTypes }, .clr sz z => args.size == 1 && (match (argTypes[0]? : Option TypeId) with
  | some t => (match P.underlying t with | some (.slice e) => fP P e sz && oI P e z && z.length == sz | _ => false)
  | none => false)
 | .call { callee := .builtin .copy, args, argTypes }, .cpy sz => args.size == 2 && (match (argTypes[0]? : Option TypeId) with
  | some t => (match P.underlying t with | some (.slice e) => fP P e sz && 0 < sz | _ => false)
  | none => false)
 | .call { callee := .builtin .max, .. }, .mx => true
 | .call { callee := .builtin .min, .. }, .mn => true
 | .convert s d x, .cvi k => (match P.underlying s, P.underlying d with | some (.int _), some (.int j) => j == k | _, _ => false)
 | .convert s d x, .cvs => (match P.underlying s, P.underlying d with | some .string, some .string => true | _, _ => false)
 | .convert s d x, .b2s => (match P.underlying s, P.underlying d with
  | some (.slice e), some .string => (match P.underlying e with | some (.int .u8) => true | _ => false)
  | _, _ => false)
 | .convert s d x, .s2b => (match P.underlying s, P.underlying d with
  | some .string, some (.slice e) => (match P.underlying e with | some (.int .u8) => true | _ => false)
  | _, _ => false)
 | .makeInterface t x, .mif u => t == u && (match P.underlying t with | some (.interface _) | none => false | _ => true)
 | .typeAssert x _ a ok, .tas t ok' z => a == t && ok == ok' && G5 P a z && (match P.underlying a with | some (.interface _) | none => false | _ => true)
 | .typeAssert x _ a ok, .tai ts ns ok' => ok == ok' && G5 P a .nili && (match P.underlying a with
  | some (.interface want) =>
    ts.all (fun t => match P.info? t with | some i => !aBu want i.methods | none => false) &&
    ns.all (fun t => match P.info? t with | some i => aBu want i.methods | none => false)
  | _ => false)
 | .extract x i, .ext j => i == j
 | .call { callee := .value (.func g'), args, .. }, .tyo rt gs g => g == g' && args.size == 1 && aLp P g "internal/reflectlite.TypeOf" && P.globals.size == gs && (match P.cutTypes.find? (·.1 == "internal/reflectlite.rtype") with | some (_, t) => t == rt | none => false)
 | .call { callee := .invoke y name, args, .. }, .cmb rt gs g ts => args.size == 0 && name == "Comparable" && aI0 P "Comparable" rt g && aLp P g "(internal/reflectlite.rtype).Comparable" && P.globals.size == gs &&
  ts.all (fun t => (match P.info? t with | some i => i.comparable | none => false) && !P.packed t && !P.holdsPacked P.depth t)
 | .makeFunc (.func f) first caps, .mkf g => f == g && first.toList.isEmpty
 | .makeSlice t l c, .mks sz bytes z
 | .makeSlice t l c, .mkv sz bytes z => (match P.underlying t with
  | some (.slice e) => fP P e sz && lP P e bytes && oI P e z && z.length == sz && 0 < sz
  | _ => false)
 | _, _ => false
def okI (o : Oper) (i : I) : Bool :=
 match i, o.op with
 | .op .pan _, _ => true
 | .mv x, .move y | .mv x, .assign y => okX y x
 | .pick a b c, .pick x y z => okX x a && okX y b && okX z c
 | .exm j t, .extract (.tmp u) k => j == k && t == u
 | .op a xs, op => G2 op.operands.toList xs && okO P op a
 | .call f xs _, .call { callee := .value (.func g), args, .. } => f == g && G2 args.toList xs && qT P f
 | .cav x xs, .call { callee := .value y, args, .. } => okX y x && G2 args.toList xs
 | .cam tbl x xs, .call { callee := .invoke y name, args, .. } => okX y x && G2 args.toList xs && tbl.all fun p => G6 P name p.1 p.2
 | _, _ => false
abbrev eJ := Option Nat × Option (Nat × Bool) × I
def aI1 (nt : Nat) (ops : Array Oper) (o : Oper) (r : eJ) : Bool :=
 o.dst == r.1 && (match r.1 with | some d => decide (d < nt) | none => true) && (match o.guard, r.2.1 with
  | none, none => true
  | some (j, w), some (t, v) => w == v && ((ops[j]?).bind (·.dst)) == some t
  | _, _ => false) && okI P o r.2.2
def pG (nt : Nat) (ops : Array Oper) : List Oper → List eJ → Bool
 | [], [] => true
 | o :: os, r :: rs => aI1 P nt ops o r && pG nt ops os rs
 | _, _ => false
def xr : X → List Nat
 | .t n => [n]
 | .m n => [n]
 | .k _ => []
def xw : X → List Nat
 | .m n => [n]
 | _ => []
def iR : I → List Nat
 | .mv x => xr x
 | .op _ xs => xs.flatMap xr
 | .pick a b c => xr a ++ xr b ++ xr c
 | .exm _ t => [t]
 | .call _ xs _ => xs.flatMap xr
 | .cav x xs => xr x ++ xs.flatMap xr
 | .cam _ x xs => xr x ++ xs.flatMap xr
def iW : I → List Nat
 | .mv x => xw x
 | .op _ xs => xs.flatMap xw
 | .pick a b c => xw a ++ xw b ++ xw c
 | .exm _ t => [t]
 | .call _ xs _ => xs.flatMap xw
 | .cav x xs => xw x ++ xs.flatMap xw
 | .cam _ x xs => xw x ++ xs.flatMap xw
def oJ (r : eJ) : List Nat := iR r.2.2 ++ (match r.2.1 with | some (g, _) => [g] | none => [])
def nG (r : eJ) : List Nat := iW r.2.2 ++ r.1.toList
inductive Cls where
 | S | R | A | W | C | U
 deriving DecidableEq
def jJ (pure : FuncId → Bool) : I → Cls
 | .op o _ => match o with
   | .ld | .ldn _ | .lv | .app .. => .R
   | .box _ | .alc _ | .mks .. => .A
   | .st | .stn _ => .W
   | .apv .. | .apg .. | .clr .. | .cpy _ => .U
   | _ => .S
 | .call f _ _ => if pure f then .C else .U
 | .cav .. | .cam .. => .U
 | _ => .S
def place : I → Option (Nat × Nat)
 | .op .ld [.t n] | .op .lv [.t n] => some (n, 1)
 | .op (.ldn k) [.t n] => some (n, k)
 | .op .st [.t n, _] => some (n, 1)
 | .op (.stn k) [.t n, _] => some (n, k)
 | _ => none
def zD : I → List Nat
 | .call _ xs _ => xs.flatMap xr
 | _ => []
def aP7 (fps : List Nat) (i : I) : Bool := match place i with | some (t, _) => fps.contains t | none => false
def aEv : I → Bool
 | .call _ _ nw => nw == 1
 | _ => false
def s6 : I → Option Nat
 | .call _ (.t u :: _) 2 => some u
 | _ => none
def s7 : I → Option Nat
 | .call _ (.t u :: _) 3 => some u
 | _ => none
def s8 : I → Bool
 | .op .lv _ => true
 | _ => false
def zE (pure : FuncId → Bool) (conf : List (Nat × Nat × Nat × Nat)) (free fps : List Nat) (a b : eJ) : Bool :=
 match jJ pure a.2.2, jJ pure b.2.2 with
 | .S, _ | _, .S => true
 | .R, .U => (aP7 fps a.2.2 || aEv b.2.2 || (match place a.2.2, s6 b.2.2 with
  | some (t, n), some u => a.2.1.isNone && b.2.1.isNone && conf.contains (t, n, u, far)
  | _, _ => false) || (match place a.2.2, s7 b.2.2 with
  | some (t, n), some u => a.2.1.isNone && b.2.1.isNone && conf.contains (t, near, u, near)
  | _, _ => false)) && !s8 a.2.2
 | .U, .R => (aP7 fps b.2.2 || aEv a.2.2 && (place b.2.2).isSome || (match place b.2.2, s6 a.2.2 with
  | some (t, n), some u => a.2.1.isNone && b.2.1.isNone && conf.contains (u, far, t, n)
  | _, _ => false) || (match place b.2.2, s7 a.2.2 with
  | some (t, n), some u => a.2.1.isNone && b.2.1.isNone && conf.contains (u, near, t, near)
  | _, _ => false)) && !s8 b.2.2
 | .A, .R => (place b.2.2).isSome
 | .R, .R | .R, .A | .R, .C | .C, .R | .C, .C => true
 | .C, .A => a.2.1.isNone && (zD a.2.2).all free.contains
 | .A, .C => b.2.1.isNone && (zD b.2.2).all free.contains
 | .R, .W | .W, .R => a.2.1.isNone && b.2.1.isNone && !s8 a.2.2 && !s8 b.2.2 && (match place a.2.2, place b.2.2 with
  | some (t, n), some (u, m) => n != near && conf.contains (t, n, u, m)
  | _, _ => false)
 | _, _ => false
def K9 (a b : List Nat) : Bool := a.all fun x => !b.contains x
def zG (pure : FuncId → Bool) (conf : List (Nat × Nat × Nat × Nat)) (free fps : List Nat) (a b : eJ) : Bool :=
 K9 (nG a) (oJ b) && K9 (nG a) (nG b) && K9 (nG b) (oJ a) && zE pure conf free fps a b
def O2 : List Oper → List Nat → List Nat
 | [], _ => []
 | o :: r, acc =>
   let m := o.after.toList.foldl (fun s e => if Region.binds .any e then s ||| 1 <<< e.on ||| acc.getD e.on 0 else s) 0
   m :: O2 r (acc ++ [m])
def dR (t : Nat) : List eJ → Bool
 | [] => true
 | r :: rs => if (oJ r).contains t then (r :: rs).all (fun x => !(nG x).contains t) else dR t rs
def lvs : List eJ → List Nat
 | [] => []
 | r :: rs => (match r.2.2 with | .op .lv _ => r.1.toList | _ => []) ++ lvs rs
def xk : X → Bool
 | .k v => v.noVia && v.rb 0
 | _ => true
def iK : I → Bool
 | .mv x => xk x
 | .op o xs => xs.all xk && (match o with | .kst v => v.noVia | .tas _ _ z => z.noVia | _ => true)
 | .pick a b c => xk a && xk b && xk c
 | .exm _ _ => true
 | .call _ xs _ => xs.all xk
 | .cav x xs => xk x && xs.all xk
 | .cam _ x xs => xk x && xs.all xk
def nE (L : List Nat) (r : eJ) : Bool :=
 iK r.2.2 && (match r.2.2 with | .op .lv xs => K9 L (xs.flatMap xr) && (match r.2.1 with | some (g, _) => !L.contains g | none => true) | .op (.apv ..) _ => true | _ => K9 L (oJ r)) &&
 (match r.2.2 with | .op .lv _ => true | _ => K9 L r.1.toList)
def rQ (pure : FuncId → Bool) (conf : List (Nat × Nat × Nat × Nat)) (free fps : List Nat) : List eJ → Nat → List (eJ × Nat) → List Nat → Bool
 | [], _, _, _ => true
 | _ :: _, _, _, [] => false
 | b :: r, j, before, m :: ms =>
   before.all (fun p => Nat.testBit m p.2 || zG pure conf free fps p.1 b) && rQ pure conf free fps r (j + 1) ((b, j) :: before) ms
def aD3 (pure : FuncId → Bool) (conf : List (Nat × Nat × Nat × Nat)) (free fps : List Nat) (ops : List Oper) (rows : List eJ) : Bool :=
 (ops.zipIdx.all fun (o, i) => o.after.toList.all fun e => !Region.binds .any e || decide (e.on < i)) &&
 (conf.all fun c => dR c.1 rows && dR c.2.2.1 rows) && free.all (dR · rows) && fps.all (dR · rows) && rows.all (nE (lvs rows)) &&
 rQ pure conf free fps rows 0 [] (O2 ops [])
def okC (nt : Nat) (pure : FuncId → Bool) : Code → C → Bool
 | .skip, .nop => true
 | .region _ ops draw, .reg _ conf free fps rows => pG P nt ops ops.toList rows && (!draw || aD3 pure conf free fps ops.toList rows)
 | .seq a b, .seq x y => okC nt pure a x && okC nt pure b y
 | .cond c a b, .cnd z x y => okX c z && okC nt pure a x && okC nt pure b y
 | .block i c, .blk j x => i == j && okC nt pure c x
 | .loop c, .loop x => okC nt pure c x
 | .exit i, .exit j => i == j
 | .ret, .ret => true
 | _, _ => false
def tM : List ResultVar → List Rs → Bool
 | [], [] => true
 | .tmp t :: r, .t n :: s => t == n && tM r s
 | .cell a t :: r, .cell n :: s => a == n && !dQ P t && (P.underlying t).isSome && tM r s
 | .cell a t :: r, .cells n sz :: s => a == n && dQ P t && fP P t sz && tM r s
 | _, _ => false
def rsT : List Rs → List Nat
 | [] => []
 | .t n :: r => n :: rsT r
 | _ :: r => rsT r
def aD4 : List Nat → Bool
 | [] => true
 | x :: r => !r.contains x && aD4 r
def okF (pure : FuncId → Bool) (f : FuncId) (cf : CF) : Bool :=
 match P.funcs[f]? with
 | some fn => fn.params.size + fn.nfree == cf.np && decide (cf.np ≤ fn.ntmps) && aD4 (rsT cf.res) && tM P fn.results.toList cf.res && (match fn.body with | some c => okC P fn.ntmps pure c cf.body | none => false)
 | none => false
end
end Go.Abs
