/-
  The check that AbsA's code says what GoSem's code says: `okF P pure f cf`. Bools alone; AbsS shows what they are worth.
-/
import Derived.Test.YtcfefgeheibadaaAbsA
import GoSem.Dispatch
import GoSem.Core.Region
namespace Go.Abs

mutual
def okV (c : Value) : V → Bool
  | .bool b => match c with | .bool d => d == b | _ => false
  | .int k n => match c with | .int j m => j == k && m == n | _ => false
  | .str l => match c with | .string s => s.data.toList == l | _ => false
  | .nilp => match c with | .pointer none => true | _ => false
  | .sl _ n cs => match c with | .slice none l cap => l == 0 && cap == 0 && n == 0 && cs.isEmpty | _ => false
  | .nilf => match c with | .nilFunc => true | _ => false
  | .nili => match c with | .nilIface => true | _ => false
  | .nls => match c with | .slice none l cap => l == 0 && cap == 0 | _ => false
  | .agg l => match c with | .agg cs => okVs cs.toList l | _ => false
  | .tup l => match c with | .tuple vs => vs.toList.isEmpty && l.isEmpty | _ => false
  | .fn g l => match c with | .func (.func f) first caps => f == g && first.toList.isEmpty && caps.toList.isEmpty && l.isEmpty | _ => false
  | _ => false
def okVs (cs : List Value) : List V → Bool
  | [] => cs.isEmpty
  | v :: vs => match cs with
    | [] => false
    | c :: cs => v.single && okV c v && okVs cs vs
end

def okX : Operand → X → Bool
  | .tmp n, .t m => n == m
  | .tmp n, .m m => n == m
  | .const v, .k u => okV v u
  | .func f, .k (.fn g l) => f == g && l.isEmpty
  | _, _ => false
def okXs : List Operand → List X → Bool
  | [], [] => true
  | o :: os, x :: xs => okX o x && okXs os xs
  | _, _ => false

section
variable (P : Program)

def isAggB (t : TypeId) : Bool := match P.underlying t with | some (.struct _) | some (.array ..) => true | _ => false
def szIs (t : TypeId) (n : Nat) : Bool := match P.info? t with | some i => i.size == n | none => false
def bytesIs (t : TypeId) (n : Nat) : Bool := match P.info? t with | some i => i.bytes == n | none => false
def zeroIs (t : TypeId) (z : List V) : Bool :=
  match (P.info? t).bind (·.zero) with
  | some v => okVs v.cells.toList z
  | none => false
def zeroV1 (t : TypeId) (z : V) : Bool :=
  match (P.info? t).bind (·.zero) with
  | some v => okV v z
  | none => false

def okParts (fs : Array Field) : List (Nat × Operand) → List (Nat × Nat) → Bool
  | [], [] => true
  | (i, _) :: ps, (off, size) :: qs => (match fs[i]? with | some f => f.offset == off && szIs P f.type size | none => false) && okParts fs ps qs
  | _, _ => false
def okElems (size : Nat) : List (Nat × Operand) → List Nat → Bool
  | [], [] => true
  | (i, _) :: ps, off :: qs => i * size == off && okElems size ps qs
  | _, _ => false

def okFunc (f : FuncId) : Bool :=
  match P.funcs[f]? with
  | some fn => fn.body.isSome && fn.name != "runtime.NumGoroutine"
  | none => false
def okMeth (name : String) (t : TypeId) (f : FuncId) : Bool :=
  match P.info? t with
  | some i => match i.methods.find? (·.name == name) with
    | some m => m.path.isEmpty && (match m.func with
      | some (g, pr) => g == f && okFunc P f && (match P.underlying t with | some (.pointer _) => pr | some _ => !pr | none => false)
      | none => false)
    | none => false
  | none => false

def okO (o : Op) (a : O) : Bool :=
  match o, a with
  | .binOp op t _ _ _, .bin op' => op == op' && (match P.underlying t with | some (.int _) | some .string => true | _ => false)
  | .binOp op t x y _, .beq neg => (op == .eql && !neg || op == .neq && neg) && (match P.underlying t with | some .bool => true | _ => false)
  | .binOp op t x y _, .peq neg => (op == .eql && !neg || op == .neq && neg) && (match P.underlying t with | some (.pointer _) => true | _ => false)
  | .binOp op t x y _, .ieq neg => (op == .eql && !neg || op == .neq && neg) && (match P.underlying t with | some (.interface _) => true | _ => false) &&
      (match x, y with | .const _, _ => true | _, .const _ => true | _, _ => false)
  | .unOp op _ x, .un op' => op == op'
  | .fieldAddr s x f, .fa off => (match P.underlying s with
      | some (.struct fs) => (match fs[f]? with | some g => g.offset == off && (match P.info? g.type with | some i => i.size != 0 | none => false) | none => false)
      | _ => false)
  | .indexAddr t x i, .ix sz => (match P.underlying t with | some (.slice e) => szIs P e sz | _ => false)
  | .indexAddr t x i, .ixa sz len => (match P.underlying t with | some (.array n e) => n == len && szIs P e sz | _ => false)
  | .load t x, .ld | .load t x, .lv => (match P.underlying t with | some (.struct _) | some (.array ..) | none => false | _ => true)
  | .load t x, .ldn n => isAggB P t && szIs P t n
  | .store t x v, .st => szIs P t 1
  | .store t x v, .stn n => szIs P t n
  | .nilCheck x, .nc => true
  | .box _ x, .box _ => true
  | .box _ x, .bfp _ => true
  | .alloc t, .alc z => zeroIs P t z
  | .build t ps, .bld z qs => zeroIs P t z && (match P.underlying t with
      | some (.struct fs) => fs.toList.all (fun f => (P.info? f.type).isSome) && okParts P fs ps.toList qs
      | some (.array _ e) => (match P.info? e with | some i => okElems i.size ps.toList (qs.map (·.1)) && qs.all (·.2 == i.size) | none => false)
      | _ => false)
  | .buildSlice t n ps, .bsl sz z len offs => n == len && (match P.underlying t with
      | some (.slice e) => szIs P e sz && (if n * sz = 0 then z.isEmpty else zeroIs P e z && z.length == sz) && okElems sz ps.toList offs
      | _ => false)
  | .field t x f, .fld off sz => (match P.underlying t with
      | some (.struct fs) => (match fs[f]? with
        | some g => g.offset == off && (match sz with | none => (match P.underlying g.type with | some (.struct _) | some (.array ..) | none => false | _ => true) | some n => isAggB P g.type && szIs P g.type n)
        | none => false)
      | _ => false)
  | .index t x i, .ixs => (match P.underlying t with | some .string => true | _ => false)
  | .index t x i, .ixv sz one len => (match P.underlying t with
      | some (.array n e) => n == len && szIs P e sz && (match P.underlying e with | some (.struct _) | some (.array ..) => !one | some _ => one | none => false)
      | _ => false)
  | .slice t x lo hi none, .slc sz l h => l == lo.isSome && h == hi.isSome && (match P.underlying t with | some (.slice e) => szIs P e sz | _ => false)
  | .slice t x (some _) (some _) (some _), .sl3 sz => (match P.underlying t with | some (.slice e) => szIs P e sz | _ => false)
  | .slice t x lo hi none, .sls l h => l == lo.isSome && h == hi.isSome && (match P.underlying t with | some .string => true | _ => false)
  | .call { callee := .builtin .append, args, argTypes }, .app sz bytes
  | .call { callee := .builtin .append, args, argTypes }, .apv sz bytes
  | .call { callee := .builtin .append, args, argTypes }, .apg sz bytes => (match (argTypes[0]? : Option TypeId), (argTypes[1]? : Option TypeId) with
      | some t, some u => (match P.underlying t, P.underlying u with
        | some (.slice e), some d => szIs P e sz && bytesIs P e bytes && 0 < sz && 0 < bytes && (match d with | .int _ => false | _ => true) && (match (P.info? e).bind (·.zero) with | some zv => zv.cells.size == sz | none => false)
        | _, _ => false)
      | _, _ => false)
  | .call { callee := .builtin .len, args, argTypes }, .len s => args.size == 1 && (match (argTypes[0]? : Option TypeId) with
      | some t => (match P.underlying t with | some .string => s | some (.slice _) => !s | _ => false)
      | none => false)
  | .call { callee := .builtin .len, args, argTypes }, .kst v => args.size == 1 && (match (argTypes[0]? : Option TypeId) with
      | some t => (match P.underlying t with
        | some (.array n _) => okV (goInt n) v
        | some (.pointer a) => (match P.underlying a with | some (.array n _) => okV (goInt n) v | _ => false)
        | _ => false)
      | none => false)
  | .call { callee := .builtin .clear, args, argTypes }, .clr sz z => args.size == 1 && (match (argTypes[0]? : Option TypeId) with
      | some t => (match P.underlying t with | some (.slice e) => szIs P e sz && zeroIs P e z && z.length == sz | _ => false)
      | none => false)
  | .call { callee := .builtin .max, .. }, .mx => true
  | .call { callee := .builtin .min, .. }, .mn => true
  | .convert s d x, .cvi k => (match P.underlying s, P.underlying d with | some (.int _), some (.int j) => j == k | _, _ => false)
  | .convert s d x, .cvs => (match P.underlying s, P.underlying d with | some .string, some .string => true | _, _ => false)
  | .convert s d x, .b2s => (match P.underlying s, P.underlying d with
      | some (.slice e), some .string => (match P.underlying e with | some (.int .u8) => true | _ => false)
      | _, _ => false)
  | .convert s d x, .s2b => (match P.underlying s, P.underlying d with
      | some .string, some (.slice e) => (match P.underlying e with | some (.int .u8) => true | _ => false)
      | _, _ => false)
  | .makeInterface t x, .mif u => t == u && (match P.underlying t with | some (.interface _) | none => false | _ => true)
  | .typeAssert x _ a ok, .tas t ok' z => a == t && ok == ok' && zeroV1 P a z && (match P.underlying a with | some (.interface _) | none => false | _ => true)
  | .typeAssert x _ a ok, .tai ts ns ok' => ok == ok' && zeroV1 P a .nili && (match P.underlying a with
      | some (.interface want) =>
        ts.all (fun t => match P.info? t with | some i => (Instr.missingMethod want i.methods).isNone | none => false) &&
        ns.all (fun t => match P.info? t with | some i => (Instr.missingMethod want i.methods).isSome | none => false)
      | _ => false)
  | .extract x i, .ext j => i == j
  | .makeFunc (.func f) first caps, .mkf g => f == g && first.toList.isEmpty
  | .makeSlice t l c, .mks sz bytes z => (match P.underlying t with
      | some (.slice e) => szIs P e sz && bytesIs P e bytes && zeroIs P e z && z.length == sz && 0 < sz
      | _ => false)
  | _, _ => false

def okI (o : Oper) (i : I) : Bool :=
  match i, o.op with
  | .op .pan _, _ => true
  | .mv x, .move y | .mv x, .assign y => okX y x
  | .pick a b c, .pick x y z => okX x a && okX y b && okX z c
  | .exm j t, .extract (.tmp u) k => j == k && t == u
  | .op a xs, op => okXs op.operands.toList xs && okO P op a
  | .call f xs _, .call { callee := .value (.func g), args, .. } => f == g && okXs args.toList xs && okFunc P f
  | .cav x xs, .call { callee := .value y, args, .. } => okX y x && okXs args.toList xs
  | .cam tbl x xs, .call { callee := .invoke y name, args, .. } => okX y x && okXs args.toList xs && tbl.all fun p => okMeth P name p.1 p.2
  | _, _ => false

abbrev Row := Option Nat × Option (Nat × Bool) × I

def okRow (nt : Nat) (ops : Array Oper) (o : Oper) (r : Row) : Bool :=
  o.dst == r.1 && (match r.1 with | some d => decide (d < nt) | none => true) && (match o.guard, r.2.1 with
    | none, none => true
    | some (j, w), some (t, v) => w == v && ((ops[j]?).bind (·.dst)) == some t
    | _, _ => false) && okI P o r.2.2
def okRows (nt : Nat) (ops : Array Oper) : List Oper → List Row → Bool
  | [], [] => true
  | o :: os, r :: rs => okRow P nt ops o r && okRows nt ops os rs
  | _, _ => false

/-! ### Regions that draw their order -/
def xr : X → List Nat
  | .t n => [n]
  | .m n => [n]
  | .k _ => []
def xw : X → List Nat
  | .m n => [n]
  | _ => []
/-- the temporaries that an instruction looks at, and those that it turns -/
def iR : I → List Nat
  | .mv x => xr x
  | .op _ xs => xs.flatMap xr
  | .pick a b c => xr a ++ xr b ++ xr c
  | .exm _ t => [t]
  | .call _ xs _ => xs.flatMap xr
  | .cav x xs => xr x ++ xs.flatMap xr
  | .cam _ x xs => xr x ++ xs.flatMap xr
def iW : I → List Nat
  | .mv x => xw x
  | .op _ xs => xs.flatMap xw
  | .pick a b c => xw a ++ xw b ++ xw c
  | .exm _ t => [t]
  | .call _ xs _ => xs.flatMap xw
  | .cav x xs => xw x ++ xs.flatMap xw
  | .cam _ x xs => xw x ++ xs.flatMap xw
def rowR (r : Row) : List Nat := iR r.2.2 ++ (match r.2.1 with | some (g, _) => [g] | none => [])
def rowW (r : Row) : List Nat := iW r.2.2 ++ r.1.toList

/-- What an instruction has to do with the heap: nothing; reads; makes an object; writes cells; a call that changes nothing; other. -/
inductive Cls where
  | S | R | A | W | C | U
  deriving DecidableEq
def cls (pure : FuncId → Bool) : I → Cls
  | .op o _ => match o with
    | .ld | .ldn _ | .lv | .app .. => .R
    | .box _ | .alc _ | .mks .. => .A
    | .st | .stn _ => .W
    | .apv .. | .apg .. | .clr .. => .U
    | _ => .S
  | .call f _ _ => if pure f then .C else .U
  | .cav .. | .cam .. => .U
  | _ => .S
/-- the address that a load or a store names, and how many cells -/
def place : I → Option (Nat × Nat)
  | .op .ld [.t n] | .op .lv [.t n] => some (n, 1)
  | .op (.ldn k) [.t n] => some (n, k)
  | .op .st [.t n, _] => some (n, 1)
  | .op (.stn k) [.t n, _] => some (n, k)
  | _ => none
/-- the temporaries that a call is given -/
def callArgs : I → List Nat
  | .call _ xs _ => xs.flatMap xr
  | _ => []
def isFp (fps : List Nat) (i : I) : Bool := match place i with | some (t, _) => fps.contains t | none => false
def isNew : I → Bool
  | .call _ _ nw => nw == 1
  | _ => false
/-- a call that changes the object of its first argument alone -/
def isOnly : I → Option Nat
  | .call _ (.t u :: _) 2 => some u
  | _ => none
def isLv : I → Bool
  | .op .lv _ => true
  | _ => false
def heapOK (pure : FuncId → Bool) (conf : List (Nat × Nat × Nat × Nat)) (free fps : List Nat) (a b : Row) : Bool :=
  match cls pure a.2.2, cls pure b.2.2 with
  | .S, _ | _, .S => true
  | .R, .U => (isFp fps a.2.2 || isNew b.2.2 || (match place a.2.2, isOnly b.2.2 with
      | some (t, n), some u => a.2.1.isNone && b.2.1.isNone && conf.contains (t, n, u, far)
      | _, _ => false)) && !isLv a.2.2
  | .U, .R => (isFp fps b.2.2 || isNew a.2.2 && (place b.2.2).isSome || (match place b.2.2, isOnly a.2.2 with
      | some (t, n), some u => a.2.1.isNone && b.2.1.isNone && conf.contains (u, far, t, n)
      | _, _ => false)) && !isLv b.2.2
  | .A, .R => (place b.2.2).isSome
  | .R, .R | .R, .A | .R, .C | .C, .R | .C, .C => true
  | .C, .A => a.2.1.isNone && (callArgs a.2.2).all free.contains
  | .A, .C => b.2.1.isNone && (callArgs b.2.2).all free.contains
  | .R, .W | .W, .R => a.2.1.isNone && b.2.1.isNone && !isLv a.2.2 && !isLv b.2.2 && (match place a.2.2, place b.2.2 with
      | some (t, n), some (u, m) => conf.contains (t, n, u, m)
      | _, _ => false)
  | _, _ => false
def disjB (a b : List Nat) : Bool := a.all fun x => !b.contains x
def indep (pure : FuncId → Bool) (conf : List (Nat × Nat × Nat × Nat)) (free fps : List Nat) (a b : Row) : Bool :=
  disjB (rowW a) (rowR b) && disjB (rowW a) (rowW b) && disjB (rowW b) (rowR a) && heapOK pure conf free fps a b

/-- For each operation, those that come before it in every order: a bit each. -/
def ancs : List Oper → List Nat → List Nat
  | [], _ => []
  | o :: r, acc =>
    let m := o.after.toList.foldl (fun s e => if Region.binds .any e then s ||| 1 <<< e.on ||| acc.getD e.on 0 else s) 0
    m :: ancs r (acc ++ [m])
/-- From the first row on that looks at t, none turns it. -/
def stable (t : Nat) : List Row → Bool
  | [] => true
  | r :: rs => if (rowR r).contains t then (r :: rs).all (fun x => !(rowW x).contains t) else stable t rs
/-- Where slices just read from cells may lie. -/
def lvs : List Row → List Nat
  | [] => []
  | r :: rs => (match r.2.2 with | .op .lv _ => r.1.toList | _ => []) ++ lvs rs
def xk : X → Bool
  | .k v => v.noVia && v.rb 0
  | _ => true
def iK : I → Bool
  | .mv x => xk x
  | .op o xs => xs.all xk && (match o with | .kst v => v.noVia | .tas _ _ z => z.noVia | _ => true)
  | .pick a b c => xk a && xk b && xk c
  | .exm _ _ => true
  | .call _ xs _ => xs.all xk
  | .cav x xs => xk x && xs.all xk
  | .cam _ x xs => xk x && xs.all xk
def calmRow (L : List Nat) (r : Row) : Bool :=
  iK r.2.2 && (match r.2.2 with | .op .lv xs => disjB L (xs.flatMap xr) && (match r.2.1 with | some (g, _) => !L.contains g | none => true) | .op (.apv ..) _ => true | _ => disjB L (rowR r)) &&
  (match r.2.2 with | .op .lv _ => true | _ => disjB L r.1.toList)
def drawPairs (pure : FuncId → Bool) (conf : List (Nat × Nat × Nat × Nat)) (free fps : List Nat) : List Row → Nat → List (Row × Nat) → List Nat → Bool
  | [], _, _, _ => true
  | _ :: _, _, _, [] => false
  | b :: r, j, before, m :: ms =>
    before.all (fun p => Nat.testBit m p.2 || indep pure conf free fps p.1 b) && drawPairs pure conf free fps r (j + 1) ((b, j) :: before) ms
def drawOK (pure : FuncId → Bool) (conf : List (Nat × Nat × Nat × Nat)) (free fps : List Nat) (ops : List Oper) (rows : List Row) : Bool :=
  (ops.zipIdx.all fun (o, i) => o.after.toList.all fun e => !Region.binds .any e || decide (e.on < i)) &&
  (conf.all fun c => stable c.1 rows && stable c.2.2.1 rows) && free.all (stable · rows) && fps.all (stable · rows) && rows.all (calmRow (lvs rows)) &&
  drawPairs pure conf free fps rows 0 [] (ancs ops [])

def okC (nt : Nat) (pure : FuncId → Bool) : Code → C → Bool
  | .skip, .nop => true
  | .region _ ops draw, .reg _ conf free fps rows => okRows P nt ops ops.toList rows && (!draw || drawOK pure conf free fps ops.toList rows)
  | .seq a b, .seq x y => okC nt pure a x && okC nt pure b y
  | .cond c a b, .cnd z x y => okX c z && okC nt pure a x && okC nt pure b y
  | .block i c, .blk j x => i == j && okC nt pure c x
  | .loop c, .loop x => okC nt pure c x
  | .exit i, .exit j => i == j
  | .ret, .ret => true
  | _, _ => false

def okRes : List ResultVar → List Rs → Bool
  | [], [] => true
  | .tmp t :: r, .t n :: s => t == n && okRes r s
  | .cell a t :: r, .cell n :: s => a == n && !isAggB P t && (P.underlying t).isSome && okRes r s
  | .cell a t :: r, .cells n sz :: s => a == n && isAggB P t && szIs P t sz && okRes r s
  | _, _ => false

def rsT : List Rs → List Nat
  | [] => []
  | .t n :: r => n :: rsT r
  | _ :: r => rsT r
def nodupB : List Nat → Bool
  | [] => true
  | x :: r => !r.contains x && nodupB r

def okF (pure : FuncId → Bool) (f : FuncId) (cf : CF) : Bool :=
  match P.funcs[f]? with
  | some fn => fn.params.size + fn.nfree == cf.np && decide (cf.np ≤ fn.ntmps) && nodupB (rsT cf.res) && okRes P fn.results.toList cf.res && (match fn.body with | some c => okC P fn.ntmps pure c cf.body | none => false)
  | none => false
end
end Go.Abs
