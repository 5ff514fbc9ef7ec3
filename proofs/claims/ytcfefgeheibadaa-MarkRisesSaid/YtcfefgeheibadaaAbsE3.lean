/-
  Equations by which the machine's operations are reckoned.
-/
import Derived.Test.YtcfefgeheibadaaAbsE2
namespace Go.Abs

/-- Numbers. -/
theorem EVB : (∀ (s : Option Nat) (op : BinOp) (x y : V) (H : Heap), apply s (.bin op) [x, y] H = (bin op x y).map (·, H)) ∧
    (∀ (k : IntKind) (a b : Int), bin .add (.int k a) (.int k b) = some (.int k (k.wrap (a + b)))) ∧ (∀ (k : IntKind) (a b : Int), bin .sub (.int k a) (.int k b) = some (.int k (k.wrap (a - b)))) ∧ (∀ (k : IntKind) (a b : Int), bin .mul (.int k a) (.int k b) = some (.int k (k.wrap (a * b)))) ∧
    (∀ (k : IntKind) (a b : Int), bin .quo (.int k a) (.int k b) = if b = 0 then none else some (.int k (k.wrap (a.tdiv b)))) ∧ (∀ (k : IntKind) (a b : Int), bin .rem (.int k a) (.int k b) = if b = 0 then none else some (.int k (a.tmod b))) ∧
    (∀ (k : IntKind) (a b : Int), bin .eql (.int k a) (.int k b) = some (.bool (a == b))) ∧ (∀ (k : IntKind) (a b : Int), bin .neq (.int k a) (.int k b) = some (.bool (a != b))) ∧
    (∀ (k : IntKind) (a b : Int), bin .lss (.int k a) (.int k b) = some (.bool (decide (a < b)))) ∧ (∀ (k : IntKind) (a b : Int), bin .leq (.int k a) (.int k b) = some (.bool (decide (a ≤ b)))) ∧
    (∀ (k : IntKind) (a b : Int), bin .gtr (.int k a) (.int k b) = some (.bool (decide (b < a)))) ∧ (∀ (k : IntKind) (a b : Int), bin .geq (.int k a) (.int k b) = some (.bool (decide (b ≤ a)))) ∧
    (∀ (k : IntKind) (a b : Int), bin .and (.int k a) (.int k b) = bits .and k a b) ∧ (∀ (k : IntKind) (a b : Int), bin .or (.int k a) (.int k b) = bits .or k a b) ∧ (∀ (k : IntKind) (a b : Int), bin .xor (.int k a) (.int k b) = bits .xor k a b) ∧ (∀ (k : IntKind) (a b : Int), bin .andNot (.int k a) (.int k b) = bits .andNot k a b) ∧
    (∀ (k j : IntKind) (a b : Int), bin .shl (.int k a) (.int j b) = if b < 0 then none else some (.int k (k.wrap (a * 2 ^ (min b.toNat k.bits))))) ∧ (∀ (k j : IntKind) (a b : Int), bin .shr (.int k a) (.int j b) = if b < 0 then none else some (.int k (a.fdiv (2 ^ (min b.toNat k.bits))))) ∧
    (∀ a b : List UInt8, bin .eql (.str a) (.str b) = some (.bool (a == b))) ∧ (∀ a b : List UInt8, bin .neq (.str a) (.str b) = some (.bool !(a == b))) ∧
    (∀ a b : List UInt8, bin .add (.str a) (.str b) = if ((a.length + b.length : Nat) : Int) > 9223372036854775807 then none else some (.str (a ++ b))) ∧
    (∀ (s : Option Nat) (n a b : Bool) (H : Heap), apply s (.beq n) [.bool a, .bool b] H = some (.bool (n != (a == b)), H)) ∧
    (∀ (s : Option Nat) (n : Bool) (x y : V) (H : Heap), apply s (.peq n) [x, y] H = ((nilEq (isNilP x) (isNilP y)).map fun b => V.bool (n != b)).map (·, H)) ∧
    (∀ (s : Option Nat) (n : Bool) (x y : V) (H : Heap), apply s (.ieq n) [x, y] H = ((nilEq (isNilI x) (isNilI y)).map fun b => V.bool (n != b)).map (·, H)) ∧
    (isNilP .nilp = some true) ∧ (∀ i o, isNilP (.ptr i o) = some false) ∧ (∀ c i, isNilP (.fp c i) = some false) ∧ (isNilI .nili = some true) ∧ (∀ t v, isNilI (.ifc t v) = some false) ∧
    (∀ b, nilEq (some true) (some b) = some b) ∧ (nilEq (some false) (some true) = some false) ∧
    (∀ (s : Option Nat) (op : UnOp) (x : V) (H : Heap), apply s (.un op) [x] H = (un op x).map (·, H)) ∧ (∀ b, un .not (.bool b) = some (.bool !b)) ∧ (∀ (k : IntKind) (n : Int), un .neg (.int k n) = some (.int k (k.wrap (0 - n)))) ∧
    (∀ (k : IntKind) (n : Int), un .xor (.int k n) = bits .xor k (if k.signed then -1 else k.max) n) := by
  refine ⟨fun _ _ _ _ _ => rfl, ?_, ?_, ?_, ?_, ?_, ?_, ?_, ?_, ?_, ?_, ?_, ?_, ?_, ?_, ?_, fun _ _ _ _ => rfl, fun _ _ _ _ => rfl, fun _ _ => rfl, fun _ _ => rfl, fun _ _ => rfl, fun _ _ _ _ _ => rfl, fun _ _ _ _ _ => rfl, fun _ _ _ _ _ => rfl,
    rfl, fun _ _ => rfl, fun _ _ => rfl, rfl, fun _ _ => rfl, fun b => ?_, rfl, fun _ _ _ _ => rfl, fun _ => rfl, fun _ _ => rfl, fun _ _ => rfl⟩
  all_goals first | (intro k a b; simp only [bin, if_true, iop]; done) | (intro k a b; simp only [bin, if_true, iop, gt_iff_lt, ge_iff_le]; done) | (cases b <;> rfl)

/-- Addresses, loads, stores. -/
theorem EVA : (∀ (s : Option Nat) (f id o : Nat) (H : Heap), apply s (.fa f) [.ptr id o] H = some (.ptr id (o + f), H)) ∧ (∀ (s : Option Nat) (f : Nat) (c : List V) (o : Nat) (H : Heap), apply s (.fa f) [.fp c o] H = some (.fp c (o + f), H)) ∧
    (∀ (s : Option Nat) (z : Nat) (w : Option Nat) (n : Nat) (c : List V) (k : IntKind) (i : Int) (H : Heap), apply s (.ix z) [.sl w n c, .int k i] H = if 0 ≤ i ∧ i < (n : Int) then some (.fp c (i.toNat * z), H) else none) ∧
    (∀ (s : Option Nat) (z y id off n : Nat) (k : IntKind) (i : Int) (H : Heap), apply s (.ix z) [.ar y id off n, .int k i] H = if 0 ≤ i ∧ i < (n : Int) then some (.ptr id (off + i.toNat * z), H) else none) ∧
    (∀ (s : Option Nat) (z len id o : Nat) (k : IntKind) (i : Int) (H : Heap), apply s (.ixa z len) [.ptr id o, .int k i] H = if 0 ≤ i ∧ i < (len : Int) then some (.ptr id (o + i.toNat * z), H) else none) ∧
    (∀ (s : Option Nat) (z len o : Nat) (c : List V) (k : IntKind) (i : Int) (H : Heap), apply s (.ixa z len) [.fp c o, .int k i] H = if 0 ≤ i ∧ i < (len : Int) then some (.fp c (o + i.toNat * z), H) else none) ∧
    (∀ (s : Option Nat) (id o : Nat) (H : Heap), apply s .ld [.ptr id o] H = (hget H id o).map fun v => (v.dis1, H)) ∧ (∀ (s : Option Nat) (c : List V) (i : Nat) (H : Heap), apply s .ld [.fp c i] H = (c[i]?).map fun v => (v.dis1, H)) ∧
    (∀ (s : Option Nat) (n id o : Nat) (H : Heap), apply s (.ldn n) [.ptr id o] H = (hcells H id o n).map fun cs => (.agg (cs.map V.dis1), H)) ∧ (∀ (s : Option Nat) (n : Nat) (c : List V) (i : Nat) (H : Heap), apply s (.ldn n) [.fp c i] H = if i + n ≤ c.length then some (.agg (((c.drop i).take n).map V.dis1), H) else none) ∧
    (∀ (s : Option Nat) (id o : Nat) (H : Heap), apply s .lv [.ptr id o] H = (hget H id o).map fun v => (viaOf id o v, H)) ∧ (∀ (s : Option Nat) (c : List V) (i : Nat) (H : Heap), apply s .lv [.fp c i] H = (c[i]?).map fun v => (v.dis1, H)) ∧
    (∀ (i o z n : Nat) (c : List V), viaOf i o (.sl (some z) n c) = .via i o n c) ∧ (∀ (i o n : Nat) (c : List V), viaOf i o (.sl none n c) = .sl none n c) ∧
    (∀ (s : Option Nat) (id o : Nat) (v : V) (H : Heap), apply s .st [.ptr id o, v] H = if v.single && (hget H id o).isSome && mayW s id (v.rb ·) then some (.tup [], hset H id o v) else none) ∧
    (∀ (s : Option Nat) (n id o : Nat) (xs : List V) (H : Heap), apply s (.stn n) [.ptr id o, .agg xs] H = if xs.length = n && (hcells H id o n).isSome && mayW s id (V.rbL · xs) then some (.tup [], H.set id (lay ((H[id]?).getD []) o xs)) else none) ∧
    (∀ id (ok : Nat → Bool), mayW none id ok = true) ∧ (∀ l id (ok : Nat → Bool), mayW (some l) id ok = (decide (l ≤ id) && ok id)) ∧
    (∀ (s : Option Nat) (id o : Nat) (H : Heap), apply s .nc [.ptr id o] H = some (.ptr id o, H)) ∧ (∀ (s : Option Nat) (c : List V) (o : Nat) (H : Heap), apply s .nc [.fp c o] H = some (.fp c o, H)) ∧
    (∀ (s : Option Nat) (n : Nat) (v : V) (H : Heap), apply s (.box n) [v] H = if v.boxy && v.cells.length == n then some (.ptr H.length 0, H ++ [v.cells]) else none) ∧
    (∀ (s : Option Nat) (n : Nat) (v : V) (H : Heap), apply s (.bfp n) [v] H = if v.boxy && v.cells.length == n then some (.fp (v.cells.map V.dis1) 0, H) else none) ∧
    (∀ (s : Option Nat) (z : List V) (H : Heap), apply s (.alc z) [] H = some (.ptr H.length 0, H ++ [z])) ∧
    (∀ (s : Option Nat) (z : List V) (ps : List (Nat × Nat)) (vs : List V) (H : Heap), apply s (.bld z ps) vs H = (fillV z ps vs).map fun cs => (.agg cs, H)) ∧
    (∀ (s : Option Nat) (sz : Nat) (z : List V) (len : Nat) (offs : List Nat) (vs : List V) (H : Heap), apply s (.bsl sz z len offs) vs H = if len * sz ≤ 16777216 then (fillV (reps z len) (offs.map (·, sz)) vs).map fun cs => (.sl (some sz) len (cs.map V.dis1), H) else none) ∧
    (∀ cs, fillV cs [] [] = some cs) ∧ (∀ cs o z ps v vs, fillV cs ((o, z) :: ps) (v :: vs) = if v.boxy ∧ v.cells.length = z ∧ o + z ≤ cs.length then fillV (lay cs o v.cells) ps vs else none) ∧
    (∀ z, reps z 0 = []) ∧ (∀ z n, reps z (n + 1) = z ++ reps z n) := by
  refine ⟨fun _ _ _ _ _ => rfl, fun _ _ _ _ _ => rfl, ?_, ?_, ?_, ?_, ?_, ?_, ?_, ?_, ?_, ?_, fun _ _ _ _ _ => rfl, fun _ _ _ _ => rfl, fun _ _ _ _ _ => rfl, fun _ _ _ _ _ _ => rfl, fun _ _ => rfl, fun _ _ _ => rfl, fun _ _ _ _ => rfl, fun _ _ _ _ => rfl, fun _ _ _ _ => rfl, ?_, fun _ _ _ => rfl, fun _ _ _ _ _ => rfl, fun _ _ _ _ _ _ _ => rfl,
    fun _ => rfl, fun _ _ _ _ _ _ => rfl, fun _ => rfl, fun _ _ => rfl⟩
  · intro s z w n c k i H; show (aIx z [.sl w n c, .int k i]).map (·, H) = _; simp only [aIx]; split <;> rfl
  · intro s z y id off n k i H; show (aIx z [.ar y id off n, .int k i]).map (·, H) = _; simp only [aIx]; split <;> rfl
  · intro s z len id o k i H; show (aIxa z len [.ptr id o, .int k i]).map (·, H) = _; simp only [aIxa]; split <;> rfl
  · intro s z len o c k i H; show (aIxa z len [.fp c o, .int k i]).map (·, H) = _; simp only [aIxa]; split <;> rfl
  · intro s id o H; show (aLd H [.ptr id o]).map (·, H) = _; simp only [aLd, Option.map_map]; rfl
  · intro s c i H; show (aLd H [.fp c i]).map (·, H) = _; simp only [aLd, Option.map_map]; rfl
  · intro s n id o H; show (aLdn n H [.ptr id o]).map (·, H) = _; simp only [aLdn, Option.map_map]; rfl
  · intro s n c i H; show (aLdn n H [.fp c i]).map (·, H) = _; simp only [aLdn]; split <;> rfl
  · intro s id o H; show (aLv H [.ptr id o]).map (·, H) = _; simp only [aLv, Option.map_map]; rfl
  · intro s c i H; show (aLv H [.fp c i]).map (·, H) = _; simp only [aLv, Option.map_map]; rfl
  · intro s n v H; show (aBfp n [v]).map (·, H) = _; simp only [aBfp]; split <;> rfl

/-- Parts of values, slices, texts, conversions, interfaces. -/
theorem EVP : (∀ (s : Option Nat) (o : Nat) (cs : List V) (H : Heap), apply s (.fld o none) [.agg cs] H = ((cs[o]?).bind V.ntup).map (·, H)) ∧ (∀ (s : Option Nat) (o n : Nat) (cs : List V) (H : Heap), apply s (.fld o (some n)) [.agg cs] H = if o + n ≤ cs.length then some (.agg ((cs.drop o).take n), H) else none) ∧
    (∀ (s : Option Nat) (t : List UInt8) (k : IntKind) (i : Int) (H : Heap), apply s .ixs [.str t, .int k i] H = if 0 ≤ i then (t[i.toNat]?).map fun c => (.int .u8 c.toNat, H) else none) ∧
    (∀ (s : Option Nat) (z len : Nat) (cs : List V) (k : IntKind) (i : Int) (H : Heap), apply s (.ixv z true len) [.agg cs, .int k i] H = if 0 ≤ i ∧ i < (len : Int) then ((cs[i.toNat * z]?).bind V.ntup).map (·, H) else none) ∧
    (∀ (s : Option Nat) (z len : Nat) (cs : List V) (k : IntKind) (i : Int) (H : Heap), apply s (.ixv z false len) [.agg cs, .int k i] H = if 0 ≤ i ∧ i < (len : Int) then (if i.toNat * z + z ≤ cs.length then some (.agg ((cs.drop (i.toNat * z)).take z), H) else none) else none) ∧
    (∀ (s : Option Nat) (z : Nat) (lo hi : Bool) (w : Option Nat) (n : Nat) (cs bs : List V) (H : Heap), apply s (.slc z lo hi) (.sl w n cs :: bs) H = (cutOf lo hi n bs).bind fun p => if cs.length = n * z then some (.sl (if p.2 = n ∧ w = some z then w else none) (p.2 - p.1) ((cs.drop (p.1 * z)).take ((p.2 - p.1) * z)), H) else none) ∧
    (∀ (s : Option Nat) (z : Nat) (lo hi : Bool) (y id off n : Nat) (bs : List V) (H : Heap), apply s (.slc z lo hi) (.ar y id off n :: bs) H = (cutOf lo hi n bs).bind fun p => if p.1 < p.2 then some (.ar z id (off + p.1 * z) (p.2 - p.1), H) else none) ∧
    (∀ (s : Option Nat) (lo hi : Bool) (t : List UInt8) (bs : List V) (H : Heap), apply s (.sls lo hi) (.str t :: bs) H = (cutOf lo hi t.length bs).map fun p => (.str ((t.drop p.1).take (p.2 - p.1)), H)) ∧
    (∀ n, cutOf false false n [] = some (0, n)) ∧ (∀ n k l, cutOf true false n [.int k l] = if 0 ≤ l ∧ l ≤ (n : Int) then some (l.toNat, n) else none) ∧ (∀ n k h, cutOf false true n [.int k h] = if 0 ≤ h ∧ h ≤ (n : Int) then some (0, h.toNat) else none) ∧
    (∀ n k j l h, cutOf true true n [.int k l, .int j h] = if 0 ≤ l ∧ l ≤ h ∧ h ≤ (n : Int) then some (l.toNat, h.toNat) else none) ∧
    (∀ (s : Option Nat) (z y : Nat) (a b : V) (H : Heap), apply s (.app z y) [a, b] H = (appendTo z y a b H).map (·, H)) ∧
    (∀ (s : Option Nat) (z y id off n : Nat) (cs : List V) (b : V) (H : Heap), apply s (.apv z y) [.via id off n cs, b] H = if mayW s id (fun _ => true) then (hget H id off).bind fun a => (appendTo z y a b (hset H id off a.dis1)).map (·, hset H id off a.dis1) else none) ∧
    (∀ (s : Option Nat) (z y : Nat) (w : Option Nat) (n : Nat) (cs : List V) (b : V) (H : Heap), apply s (.apv z y) [.sl w n cs, b] H = (appendTo z y (.sl w n cs) b H).map (·, H)) ∧
    (∀ (z y n : Nat) (cs : List V) (b : V) (H : Heap), appendTo z y (.sl (some z) n cs) b H = if cs.length = n * z then (tail z b H).bind fun q => if (n + q.1) * y ≤ room then some (.sl (some z) (n + q.1) (cs ++ q.2)) else none else none) ∧
    (∀ (z m : Nat) (w : Option Nat) (ds : List V) (H : Heap), tail z (.sl w m ds) H = if ds.length = m * z then some (m, ds) else none) ∧ (∀ (z y id off m : Nat) (H : Heap), tail z (.ar y id off m) H = (hcells H id off (m * z)).map fun ds => (m, ds.map V.dis1)) ∧
    (∀ (t : List UInt8) (H : Heap), tail 1 (.str t) H = some (t.length, t.map fun c => .int .u8 c.toNat)) ∧
    (∀ (s w : Option Nat) (n : Nat) (cs : List V) (H : Heap), apply s (.len false) [.sl w n cs] H = some (.int .i64 n, H)) ∧ (∀ (s : Option Nat) (a b c n : Nat) (H : Heap), apply s (.len false) [.ar a b c n] H = some (.int .i64 n, H)) ∧ (∀ (s : Option Nat) (t : List UInt8) (H : Heap), apply s (.len true) [.str t] H = some (.int .i64 t.length, H)) ∧
    (∀ (s : Option Nat) (v : V) (vs : List V) (H : Heap), apply s (.kst v) vs H = some (v, H)) ∧
    (∀ (s : Option Nat) (v : V) (vs : List V) (H : Heap), apply s .mx (v :: vs) H = (mxn (fun x y => decide (y > x)) v vs).map (·, H)) ∧ (∀ (s : Option Nat) (v : V) (vs : List V) (H : Heap), apply s .mn (v :: vs) H = (mxn (fun x y => decide (y < x)) v vs).map (·, H)) ∧
    (∀ le v, mxn le v [] = some v) ∧ (∀ le k j x y r, mxn le (.int k x) (.int j y :: r) = mxn le (.int k (if le x y then y else x)) r) ∧
    (∀ (s : Option Nat) (k j : IntKind) (n : Int) (H : Heap), apply s (.cvi k) [.int j n] H = some (.int k (k.wrap n), H)) ∧ (∀ (s : Option Nat) (t : List UInt8) (H : Heap), apply s .cvs [.str t] H = some (.str t, H)) ∧
    (∀ (s w : Option Nat) (n : Nat) (cs : List V) (H : Heap), apply s .b2s [.sl w n cs] H = if cs.length = n then (bytesOf cs).map fun t => (.str t, H) else none) ∧ (∀ (s : Option Nat) (t : List UInt8) (H : Heap), apply s .s2b [.str t] H = some (.sl (some 1) t.length (t.map fun c => .int .u8 c.toNat), H)) ∧
    (∀ (s : Option Nat) (t : TypeId) (v : V) (H : Heap), apply s (.mif t) [v] H = if v.noVia then some (.ifc t v, H) else none) ∧
    (∀ (s : Option Nat) (t u : TypeId) (v z : V) (H : Heap), apply s (.tas t true z) [.ifc u v] H = if u = t then some (.tup [v.dis2, .bool true], H) else some (.tup [z, .bool false], H)) ∧
    (∀ (s : Option Nat) (t u : TypeId) (v z : V) (H : Heap), apply s (.tas t false z) [.ifc u v] H = if u = t then some (v.dis, H) else none) ∧
    (∀ (s : Option Nat) (t : TypeId) (z : V) (H : Heap), apply s (.tas t true z) [.nili] H = some (.tup [z, .bool false], H)) ∧
    (∀ (s : Option Nat) (i : Nat) (vs : List V) (H : Heap), apply s (.ext i) [.tup vs] H = ((vs[i]?).bind V.ntup).map (·, H)) ∧
    (∀ (s : Option Nat) (f : FuncId) (vs : List V) (H : Heap), apply s (.mkf f) vs H = if vs.all V.single then some (.fn f vs, H) else none) ∧
    (∀ (s : Option Nat) (z y : Nat) (zero : List V) (k j : IntKind) (l c : Int) (H : Heap), apply s (.mks z y zero) [.int k l, .int j c] H = if 0 ≤ l ∧ l ≤ c ∧ y * c ≤ 140737488355328 ∧ c < 9223372036854775808 then some (.ar z H.length 0 l.toNat, H ++ [reps zero l.toNat]) else none) := by
  refine ⟨fun _ _ _ _ => rfl, ?_, ?_, ?_, ?_, ?_, ?_, ?_, fun _ => rfl, fun _ _ _ => rfl, fun _ _ _ => rfl, fun _ _ _ _ _ => rfl, fun _ _ _ _ _ _ => rfl, fun _ _ _ _ _ _ _ _ _ => rfl, fun _ _ _ _ _ _ _ _ => rfl, ?_, fun _ _ _ _ _ => rfl, fun _ _ _ _ _ _ => rfl, fun _ _ => rfl,
    fun _ _ _ _ _ => rfl, fun _ _ _ _ _ _ => rfl, fun _ _ _ => rfl, fun _ _ _ _ => rfl, fun _ _ _ _ => rfl, fun _ _ _ _ => rfl, fun _ _ => rfl, fun _ _ _ _ _ _ => rfl, fun _ _ _ _ _ => rfl, fun _ _ _ => rfl, ?_, fun _ _ _ => rfl, ?_, ?_, ?_, fun _ _ _ _ => rfl, fun _ _ _ _ => rfl, fun _ _ _ _ => rfl, fun _ _ _ _ _ _ _ _ _ => rfl⟩
  · intro s o n cs H; show (aFld o (some n) [.agg cs]).map (·, H) = _; simp only [aFld]; split <;> rfl
  · intro s t k i H; show (aIxs [.str t, .int k i]).map (·, H) = _; simp only [aIxs]; split <;> first | rfl | (simp only [Option.map_map]; rfl)
  · intro s z len cs k i H; show (aIxv z true len [.agg cs, .int k i]).map (·, H) = _; simp only [aIxv]; split <;> first | rfl | (simp only [if_true]; rfl)
  · intro s z len cs k i H; show (aIxv z false len [.agg cs, .int k i]).map (·, H) = _; simp only [aIxv]; split <;> first | rfl | (simp only [Bool.false_eq_true, if_false]; split <;> rfl)
  · intro s z lo hi w n cs bs H; show (aSlc z lo hi (.sl w n cs :: bs)).map (·, H) = _; simp only [aSlc]; cases cutOf lo hi n bs <;> first | rfl | (simp only [Option.bind_some]; split <;> rfl)
  · intro s z lo hi y id off n bs H; show (aSlc z lo hi (.ar y id off n :: bs)).map (·, H) = _; simp only [aSlc]; cases cutOf lo hi n bs <;> first | rfl | (simp only [Option.bind_some]; split <;> rfl)
  · intro s lo hi t bs H; show (aSls lo hi (.str t :: bs)).map (·, H) = _; simp only [aSls, Option.map_map]; rfl
  · intro z y n cs b H; simp only [appendTo, true_and]
  · intro s w n cs H; show (aB2s [.sl w n cs]).map (·, H) = _; simp only [aB2s]; split <;> first | rfl | (simp only [Option.map_map]; rfl)
  · intro s t v H; show (aMif t [v]).map (·, H) = _; simp only [aMif]; split <;> rfl
  · intro s t u v z H; show (aTas t true z [.ifc u v]).map (·, H) = _; simp only [aTas]; split <;> rfl
  · intro s t u v z H; show (aTas t false z [.ifc u v]).map (·, H) = _; simp only [aTas]; split <;> rfl

/-- Which operations write. -/
theorem EVW : (∀ a, O.writes (.bin a) = false) ∧ (∀ a, O.writes (.beq a) = false) ∧ (∀ a, O.writes (.peq a) = false) ∧ (∀ a, O.writes (.ieq a) = false) ∧ (∀ a, O.writes (.un a) = false) ∧ (∀ a, O.writes (.fa a) = false) ∧ (∀ a, O.writes (.ix a) = false) ∧ (∀ a b, O.writes (.ixa a b) = false) ∧ (O.writes .ld = false) ∧ (∀ a, O.writes (.ldn a) = false) ∧ (O.writes .lv = false) ∧
    (O.writes .st = true) ∧ (∀ a, O.writes (.stn a) = true) ∧ (O.writes .nc = false) ∧ (∀ a, O.writes (.box a) = false) ∧ (∀ a, O.writes (.bfp a) = false) ∧ (∀ a, O.writes (.alc a) = false) ∧ (∀ a b, O.writes (.bld a b) = false) ∧ (∀ a b c d, O.writes (.bsl a b c d) = false) ∧ (∀ a b, O.writes (.fld a b) = false) ∧ (O.writes .ixs = false) ∧ (∀ a b c, O.writes (.ixv a b c) = false) ∧
    (∀ a b c, O.writes (.slc a b c) = false) ∧ (∀ a b, O.writes (.sls a b) = false) ∧ (∀ a b, O.writes (.app a b) = false) ∧ (∀ a b, O.writes (.apv a b) = true) ∧ (∀ a, O.writes (.len a) = false) ∧ (∀ a, O.writes (.kst a) = false) ∧ (O.writes .mx = false) ∧ (O.writes .mn = false) ∧ (∀ a, O.writes (.cvi a) = false) ∧ (O.writes .cvs = false) ∧ (O.writes .b2s = false) ∧ (O.writes .s2b = false) ∧ (∀ a, O.writes (.mif a) = false) ∧
    (∀ a b c, O.writes (.tas a b c) = false) ∧ (∀ a b c, O.writes (.tai a b c) = false) ∧ (∀ a, O.writes (.ext a) = false) ∧ (∀ a, O.writes (.mkf a) = false) ∧ (∀ a b c, O.writes (.mks a b c) = false) :=
  ⟨fun _ => rfl, fun _ => rfl, fun _ => rfl, fun _ => rfl, fun _ => rfl, fun _ => rfl, fun _ => rfl, fun _ _ => rfl, rfl, fun _ => rfl, rfl, rfl, fun _ => rfl, rfl, fun _ => rfl, fun _ => rfl, fun _ => rfl, fun _ _ => rfl, fun _ _ _ _ => rfl, fun _ _ => rfl, rfl, fun _ _ _ => rfl, fun _ _ _ => rfl, fun _ _ => rfl, fun _ _ => rfl, fun _ _ => rfl, fun _ => rfl, fun _ => rfl, rfl, rfl, fun _ => rfl, rfl, rfl, rfl, fun _ => rfl, fun _ _ _ => rfl, fun _ _ _ => rfl, fun _ => rfl, fun _ => rfl, fun _ _ _ => rfl⟩

/-! ### Heaps -/
theorem hget_eq {H : Heap} {id o : Nat} {cs : List V} (h : H[id]? = some cs) : hget H id o = cs[o]? := by unfold hget; rw [h]; rfl
theorem hcells_eq {H : Heap} {id o n : Nat} {cs : List V} (h : H[id]? = some cs) : hcells H id o n = if o + n ≤ cs.length then some ((cs.drop o).take n) else none := by unfold hcells; rw [h]; rfl
theorem hset_eq {H : Heap} {id o : Nat} {cs : List V} {v : V} (h : H[id]? = some cs) : hset H id o v = H.set id (cs.set o v) := by unfold hset; rw [h]; rfl
theorem EVH : (∀ (H : Heap) (L : List (List V)), (H ++ L)[H.length]? = L[0]?) ∧ (∀ (H : Heap) (L : List (List V)) (k : Nat), (H ++ L)[H.length + k]? = L[k]?) ∧ (∀ (H : Heap) (L : List (List V)) (c : List V), (H ++ L).set H.length c = H ++ L.set 0 c) ∧ (∀ (H : Heap) (L : List (List V)) (k : Nat) (c : List V), (H ++ L).set (H.length + k) c = H ++ L.set k c) ∧
    (∀ (H : Heap) (L M : List (List V)), (H ++ L) ++ M = H ++ (L ++ M)) ∧ (∀ (H : Heap) (L : List (List V)), (H ++ L).take H.length = H) := by
  refine ⟨fun H L => ?_, fun H L k => ?_, fun H L c => ?_, fun H L k c => ?_, fun H L M => List.append_assoc .., fun H L => List.take_left ..⟩
  · rw [List.getElem?_append_right (Nat.le_refl _), Nat.sub_self]
  · rw [List.getElem?_append_right (by omega), Nat.add_sub_cancel_left]
  · rw [List.set_append_right _ _ (Nat.le_refl _), Nat.sub_self]
  · rw [List.set_append_right _ _ (by omega), Nat.add_sub_cancel_left]
end Go.Abs
