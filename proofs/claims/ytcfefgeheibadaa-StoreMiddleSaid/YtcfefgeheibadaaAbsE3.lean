/-
  Equations by which the machine's operations are reckoned.
-/
import Derived.Test.YtcfefgeheibadaaAbsE2
namespace Go.Abs

/-- Numbers. -/
theorem EVB : (∀ (s : Option Nat) (op : BinOp) (x y : V) (H : Heap), apply s (.bin op) [x, y] H = (bin op x y).map (·, H)) ∧
    (∀ (k : IntKind) (a b : Int), bin .add (.int k a) (.int k b) = some (.int k (k.wrap (a + b)))) ∧ (∀ (k : IntKind) (a b : Int), bin .sub (.int k a) (.int k b) = some (.int k (k.wrap (a - b)))) ∧ (∀ (k : IntKind) (a b : Int), bin .mul (.int k a) (.int k b) = some (.int k (k.wrap (a * b)))) ∧
    (∀ (k : IntKind) (a b : Int), bin .quo (.int k a) (.int k b) = if b = 0 then none else some (.int k (k.wrap (a.tdiv b)))) ∧ (∀ (k : IntKind) (a b : Int), bin .rem (.int k a) (.int k b) = if b = 0 then none else some (.int k (a.tmod b))) ∧
    (∀ (k : IntKind) (a b : Int), bin .eql (.int k a) (.int k b) = some (.bool (a == b))) ∧ (∀ (k : IntKind) (a b : Int), bin .neq (.int k a) (.int k b) = some (.bool (a != b))) ∧
    (∀ (k : IntKind) (a b : Int), bin .lss (.int k a) (.int k b) = some (.bool (decide (a < b)))) ∧ (∀ (k : IntKind) (a b : Int), bin .leq (.int k a) (.int k b) = some (.bool (decide (a ≤ b)))) ∧
    (∀ (k : IntKind) (a b : Int), bin .gtr (.int k a) (.int k b) = some (.bool (decide (b < a)))) ∧ (∀ (k : IntKind) (a b : Int), bin .geq (.int k a) (.int k b) = some (.bool (decide (b ≤ a)))) ∧
    (∀ (k : IntKind) (a b : Int), bin .and (.int k a) (.int k b) = bits .and k a b) ∧ (∀ (k : IntKind) (a b : Int), bin .or (.int k a) (.int k b) = bits .or k a b) ∧ (∀ (k : IntKind) (a b : Int), bin .xor (.int k a) (.int k b) = bits .xor k a b) ∧ (∀ (k : IntKind) (a b : Int), bin .andNot (.int k a) (.int k b) = bits .andNot k a b) ∧
    (∀ (k j : IntKind) (a b : Int), bin .shl (.int k a) (.int j b) = if b < 0 then none else some (.int k (k.wrap (a * 2 ^ (min b.toNat k.bits))))) ∧ (∀ (k j : IntKind) (a b : Int), bin .shr (.int k a) (.int j b) = if b < 0 then none else some (.int k (a.fdiv (2 ^ (min b.toNat k.bits))))) ∧
    (∀ a b : List UInt8, bin .eql (.str a) (.str b) = some (.bool (a == b))) ∧ (∀ a b : List UInt8, bin .neq (.str a) (.str b) = some (.bool !(a == b))) ∧
    (∀ a b : List UInt8, bin .add (.str a) (.str b) = if ((a.length + b.length : Nat) : Int) > 9223372036854775807 then none else some (.str (a ++ b))) ∧
    (∀ (s : Option Nat) (n a b : Bool) (H : Heap), apply s (.beq n) [.bool a, .bool b] H = some (.bool (n != (a == b)), H)) ∧
    (∀ (s : Option Nat) (n : Bool) (x y : V) (H : Heap), apply s (.peq n) [x, y] H = ((nilEq (isNilP x) (isNilP y)).map fun b => V.bool (n != b)).map (·, H)) ∧
    (∀ (s : Option Nat) (n : Bool) (x y : V) (H : Heap), apply s (.ieq n) [x, y] H = ((nilEq (isNilI x) (isNilI y)).map fun b => V.bool (n != b)).map (·, H)) ∧
    (isNilP .nilp = some true) ∧ (∀ i o, isNilP (.ptr i o) = some false) ∧ (∀ c i, isNilP (.fp c i) = some false) ∧ (isNilI .nili = some true) ∧ (∀ t v, isNilI (.ifc t v) = some false) ∧
    (∀ b, nilEq (some true) (some b) = some b) ∧ (nilEq (some false) (some true) = some false) ∧
    (∀ (s : Option Nat) (op : UnOp) (x : V) (H : Heap), apply s (.un op) [x] H = (un op x).map (·, H)) ∧ (∀ b, un .not (.bool b) = some (.bool !b)) ∧ (∀ (k : IntKind) (n : Int), un .neg (.int k n) = some (.int k (k.wrap (0 - n)))) ∧
    (∀ (k : IntKind) (n : Int), un .xor (.int k n) = bits .xor k (if k.signed then -1 else k.max) n) := by
  refine ⟨fun _ _ _ _ _ => rfl, ?_, ?_, ?_, ?_, ?_, ?_, ?_, ?_, ?_, ?_, ?_, ?_, ?_, ?_, ?_, fun _ _ _ _ => rfl, fun _ _ _ _ => rfl, fun _ _ => rfl, fun _ _ => rfl, fun _ _ => rfl, fun _ _ _ _ _ => rfl, fun _ _ _ _ _ => rfl, fun _ _ _ _ _ => rfl,
    rfl, fun _ _ => rfl, fun _ _ => rfl, rfl, fun _ _ => rfl, fun b => ?_, rfl, fun _ _ _ _ => rfl, fun _ => rfl, fun _ _ => rfl, fun _ _ => rfl⟩
  all_goals first | (intro k a b; simp only [bin, if_true, iop]; done) | (intro k a b; simp only [bin, if_true, iop, gt_iff_lt, ge_iff_le]; done) | (cases b <;> rfl)

/-- Addresses, loads, stores. -/
theorem EVA : (∀ (s : Option Nat) (f id o : Nat) (H : Heap), apply s (.fa f) [.ptr id o] H = some (.ptr id (o + f), H)) ∧ (∀ (s : Option Nat) (f : Nat) (c : List V) (o : Nat) (H : Heap), apply s (.fa f) [.fp c o] H = some (.fp c (o + f), H)) ∧
    (∀ (s : Option Nat) (z : Nat) (w : Option Nat) (n : Nat) (c : List V) (k : IntKind) (i : Int) (H : Heap), apply s (.ix z) [.sl w n c, .int k i] H = if 0 ≤ i ∧ i < (n : Int) then some (.fp c (i.toNat * z), H) else none) ∧
    (∀ (s : Option Nat) (z y id off n r : Nat) (k : IntKind) (i : Int) (H : Heap), apply s (.ix z) [.ar y id off n r, .int k i] H = if 0 ≤ i ∧ i < (n : Int) then some (.ptr id (off + i.toNat * z), H) else none) ∧
    (∀ (s : Option Nat) (z len id o : Nat) (k : IntKind) (i : Int) (H : Heap), apply s (.ixa z len) [.ptr id o, .int k i] H = if 0 ≤ i ∧ i < (len : Int) then some (.ptr id (o + i.toNat * z), H) else none) ∧
    (∀ (s : Option Nat) (z len o : Nat) (c : List V) (k : IntKind) (i : Int) (H : Heap), apply s (.ixa z len) [.fp c o, .int k i] H = if 0 ≤ i ∧ i < (len : Int) then some (.fp c (o + i.toNat * z), H) else none) ∧
    (∀ (s : Option Nat) (id o : Nat) (H : Heap), apply s .ld [.ptr id o] H = (hget H id o).map fun v => (v.dis1, H)) ∧ (∀ (s : Option Nat) (c : List V) (i : Nat) (H : Heap), apply s .ld [.fp c i] H = (c[i]?).map fun v => (v.dis1, H)) ∧
    (∀ (s : Option Nat) (n id o : Nat) (H : Heap), apply s (.ldn n) [.ptr id o] H = (hcells H id o n).map fun cs => (.agg (cs.map V.dis1), H)) ∧ (∀ (s : Option Nat) (n : Nat) (c : List V) (i : Nat) (H : Heap), apply s (.ldn n) [.fp c i] H = if i + n ≤ c.length then some (.agg (((c.drop i).take n).map V.dis1), H) else none) ∧
    (∀ (s : Option Nat) (id o : Nat) (H : Heap), apply s .lv [.ptr id o] H = (hget H id o).map fun v => (viaOf id o v, H)) ∧ (∀ (s : Option Nat) (c : List V) (i : Nat) (H : Heap), apply s .lv [.fp c i] H = (c[i]?).map fun v => (v.dis1, H)) ∧
    (∀ (i o z n : Nat) (c : List V), viaOf i o (.sl (some z) n c) = .via i o n c) ∧ (∀ (i o n : Nat) (c : List V), viaOf i o (.sl none n c) = .sl none n c) ∧
    (∀ (s : Option Nat) (id o : Nat) (v : V) (H : Heap), apply s .st [.ptr id o, v] H = if v.single && (hget H id o).isSome && mayW s id (v.rb ·) then some (.tup [], hset H id o v) else none) ∧
    (∀ (s : Option Nat) (n id o : Nat) (xs : List V) (H : Heap), apply s (.stn n) [.ptr id o, .agg xs] H = if xs.length = n && (hcells H id o n).isSome && mayW s id (V.rbL · xs) then some (.tup [], H.set id (lay ((H[id]?).getD []) o xs)) else none) ∧
    (∀ id (ok : Nat → Bool), mayW none id ok = true) ∧ (∀ l id (ok : Nat → Bool), mayW (some l) id ok = decide (l ≤ id)) ∧
    (∀ (s : Option Nat) (id o : Nat) (H : Heap), apply s .nc [.ptr id o] H = some (.ptr id o, H)) ∧ (∀ (s : Option Nat) (c : List V) (o : Nat) (H : Heap), apply s .nc [.fp c o] H = some (.fp c o, H)) ∧
    (∀ (s : Option Nat) (n : Nat) (v : V) (H : Heap), apply s (.box n) [v] H = if v.boxy && v.cells.length == n then some (.ptr H.length 0, H ++ [v.cells]) else none) ∧
    (∀ (s : Option Nat) (n : Nat) (v : V) (H : Heap), apply s (.bfp n) [v] H = if v.boxy && v.cells.length == n then some (.fp (v.cells.map V.dis1) 0, H) else none) ∧
    (∀ (s : Option Nat) (z : List V) (H : Heap), apply s (.alc z) [] H = some (.ptr H.length 0, H ++ [z])) ∧
    (∀ (s : Option Nat) (z : List V) (ps : List (Nat × Nat)) (vs : List V) (H : Heap), apply s (.bld z ps) vs H = (fillV z ps vs).map fun cs => (.agg cs, H)) ∧
    (∀ (s : Option Nat) (sz : Nat) (z : List V) (len : Nat) (offs : List Nat) (vs : List V) (H : Heap), apply s (.bsl sz z len offs) vs H = if len * sz ≤ 16777216 then (fillV (reps z len) (offs.map (·, sz)) vs).map fun cs => (.sl (some sz) len (cs.map V.dis1), H) else none) ∧
    (∀ cs, fillV cs [] [] = some cs) ∧ (∀ cs o z ps v vs, fillV cs ((o, z) :: ps) (v :: vs) = if v.boxy ∧ v.cells.length = z ∧ o + z ≤ cs.length then fillV (lay cs o v.cells) ps vs else none) ∧
    (∀ z, reps z 0 = []) ∧ (∀ z n, reps z (n + 1) = z ++ reps z n) := by
  refine ⟨fun _ _ _ _ _ => rfl, fun _ _ _ _ _ => rfl, ?_, ?_, ?_, ?_, ?_, ?_, ?_, ?_, ?_, ?_, fun _ _ _ _ _ => rfl, fun _ _ _ _ => rfl, fun _ _ _ _ _ => rfl, fun _ _ _ _ _ _ => rfl, fun _ _ => rfl, fun _ _ _ => rfl, fun _ _ _ _ => rfl, fun _ _ _ _ => rfl, fun _ _ _ _ => rfl, ?_, fun _ _ _ => rfl, fun _ _ _ _ _ => rfl, fun _ _ _ _ _ _ _ => rfl,
    fun _ => rfl, fun _ _ _ _ _ _ => rfl, fun _ => rfl, fun _ _ => rfl⟩
  · intro s z w n c k i H; show (aIx z [.sl w n c, .int k i]).map (·, H) = _; simp only [aIx]; split <;> rfl
  · intro s z y id off n r k i H; show (aIx z [.ar y id off n r, .int k i]).map (·, H) = _; simp only [aIx]; split <;> rfl
  · intro s z len id o k i H; show (aIxa z len [.ptr id o, .int k i]).map (·, H) = _; simp only [aIxa]; split <;> rfl
  · intro s z len o c k i H; show (aIxa z len [.fp c o, .int k i]).map (·, H) = _; simp only [aIxa]; split <;> rfl
  · intro s id o H; show (aLd H [.ptr id o]).map (·, H) = _; simp only [aLd, Option.map_map]; rfl
  · intro s c i H; show (aLd H [.fp c i]).map (·, H) = _; simp only [aLd, Option.map_map]; rfl
  · intro s n id o H; show (aLdn n H [.ptr id o]).map (·, H) = _; simp only [aLdn, Option.map_map]; rfl
  · intro s n c i H; show (aLdn n H [.fp c i]).map (·, H) = _; simp only [aLdn]; split <;> rfl
  · intro s id o H; show (aLv H [.ptr id o]).map (·, H) = _; simp only [aLv, Option.map_map]; rfl
  · intro s c i H; show (aLv H [.fp c i]).map (·, H) = _; simp only [aLv, Option.map_map]; rfl
  · intro s n v H; show (aBfp n [v]).map (·, H) = _; simp only [aBfp]; split <;> rfl

/-- Parts of values. -/
theorem EVP : (∀ (s : Option Nat) (o : Nat) (cs : List V) (H : Heap), apply s (.fld o none) [.agg cs] H = ((cs[o]?).bind V.ntup).map (·, H)) ∧
    (∀ (s : Option Nat) (o n : Nat) (cs : List V) (H : Heap), apply s (.fld o (some n)) [.agg cs] H = if o + n ≤ cs.length then some (.agg ((cs.drop o).take n), H) else none) := by
  refine ⟨fun _ _ _ _ => rfl, ?_⟩
  intro s o n cs H; show (aFld o (some n) [.agg cs]).map (·, H) = _; simp only [aFld]; split <;> rfl

/-! ### Heaps -/
theorem hget_eq {H : Heap} {id o : Nat} {cs : List V} (h : H[id]? = some cs) : hget H id o = cs[o]? := by unfold hget; rw [h]; rfl
theorem hcells_eq {H : Heap} {id o n : Nat} {cs : List V} (h : H[id]? = some cs) : hcells H id o n = if o + n ≤ cs.length then some ((cs.drop o).take n) else none := by unfold hcells; rw [h]; rfl
theorem hset_eq {H : Heap} {id o : Nat} {cs : List V} {v : V} (h : H[id]? = some cs) : hset H id o v = H.set id (cs.set o v) := by unfold hset; rw [h]; rfl
end Go.Abs
