/-
  Data as the machine has it: things of so many cells each, lists of them, and how cells are read as data again.
-/
import Derived.Test.YtcfefgeheibadaaAbsE4
import Derived.IntWalk
namespace Go.Abs

/-- Things of so many cells each. -/
class Cel (α : Type) where
  n : Nat
  enc : α → List V
  len : ∀ x, (enc x).length = n
  rb : ∀ m x, V.rbL m (enc x) = true
  dis : ∀ x, (enc x).map V.dis1 = enc x
def enL {α : Type} [Cel α] (l : List α) : List V := l.flatMap Cel.enc
/-- Its cells, spelt out. -/
class Expl {α : Type} [Cel α] (x : α) (cs : outParam (List V)) : Prop where eq : Cel.enc x = cs
/-- Cells read as data. -/
class FoldL (α : Type) [Cel α] (cs : List V) (xs : outParam (List α)) : Prop where eq : cs = enL xs

theorem enL_nil {α : Type} [Cel α] : enL ([] : List α) = [] := rfl
theorem enL_cons {α : Type} [Cel α] (x : α) (l : List α) : enL (x :: l) = Cel.enc x ++ enL l := by unfold enL; rw [List.flatMap_cons]
theorem enL_app {α : Type} [Cel α] (l k : List α) : enL (l ++ k) = enL l ++ enL k := by unfold enL; rw [List.flatMap_append]
theorem enL_len {α : Type} [Cel α] : ∀ l : List α, (enL l).length = l.length * Cel.n α
  | [] => by rw [enL_nil, List.length_nil, List.length_nil, Nat.zero_mul]
  | x :: l => by rw [enL_cons, List.length_append, Cel.len, enL_len l, List.length_cons, Nat.succ_mul, Nat.add_comm]
theorem enL_lz {α : Type} [Cel α] {z : Nat} (l : List α) (h : Cel.n α = z) : (enL l).length = l.length * z := by rw [enL_len, h]
theorem enL_l1 {α : Type} [Cel α] (l : List α) (h : Cel.n α = 1) : (enL l).length = l.length := by rw [enL_len, h, Nat.mul_one]
theorem enL_rb {α : Type} [Cel α] (m : Nat) : ∀ l : List α, V.rbL m (enL l) = true
  | [] => rb_nil
  | x :: l => by rw [enL_cons]; exact rb_app (Cel.rb m x) (enL_rb m l)
theorem enL_dis {α : Type} [Cel α] (l : List α) : (enL l).map V.dis1 = enL l := by
  unfold enL; rw [List.map_flatMap]; congr 1; funext x; exact Cel.dis x
theorem enL_drop {α : Type} [Cel α] : ∀ (l : List α) (i : Nat), (enL l).drop (i * Cel.n α) = enL (l.drop i)
  | l, 0 => by rw [Nat.zero_mul, List.drop_zero, List.drop_zero]
  | [], i + 1 => by rw [enL_nil, List.drop_nil, List.drop_nil, enL_nil]
  | x :: l, i + 1 => by
    rw [enL_cons, Nat.succ_mul, Nat.add_comm, ← Cel.len x, List.drop_length_add_append, Cel.len x, enL_drop l i, List.drop_succ_cons]
theorem enL_take {α : Type} [Cel α] : ∀ (l : List α) (i : Nat), (enL l).take (i * Cel.n α) = enL (l.take i)
  | l, 0 => by rw [Nat.zero_mul, List.take_zero, List.take_zero, enL_nil]
  | [], i + 1 => by rw [enL_nil, List.take_nil, List.take_nil, enL_nil]
  | x :: l, i + 1 => by
    rw [enL_cons, Nat.succ_mul, Nat.add_comm, ← Cel.len x, List.take_length_add_append, Cel.len x, enL_take l i, List.take_succ_cons, enL_cons]
theorem enL_piece {α : Type} [Cel α] {l : List α} {i : Nat} {x : α} (h : l[i]? = some x) : ((enL l).drop (i * Cel.n α)).take (Cel.n α) = Cel.enc x := by
  rw [enL_drop]
  obtain ⟨hl, hx⟩ := List.getElem?_eq_some_iff.1 h
  rw [List.drop_eq_getElem_cons hl, hx, enL_cons, ← Cel.len x, List.take_left]
theorem enL_ldn {α : Type} [Cel α] {l : List α} {i z : Nat} {x : α} {cs : List V} (h : l[i]? = some x) (hz : Cel.n α = z) (he : Expl x cs) : ((enL l).drop (i * z)).take z = cs := by
  subst hz; rw [enL_piece h, he.eq]
theorem enL_ldn1 {α : Type} [Cel α] {l : List α} {i : Nat} {x : α} {cs : List V} (h : l[i]? = some x) (hz : Cel.n α = 1) (he : Expl x cs) : ((enL l).drop i).take 1 = cs := by
  have := enL_ldn h hz he; rwa [Nat.mul_one] at this
/-- Some cells of one of them. -/
theorem enL_sub {α : Type} [Cel α] {l : List α} {i z o m : Nat} {x : α} {cs ds : List V} (h : l[i]? = some x) (hz : Cel.n α = z) (he : Expl x cs) (hm : Nat.ble (o + m) z = true) (hd : (cs.drop o).take m = ds) : ((enL l).drop (i * z + o)).take m = ds := by
  have hm := Nat.le_of_ble_eq_true hm
  subst hz
  rw [← List.drop_drop, ← hd, ← he.eq, ← enL_piece h, List.drop_take, List.take_take, Nat.min_eq_left (by omega)]
theorem enL_get {α : Type} [Cel α] {l : List α} {i z j : Nat} {x : α} {cs : List V} {v : V} (h : l[i]? = some x) (hz : Cel.n α = z) (he : Expl x cs) (hj : cs[j]? = some v) : (enL l)[i * z + j]? = some v := by
  subst hz
  have hl : j < Cel.n α := by rw [← Cel.len x, he.eq]; exact (List.getElem?_eq_some_iff.1 hj).1
  rw [← hj, ← he.eq, ← enL_piece h, List.getElem?_take, if_pos hl, List.getElem?_drop]
theorem enL_get0 {α : Type} [Cel α] {l : List α} {i z : Nat} {x : α} {cs : List V} {v : V} (h : l[i]? = some x) (hz : Cel.n α = z) (he : Expl x cs) (hj : cs[0]? = some v) : (enL l)[i * z]? = some v := enL_get h hz he hj
theorem enL_get1 {α : Type} [Cel α] {l : List α} {i : Nat} {x : α} {cs : List V} {v : V} (h : l[i]? = some x) (hz : Cel.n α = 1) (he : Expl x cs) (hj : cs[0]? = some v) : (enL l)[i]? = some v := by
  have := enL_get0 h hz he hj; rwa [Nat.mul_one] at this

instance {α : Type} [Cel α] (l : List α) : DisL (enL l) (enL l) := ⟨enL_dis l⟩
instance (priority := high) {α : Type} [Cel α] (l : List α) : FoldL α (enL l) l := ⟨rfl⟩
instance {α : Type} [Cel α] : FoldL α [] [] := ⟨rfl⟩

/-! ### Numbers, bytes, bools, strings, lists -/
instance : Cel Int := ⟨1, fun x => [.int .i64 x], fun _ => rfl, fun _ _ => rb_cons rb_int rb_nil, fun _ => rfl⟩
instance (x : Int) : Expl x [.int .i64 x] := ⟨rfl⟩
instance {a : Int} {r : List V} {xs : List Int} [h : FoldL Int r xs] : FoldL Int (.int .i64 a :: r) (a :: xs) := ⟨by rw [enL_cons, ← h.eq]; rfl⟩
instance : Cel UInt8 := ⟨1, fun x => [.int .u8 (x.toNat : Int)], fun _ => rfl, fun _ _ => rb_cons rb_int rb_nil, fun _ => rfl⟩
instance (x : UInt8) : Expl x [.int .u8 (x.toNat : Int)] := ⟨rfl⟩
instance (priority := high) {a : UInt8} {r : List V} {xs : List UInt8} [h : FoldL UInt8 r xs] : FoldL UInt8 (.int .u8 (a.toNat : Int) :: r) (a :: xs) := ⟨by rw [enL_cons, ← h.eq]; rfl⟩
/-- The byte that a number comes to. -/
def b8 (n : Int) : UInt8 := UInt8.ofNat (IntKind.u8.wrap n).toNat
theorem b8_nat (n : Int) : ((b8 n).toNat : Int) = IntKind.u8.wrap n := by
  have h : 0 ≤ IntKind.u8.wrap n ∧ IntKind.u8.wrap n < 256 := by rw [IntKind.wrap_u8]; omega
  unfold b8
  rw [UInt8.toNat_ofNat']; omega
instance {a : Int} {r : List V} {xs : List UInt8} [h : FoldL UInt8 r xs] : FoldL UInt8 (.int .u8 (IntKind.u8.wrap a) :: r) (b8 a :: xs) := ⟨by
  rw [enL_cons, ← h.eq]; show _ = [V.int .u8 ((b8 a).toNat : Int)] ++ r; rw [b8_nat]; rfl⟩
instance : Cel Bool := ⟨1, fun x => [.bool x], fun _ => rfl, fun _ _ => rb_cons rb_bool rb_nil, fun _ => rfl⟩
instance (x : Bool) : Expl x [.bool x] := ⟨rfl⟩
instance {a : Bool} {r : List V} {xs : List Bool} [h : FoldL Bool r xs] : FoldL Bool (.bool a :: r) (a :: xs) := ⟨by rw [enL_cons, ← h.eq]; rfl⟩
/-- A string (a list of bytes is a slice). -/
structure Str where
  data : List UInt8
instance : Cel Str := ⟨1, fun x => [.str x.data], fun _ => rfl, fun _ _ => rb_cons rb_str rb_nil, fun _ => rfl⟩
instance (x : Str) : Expl x [.str x.data] := ⟨rfl⟩
instance {a : List UInt8} {r : List V} {xs : List Str} [h : FoldL Str r xs] : FoldL Str (.str a :: r) (⟨a⟩ :: xs) := ⟨by rw [enL_cons, ← h.eq]; rfl⟩
instance {α : Type} [Cel α] : Cel (List α) := ⟨1, fun l => [.sl none l.length (enL l)], fun _ => rfl, fun m l => rb_cons (rb_sl (enL_rb m l)) rb_nil, fun _ => rfl⟩
instance {α : Type} [Cel α] (l : List α) : Expl l [.sl none l.length (enL l)] := ⟨rfl⟩
instance {α : Type} [Cel α] {a : List α} {r : List V} {xs : List (List α)} [h : FoldL (List α) r xs] : FoldL (List α) (.sl none a.length (enL a) :: r) (a :: xs) := ⟨by rw [enL_cons, ← h.eq]; rfl⟩
instance {α : Type} [Cel α] {r : List V} {xs : List (List α)} [h : FoldL (List α) r xs] : FoldL (List α) (.sl none 0 [] :: r) ([] :: xs) := ⟨by rw [enL_cons, ← h.eq]; rfl⟩

/-- A slice read as data. -/
class LenIs {α : Type} (xs : List α) (k : Nat) : Prop where eq : k = xs.length
instance {α : Type} : LenIs ([] : List α) 0 := ⟨rfl⟩
instance {α : Type} {x : α} {xs : List α} {k : Nat} [h : LenIs xs k] : LenIs (x :: xs) (k + 1) := ⟨by rw [h.eq]; rfl⟩
class SlL (α : Type) [Cel α] (v : V) (xs : outParam (List α)) : Prop where eq : v = .sl none xs.length (enL xs)
instance (priority := high) {α : Type} [Cel α] {a : List α} : SlL α (.sl none a.length (enL a)) a := ⟨rfl⟩
instance {α : Type} [Cel α] : SlL α (.sl none 0 []) [] := ⟨rfl⟩
instance (priority := low) {α : Type} [Cel α] {k : Nat} {cs : List V} {a : List α} [h : FoldL α cs a] [l : LenIs a k] : SlL α (.sl none k cs) a := ⟨by rw [h.eq, l.eq]⟩

theorem bytes_en : ∀ b : List UInt8, bytesOf (enL b) = some b
  | [] => rfl
  | c :: b => by
    have ih := bytes_en b
    rw [enL_cons]
    show bytesOf (V.int .u8 (c.toNat : Int) :: enL b) = _
    simp [bytesOf, ih]

/-- Appending what reads as data to what reads as data. -/
theorem a_appS {s : Option Nat} {H : Heap} {α : Type} [Cel α] {z y m : Nat} {w : Option Nat} {l xs : List α} {ds : List V} (hf : FoldL α ds xs) (hz : Cel.n α = z) (hd : ds.length = m * z) (hp : Nat.beq z 0 = false) (hr : (l.length + xs.length) * y ≤ room) :
    apply s (.app z y) [.sl (some z) l.length (enL l), .sl w m ds] H = some (.sl (some z) (l ++ xs).length (enL (l ++ xs)), H) := by
  have hz0 : z ≠ 0 := fun k => by subst k; cases hp
  have e : m = xs.length := by
    have := hd; rw [hf.eq, enL_len, hz] at this
    exact (Nat.eq_of_mul_eq_mul_right (Nat.pos_of_ne_zero hz0) this).symm
  subst e
  rw [a_app (by rw [enL_len, hz]) hd hr rfl, hf.eq, ← enL_app, List.length_append]
theorem a_apvS {s : Option Nat} {H : Heap} {α : Type} [Cel α] {z y m id off : Nat} {w : Option Nat} {l xs : List α} {ds os ps : List V} {H' : Heap} (h : H[id]? = some os) (ho : os[off]? = some (.sl (some z) l.length (enL l))) (hm : mayW s id (fun _ => true) = true) (hs : os.set off (.sl none l.length (enL l)) = ps) (hH : H.set id ps = H')
    (hf : FoldL α ds xs) (hz : Cel.n α = z) (hd : ds.length = m * z) (hp : Nat.beq z 0 = false) (hr : (l.length + xs.length) * y ≤ room) {n0 : Nat} {c0 : List V} :
    apply s (.apv z y) [.via id off n0 c0, .sl w m ds] H = some (.sl (some z) (l ++ xs).length (enL (l ++ xs)), H') := by
  have hz0 : z ≠ 0 := fun k => by subst k; cases hp
  have e : m = xs.length := by
    have := hd; rw [hf.eq, enL_len, hz] at this
    exact (Nat.eq_of_mul_eq_mul_right (Nat.pos_of_ne_zero hz0) this).symm
  subst e
  rw [a_apv h ho hm hs hH (by rw [enL_len, hz]) hd hr rfl, hf.eq, ← enL_app, List.length_append]

/-! ### More operations -/
section
variable {s : Option Nat} {H : Heap}
theorem a_quo {k : IntKind} {a b : Int} (h : b ≠ 0) : apply s (.bin .quo) [.int k a, .int k b] H = some (.int k (k.wrap (a.tdiv b)), H) := by
  simp only [EVB, if_neg h, Option.map_some]
theorem a_rem {k : IntKind} {a b : Int} (h : b ≠ 0) : apply s (.bin .rem) [.int k a, .int k b] H = some (.int k (a.tmod b), H) := by
  simp only [EVB, if_neg h, Option.map_some]
theorem a_shl {k j : IntKind} {a b : Int} (h : 0 ≤ b) : apply s (.bin .shl) [.int k a, .int j b] H = some (.int k (k.wrap (a * 2 ^ (min b.toNat k.bits))), H) := by
  simp only [EVB, if_neg (Int.not_lt.2 h), Option.map_some]
theorem a_shr {k j : IntKind} {a b : Int} (h : 0 ≤ b) : apply s (.bin .shr) [.int k a, .int j b] H = some (.int k (a.fdiv (2 ^ (min b.toNat k.bits))), H) := by
  simp only [EVB, if_neg (Int.not_lt.2 h), Option.map_some]
theorem a_band {k : IntKind} {a b : Int} : apply s (.bin .and) [.int k a, .int k b] H = some (.int k (k.wrap (BitVec.ofInt k.bits a &&& BitVec.ofInt k.bits b).toNat), H) := by
  simp only [EVB, bits, Option.map_some]
theorem a_bor {k : IntKind} {a b : Int} : apply s (.bin .or) [.int k a, .int k b] H = some (.int k (k.wrap (BitVec.ofInt k.bits a ||| BitVec.ofInt k.bits b).toNat), H) := by
  simp only [EVB, bits, Option.map_some]
theorem a_bxor {k : IntKind} {a b : Int} : apply s (.bin .xor) [.int k a, .int k b] H = some (.int k (k.wrap (BitVec.ofInt k.bits a ^^^ BitVec.ofInt k.bits b).toNat), H) := by
  simp only [EVB, bits, Option.map_some]
theorem a_neg {k : IntKind} {a : Int} : apply s (.un .neg) [.int k a] H = some (.int k (k.wrap (0 - a)), H) := by
  simp only [EVB, Option.map_some]
theorem a_sadd {a b : List UInt8} (h : ((a.length + b.length : Nat) : Int) ≤ 9223372036854775807) : apply s (.bin .add) [.str a, .str b] H = some (.str (a ++ b), H) := by
  simp only [EVB, if_neg (Int.not_lt.2 h), Option.map_some]
theorem a_b2sS {w : Option Nat} {l : List UInt8} : apply s .b2s [.sl w l.length (enL l)] H = some (.str l, H) := a_b2s (enL_l1 l rfl) (bytes_en l)
theorem a_s2b {l : List UInt8} : apply s .s2b [.str l] H = some (.sl (some 1) l.length (enL l), H) := by
  have : (l.map fun c => V.int .u8 (c.toNat : Int)) = enL l := by
    unfold enL; induction l with
    | nil => rfl
    | cons c l ih => rw [List.map_cons, List.flatMap_cons, ih]; rfl
  simp only [apply, aS2b, Option.map_some, this]
theorem a_cvs {l : List UInt8} : apply s .cvs [.str l] H = some (.str l, H) := rfl
theorem a_ixs {t : List UInt8} {i : Int} {k : IntKind} {c : UInt8} (h0 : 0 ≤ i) (h : t[i.toNat]? = some c) : apply s .ixs [.str t, .int k i] H = some (.int .u8 (c.toNat : Int), H) := by
  simp only [apply, aIxs, if_pos h0, h, Option.map_some]
theorem a_ixafp {z len o p : Nat} {i : Int} {k : IntKind} {c : List V} (h0 : 0 ≤ i) (h : i < (len : Int)) (hp : o + i.toNat * z = p) : apply s (.ixa z len) [.fp c o, .int k i] H = some (.fp c p, H) := by
  rw [← hp, EVA.2.2.2.2.2.1, if_pos ⟨h0, h⟩]
theorem a_ixar {z y n id off r p : Nat} {i : Int} {k : IntKind} (h0 : 0 ≤ i) (h : i < (n : Int)) (hp : off + i.toNat * z = p) : apply s (.ix z) [.ar y id off n r, .int k i] H = some (.ptr id p, H) := by
  rw [← hp, EVA.2.2.2.1, if_pos ⟨h0, h⟩]
end

/-! ### Pieces of slices -/
section
variable {s : Option Nat} {H : Heap} {α : Type} [Cel α]
theorem a_slhiS {l : List α} {z : Nat} {h : Int} {j : IntKind} (hz : Cel.n α = z) (h0 : 0 ≤ h) (h1 : h ≤ (l.length : Int)) : apply s (.slc z false true) [.sl none l.length (enL l), .int j h] H = some (.sl none (l.take h.toNat).length (enL (l.take h.toNat)), H) := by
  subst hz
  have e : h.toNat ≤ l.length := by omega
  have e1 : cutOf false true l.length [.int j h] = some (0, h.toNat) := by show (if _ then _ else _) = _; rw [if_pos ⟨h0, h1⟩]
  have e2 : (if (h.toNat = l.length ∧ (none : Option Nat) = some (Cel.n α)) then (none : Option Nat) else none) = none := by split <;> rfl
  show ((cutOf false true l.length [.int j h]).bind _).map _ = _
  rw [e1, Option.bind_some]
  show (if (enL l).length = l.length * Cel.n α then some (V.sl _ _ _) else none).map _ = _
  rw [if_pos (enL_len l), e2, Nat.zero_mul, List.drop_zero, Nat.sub_zero, enL_take, List.length_take, Nat.min_eq_left e]
  rfl
theorem a_slloS {o : Option Nat} {l : List α} {z : Nat} {h : Int} {j : IntKind} (hz : Cel.n α = z) (h0 : 0 ≤ h) (h1 : h ≤ (l.length : Int)) (ho : o = none ∨ o = some z) : apply s (.slc z true false) [.sl o l.length (enL l), .int j h] H = some (.sl o (l.drop h.toNat).length (enL (l.drop h.toNat)), H) := by
  subst hz
  have e : h.toNat ≤ l.length := by omega
  have e1 : cutOf true false l.length [.int j h] = some (h.toNat, l.length) := by show (if _ then _ else _) = _; rw [if_pos ⟨h0, h1⟩]
  have e2 : (if (l.length = l.length ∧ o = some (Cel.n α)) then o else none) = o := by
    rcases ho with rfl | rfl
    · split <;> rfl
    · rw [if_pos ⟨rfl, rfl⟩]
  have e3 : (enL (l.drop h.toNat)).length = (l.length - h.toNat) * Cel.n α := by rw [enL_len, List.length_drop]
  show ((cutOf true false l.length [.int j h]).bind _).map _ = _
  rw [e1, Option.bind_some]
  show (if (enL l).length = l.length * Cel.n α then some (V.sl _ _ _) else none).map _ = _
  rw [if_pos (enL_len l), e2, enL_drop, ← e3, List.take_length, List.length_drop]
  rfl
theorem a_slboS {l : List α} {z : Nat} {h k : Int} {i j : IntKind} (hz : Cel.n α = z) (h0 : 0 ≤ h) (h1 : h ≤ k) (h2 : k ≤ (l.length : Int)) : apply s (.slc z true true) [.sl none l.length (enL l), .int i h, .int j k] H = some (.sl none ((l.drop h.toNat).take (k.toNat - h.toNat)).length (enL ((l.drop h.toNat).take (k.toNat - h.toNat))), H) := by
  subst hz
  have e : k.toNat - h.toNat ≤ l.length - h.toNat := by omega
  have e1 : cutOf true true l.length [.int i h, .int j k] = some (h.toNat, k.toNat) := by show (if _ then _ else _) = _; rw [if_pos ⟨h0, h1, h2⟩]
  have e2 : (if (k.toNat = l.length ∧ (none : Option Nat) = some (Cel.n α)) then (none : Option Nat) else none) = none := by split <;> rfl
  show ((cutOf true true l.length [.int i h, .int j k]).bind _).map _ = _
  rw [e1, Option.bind_some]
  show (if (enL l).length = l.length * Cel.n α then some (V.sl _ _ _) else none).map _ = _
  rw [if_pos (enL_len l), e2, enL_drop, enL_take, List.length_take, List.length_drop, Nat.min_eq_left e]
  rfl
end

/-! ### Slices that are objects -/
section
variable {s : Option Nat} {H : Heap}
theorem a_apg0 {z y m : Nat} {w : Option Nat} {ds es : List V} (hm : m ≠ 0) (hd : ds.length = m * z) (hr : m * y ≤ room) (d : DisL ds es) :
    apply s (.apg z y) [.nls, .sl w m ds] H = some (.ar z H.length 0 m m, H ++ [es]) := by
  simp only [apply, aApg, tail, hd, if_true, Option.bind_some, hr, if_neg hm, d.eq]
theorem a_apgin {z y n m k id off : Nat} {x : V} {us es cs ds : List V} {H' : Heap} (h : H[id]? = some cs) (hm : mayW s id (fun _ => true) = true) (ht : tail z x H = some (m, us)) (d : DisL us es) (hk : n + m ≤ k) (hl : off + (n + m) * z ≤ cs.length)
    (hd : lay cs (off + n * z) es = ds) (hH : H.set id ds = H') : apply s (.apg z y) [.ar z id off n k, x] H = some (.ar z id off (n + m) k, H') := by
  simp only [apply, aApg, hm, and_self, if_true, h, Option.bind_some, ht, if_pos hk, if_pos hl, d.eq, hd, hH]
theorem a_apgnew {z y n m k id : Nat} {x : V} {us es cs ds : List V} {H' : Heap} (h : H[id]? = some cs) (hm : mayW s id (fun _ => true) = true) (ht : tail z x H = some (m, us)) (d : DisL us es) (hk : k < n + m) (hc : cs ≠ []) (hl : n * z ≤ cs.length) (hr : (n + m) * y ≤ room)
    (hd : cs.take (n * z) ++ es = ds) (hH : H.set id [] = H') : apply s (.apg z y) [.ar z id 0 n k, x] H = some (.ar z H.length 0 (n + m) (n + m), H' ++ [ds]) := by
  have hk' : ¬ n + m ≤ k := by omega
  simp only [apply, aApg, hm, and_self, if_true, h, Option.bind_some, ht, if_neg hk', d.eq, hd, hH]
  rw [if_pos ⟨trivial, hc, hl, hr⟩]
theorem tl_sl {z m : Nat} {w : Option Nat} {ds : List V} (hd : ds.length = m * z) : tail z (.sl w m ds) H = some (m, ds) := by simp only [tail, hd, if_true]
theorem tl_ar {z y m k id off : Nat} {cs ds es : List V} (h : H[id]? = some cs) (hl : off + m * z ≤ cs.length) (hc : (cs.drop off).take (m * z) = ds) (d : DisL ds es) : tail z (.ar y id off m k) H = some (m, es) := by
  simp only [tail, hcells_eq h, if_pos hl, Option.map_some, hc, d.eq]
theorem dis1_dis1 (v : V) : v.dis1.dis1 = v.dis1 := by cases v <;> rfl
theorem disL_twice {us es : List V} (d : DisL us es) : es.map V.dis1 = es := by
  rw [← d.eq, List.map_map]; congr 1; funext v; exact dis1_dis1 v
theorem tl_nls {z : Nat} : tail z .nls H = some (0, []) := rfl
theorem a_slhi {z n k id off : Nat} {h : Int} {j : IntKind} (h0 : 0 ≤ h) (h1 : h ≤ (k : Int)) : apply s (.slc z false true) [.ar z id off n k, .int j h] H = some (.ar z id off h.toNat k, H) := by
  simp only [apply, aSlc, cutOf, if_true, if_pos (And.intro h0 h1), Option.bind_some, or_true, Nat.zero_mul, Nat.add_zero, Nat.sub_zero, Option.map_some]
theorem a_sllo {z n k id off : Nat} {l : Int} {j : IntKind} (h0 : 0 ≤ l) (h1 : l ≤ (n : Int)) (hk : l.toNat < k ∨ l.toNat = 0) : apply s (.slc z true false) [.ar z id off n k, .int j l] H = some (.ar z id (off + l.toNat * z) (n - l.toNat) (k - l.toNat), H) := by
  simp only [apply, aSlc, cutOf, Bool.false_eq_true, if_false, if_true, if_pos (And.intro h0 h1), Option.bind_some, if_pos hk, Option.map_some]
theorem a_sllo0 {z n k id off : Nat} {l : Int} {j : IntKind} (h0 : 0 ≤ l) (h1 : l ≤ (n : Int)) (hk : ¬ (l.toNat < k ∨ l.toNat = 0)) : apply s (.slc z true false) [.ar z id off n k, .int j l] H = some (.sl none 0 [], H) := by
  simp only [apply, aSlc, cutOf, Bool.false_eq_true, if_false, if_true, if_pos (And.intro h0 h1), Option.bind_some, if_neg hk, Option.map_some]
theorem a_slboth {z n k id off : Nat} {l h : Int} {i j : IntKind} (h0 : 0 ≤ l) (h1 : l ≤ h) (h2 : h ≤ (k : Int)) (hk : l.toNat < k ∨ l.toNat = 0) : apply s (.slc z true true) [.ar z id off n k, .int i l, .int j h] H = some (.ar z id (off + l.toNat * z) (h.toNat - l.toNat) (k - l.toNat), H) := by
  simp only [apply, aSlc, cutOf, if_true, if_pos (And.intro h0 (And.intro h1 h2)), Option.bind_some, if_pos hk, Option.map_some]
theorem a_sl3 {z n k id off : Nat} {a b c : Int} {i j l : IntKind} (h0 : 0 ≤ a) (h1 : a ≤ b) (h2 : b ≤ c) (h3 : c ≤ (k : Int)) (hk : a < c ∨ a = 0) : apply s (.sl3 z) [.ar z id off n k, .int i a, .int j b, .int l c] H = some (.ar z id (off + a.toNat * z) (b.toNat - a.toNat) (c.toNat - a.toNat), H) := by
  simp only [apply, aSl3]
  rw [if_pos (by exact ⟨trivial, h0, h1, h2, h3⟩), if_pos hk]; rfl
theorem a_clr {z n k id off : Nat} {zero cs ds : List V} {H' : Heap} (h : H[id]? = some cs) (hm : mayW s id (fun _ => true) = true) (hl : off + n * z ≤ cs.length) (hd : lay cs off (reps zero n) = ds) (hH : H.set id ds = H') : apply s (.clr z zero) [.ar z id off n k] H = some (.tup [], H') := by
  simp only [apply, aClr, hm, and_self, if_true, h, Option.bind_some, if_pos hl, hd, hH]
end

/-! ### Loops -/
theorem wrap_succ {i : Nat} (h : (i : Int) < 9223372036854775807) : IntKind.i64.wrap ((i : Int) + 1) = ((i + 1 : Nat) : Int) := by
  rw [IntWalk.i64_in _ (by omega)]; omega
/-- A loop that counts up. -/
theorem lp_up {β σ : Type} {T : Tab} {s : Option Nat} {c : C} {κ : Out → Option β} {Y : Option β → Prop} (n : Nat) (E : Nat → σ → Env) (H : Nat → σ → Heap) (P : Nat → σ → Prop)
    (step : ∀ i t, i < n → P i t → (∀ t', P (i + 1) t' → Ev (R T s (.loop c) (E (i + 1) t') (H (i + 1) t') κ) Y) → Ev (R T s (.loop c) (E i t) (H i t) κ) Y)
    (fin : ∀ t, P n t → Ev (R T s (.loop c) (E n t) (H n t) κ) Y) (t : σ) (h : P 0 t) {e0 : Env} {H0 : Heap} (he : E 0 t = e0 := by first | rfl | (simp only [enL_nil, List.length_nil]; rfl)) (hH : H 0 t = H0 := by first | rfl | (simp only [enL_nil, List.length_nil]; rfl)) : Ev (R T s (.loop c) e0 H0 κ) Y := by
  subst he hH
  have : ∀ k i t, i + k = n → P i t → Ev (R T s (.loop c) (E i t) (H i t) κ) Y := by
    intro k
    induction k with
    | zero => intro i t hi hp; obtain rfl : i = n := by omega
              exact fin t hp
    | succ k ih => intro i t hi hp; exact step i t (by omega) hp fun t' h' => ih (i + 1) t' (by omega) h'
  exact this n 0 t (by omega) h
end Go.Abs
