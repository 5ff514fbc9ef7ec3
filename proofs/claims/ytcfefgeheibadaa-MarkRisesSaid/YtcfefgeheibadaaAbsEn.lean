/-
  Data as the machine has it: things of so many cells each, lists of them, and how cells are read as data again.
-/
import Derived.Test.YtcfefgeheibadaaAbsE4
import Derived.IntWalk
namespace Go.Abs

/-- Things of so many cells each. -/
class Cel (α : Type) where
  n : Nat
  enc : α → List V
  len : ∀ x, (enc x).length = n
  rb : ∀ m x, V.rbL m (enc x) = true
  dis : ∀ x, (enc x).map V.dis1 = enc x
def enL {α : Type} [Cel α] (l : List α) : List V := l.flatMap Cel.enc
/-- Its cells, spelt out. -/
class Expl {α : Type} [Cel α] (x : α) (cs : outParam (List V)) : Prop where eq : Cel.enc x = cs
/-- Cells read as data. -/
class FoldL (α : Type) [Cel α] (cs : List V) (xs : outParam (List α)) : Prop where eq : cs = enL xs

theorem enL_nil {α : Type} [Cel α] : enL ([] : List α) = [] := rfl
theorem enL_cons {α : Type} [Cel α] (x : α) (l : List α) : enL (x :: l) = Cel.enc x ++ enL l := by unfold enL; rw [List.flatMap_cons]
theorem enL_app {α : Type} [Cel α] (l k : List α) : enL (l ++ k) = enL l ++ enL k := by unfold enL; rw [List.flatMap_append]
theorem enL_len {α : Type} [Cel α] : ∀ l : List α, (enL l).length = l.length * Cel.n α
  | [] => by rw [enL_nil, List.length_nil, List.length_nil, Nat.zero_mul]
  | x :: l => by rw [enL_cons, List.length_append, Cel.len, enL_len l, List.length_cons, Nat.succ_mul, Nat.add_comm]
theorem enL_lz {α : Type} [Cel α] {z : Nat} (l : List α) (h : Cel.n α = z) : (enL l).length = l.length * z := by rw [enL_len, h]
theorem enL_l1 {α : Type} [Cel α] (l : List α) (h : Cel.n α = 1) : (enL l).length = l.length := by rw [enL_len, h, Nat.mul_one]
theorem enL_rb {α : Type} [Cel α] (m : Nat) : ∀ l : List α, V.rbL m (enL l) = true
  | [] => rb_nil
  | x :: l => by rw [enL_cons]; exact rb_app (Cel.rb m x) (enL_rb m l)
theorem enL_dis {α : Type} [Cel α] (l : List α) : (enL l).map V.dis1 = enL l := by
  unfold enL; rw [List.map_flatMap]; congr 1; funext x; exact Cel.dis x
theorem enL_drop {α : Type} [Cel α] : ∀ (l : List α) (i : Nat), (enL l).drop (i * Cel.n α) = enL (l.drop i)
  | l, 0 => by rw [Nat.zero_mul, List.drop_zero, List.drop_zero]
  | [], i + 1 => by rw [enL_nil, List.drop_nil, List.drop_nil, enL_nil]
  | x :: l, i + 1 => by
    rw [enL_cons, Nat.succ_mul, Nat.add_comm, ← Cel.len x, List.drop_length_add_append, Cel.len x, enL_drop l i, List.drop_succ_cons]
theorem enL_take {α : Type} [Cel α] : ∀ (l : List α) (i : Nat), (enL l).take (i * Cel.n α) = enL (l.take i)
  | l, 0 => by rw [Nat.zero_mul, List.take_zero, List.take_zero, enL_nil]
  | [], i + 1 => by rw [enL_nil, List.take_nil, List.take_nil, enL_nil]
  | x :: l, i + 1 => by
    rw [enL_cons, Nat.succ_mul, Nat.add_comm, ← Cel.len x, List.take_length_add_append, Cel.len x, enL_take l i, List.take_succ_cons, enL_cons]
theorem enL_piece {α : Type} [Cel α] {l : List α} {i : Nat} {x : α} (h : l[i]? = some x) : ((enL l).drop (i * Cel.n α)).take (Cel.n α) = Cel.enc x := by
  rw [enL_drop]
  obtain ⟨hl, hx⟩ := List.getElem?_eq_some_iff.1 h
  rw [List.drop_eq_getElem_cons hl, hx, enL_cons, ← Cel.len x, List.take_left]
theorem enL_ldn {α : Type} [Cel α] {l : List α} {i z : Nat} {x : α} {cs : List V} (h : l[i]? = some x) (hz : Cel.n α = z) (he : Expl x cs) : ((enL l).drop (i * z)).take z = cs := by
  subst hz; rw [enL_piece h, he.eq]
theorem enL_ldn1 {α : Type} [Cel α] {l : List α} {i : Nat} {x : α} {cs : List V} (h : l[i]? = some x) (hz : Cel.n α = 1) (he : Expl x cs) : ((enL l).drop i).take 1 = cs := by
  have := enL_ldn h hz he; rwa [Nat.mul_one] at this
/-- Some cells of one of them. -/
theorem enL_sub {α : Type} [Cel α] {l : List α} {i z o m : Nat} {x : α} {cs ds : List V} (h : l[i]? = some x) (hz : Cel.n α = z) (he : Expl x cs) (hm : Nat.ble (o + m) z = true) (hd : (cs.drop o).take m = ds) : ((enL l).drop (i * z + o)).take m = ds := by
  have hm := Nat.le_of_ble_eq_true hm
  subst hz
  rw [← List.drop_drop, ← hd, ← he.eq, ← enL_piece h, List.drop_take, List.take_take, Nat.min_eq_left (by omega)]
theorem enL_get {α : Type} [Cel α] {l : List α} {i z j : Nat} {x : α} {cs : List V} {v : V} (h : l[i]? = some x) (hz : Cel.n α = z) (he : Expl x cs) (hj : cs[j]? = some v) : (enL l)[i * z + j]? = some v := by
  subst hz
  have hl : j < Cel.n α := by rw [← Cel.len x, he.eq]; exact (List.getElem?_eq_some_iff.1 hj).1
  rw [← hj, ← he.eq, ← enL_piece h, List.getElem?_take, if_pos hl, List.getElem?_drop]
theorem enL_get0 {α : Type} [Cel α] {l : List α} {i z : Nat} {x : α} {cs : List V} {v : V} (h : l[i]? = some x) (hz : Cel.n α = z) (he : Expl x cs) (hj : cs[0]? = some v) : (enL l)[i * z]? = some v := enL_get h hz he hj
theorem enL_get1 {α : Type} [Cel α] {l : List α} {i : Nat} {x : α} {cs : List V} {v : V} (h : l[i]? = some x) (hz : Cel.n α = 1) (he : Expl x cs) (hj : cs[0]? = some v) : (enL l)[i]? = some v := by
  have := enL_get0 h hz he hj; rwa [Nat.mul_one] at this

instance {α : Type} [Cel α] (l : List α) : DisL (enL l) (enL l) := ⟨enL_dis l⟩
instance (priority := high) {α : Type} [Cel α] (l : List α) : FoldL α (enL l) l := ⟨rfl⟩
instance {α : Type} [Cel α] : FoldL α [] [] := ⟨rfl⟩

/-! ### Numbers, bytes, bools, strings, lists -/
instance : Cel Int := ⟨1, fun x => [.int .i64 x], fun _ => rfl, fun _ _ => rb_cons rb_int rb_nil, fun _ => rfl⟩
instance (x : Int) : Expl x [.int .i64 x] := ⟨rfl⟩
instance {a : Int} {r : List V} {xs : List Int} [h : FoldL Int r xs] : FoldL Int (.int .i64 a :: r) (a :: xs) := ⟨by rw [enL_cons, ← h.eq]; rfl⟩
instance : Cel UInt8 := ⟨1, fun x => [.int .u8 (x.toNat : Int)], fun _ => rfl, fun _ _ => rb_cons rb_int rb_nil, fun _ => rfl⟩
instance (x : UInt8) : Expl x [.int .u8 (x.toNat : Int)] := ⟨rfl⟩
instance (priority := high) {a : UInt8} {r : List V} {xs : List UInt8} [h : FoldL UInt8 r xs] : FoldL UInt8 (.int .u8 (a.toNat : Int) :: r) (a :: xs) := ⟨by rw [enL_cons, ← h.eq]; rfl⟩
/-- The byte that a number comes to. -/
def b8 (n : Int) : UInt8 := UInt8.ofNat (IntKind.u8.wrap n).toNat
theorem b8_nat (n : Int) : ((b8 n).toNat : Int) = IntKind.u8.wrap n := by
  have h : 0 ≤ IntKind.u8.wrap n ∧ IntKind.u8.wrap n < 256 := by rw [IntKind.wrap_u8]; omega
  unfold b8
  rw [UInt8.toNat_ofNat']; omega
instance {a : Int} {r : List V} {xs : List UInt8} [h : FoldL UInt8 r xs] : FoldL UInt8 (.int .u8 (IntKind.u8.wrap a) :: r) (b8 a :: xs) := ⟨by
  rw [enL_cons, ← h.eq]; show _ = [V.int .u8 ((b8 a).toNat : Int)] ++ r; rw [b8_nat]; rfl⟩
instance : Cel Bool := ⟨1, fun x => [.bool x], fun _ => rfl, fun _ _ => rb_cons rb_bool rb_nil, fun _ => rfl⟩
instance (x : Bool) : Expl x [.bool x] := ⟨rfl⟩
instance {a : Bool} {r : List V} {xs : List Bool} [h : FoldL Bool r xs] : FoldL Bool (.bool a :: r) (a :: xs) := ⟨by rw [enL_cons, ← h.eq]; rfl⟩
/-- A string (a list of bytes is a slice). -/
structure Str where
  data : List UInt8
instance : Cel Str := ⟨1, fun x => [.str x.data], fun _ => rfl, fun _ _ => rb_cons rb_str rb_nil, fun _ => rfl⟩
instance (x : Str) : Expl x [.str x.data] := ⟨rfl⟩
instance {a : List UInt8} {r : List V} {xs : List Str} [h : FoldL Str r xs] : FoldL Str (.str a :: r) (⟨a⟩ :: xs) := ⟨by rw [enL_cons, ← h.eq]; rfl⟩
instance {α : Type} [Cel α] : Cel (List α) := ⟨1, fun l => [.sl none l.length (enL l)], fun _ => rfl, fun m l => rb_cons (rb_sl (enL_rb m l)) rb_nil, fun _ => rfl⟩
instance {α : Type} [Cel α] (l : List α) : Expl l [.sl none l.length (enL l)] := ⟨rfl⟩
instance {α : Type} [Cel α] {a : List α} {r : List V} {xs : List (List α)} [h : FoldL (List α) r xs] : FoldL (List α) (.sl none a.length (enL a) :: r) (a :: xs) := ⟨by rw [enL_cons, ← h.eq]; rfl⟩
instance {α : Type} [Cel α] {r : List V} {xs : List (List α)} [h : FoldL (List α) r xs] : FoldL (List α) (.sl none 0 [] :: r) ([] :: xs) := ⟨by rw [enL_cons, ← h.eq]; rfl⟩

/-- A slice read as data. -/
class LenIs {α : Type} (xs : List α) (k : Nat) : Prop where eq : k = xs.length
instance {α : Type} : LenIs ([] : List α) 0 := ⟨rfl⟩
instance {α : Type} {x : α} {xs : List α} {k : Nat} [h : LenIs xs k] : LenIs (x :: xs) (k + 1) := ⟨by rw [h.eq]; rfl⟩
class SlL (α : Type) [Cel α] (v : V) (xs : outParam (List α)) : Prop where eq : v = .sl none xs.length (enL xs)
instance (priority := high) {α : Type} [Cel α] {a : List α} : SlL α (.sl none a.length (enL a)) a := ⟨rfl⟩
instance {α : Type} [Cel α] : SlL α (.sl none 0 []) [] := ⟨rfl⟩
instance (priority := low) {α : Type} [Cel α] {k : Nat} {cs : List V} {a : List α} [h : FoldL α cs a] [l : LenIs a k] : SlL α (.sl none k cs) a := ⟨by rw [h.eq, l.eq]⟩

theorem bytes_en : ∀ b : List UInt8, bytesOf (enL b) = some b
  | [] => rfl
  | c :: b => by
    have ih := bytes_en b
    rw [enL_cons]
    show bytesOf (V.int .u8 (c.toNat : Int) :: enL b) = _
    simp [bytesOf, ih]

/-- Appending what reads as data to what reads as data. -/
theorem a_appS {s : Option Nat} {H : Heap} {α : Type} [Cel α] {z y m : Nat} {w : Option Nat} {l xs : List α} {ds : List V} (hf : FoldL α ds xs) (hz : Cel.n α = z) (hd : ds.length = m * z) (hp : Nat.beq z 0 = false) (hr : (l.length + xs.length) * y ≤ room) :
    apply s (.app z y) [.sl (some z) l.length (enL l), .sl w m ds] H = some (.sl (some z) (l ++ xs).length (enL (l ++ xs)), H) := by
  have hz0 : z ≠ 0 := fun k => by subst k; cases hp
  have e : m = xs.length := by
    have := hd; rw [hf.eq, enL_len, hz] at this
    exact (Nat.eq_of_mul_eq_mul_right (Nat.pos_of_ne_zero hz0) this).symm
  subst e
  rw [a_app (by rw [enL_len, hz]) hd hr rfl, hf.eq, ← enL_app, List.length_append]
theorem a_apvS {s : Option Nat} {H : Heap} {α : Type} [Cel α] {z y m id off : Nat} {w : Option Nat} {l xs : List α} {ds os ps : List V} {H' : Heap} (h : H[id]? = some os) (ho : os[off]? = some (.sl (some z) l.length (enL l))) (hm : mayW s id (fun _ => true) = true) (hs : os.set off (.sl none l.length (enL l)) = ps) (hH : H.set id ps = H')
    (hf : FoldL α ds xs) (hz : Cel.n α = z) (hd : ds.length = m * z) (hp : Nat.beq z 0 = false) (hr : (l.length + xs.length) * y ≤ room) {n0 : Nat} {c0 : List V} :
    apply s (.apv z y) [.via id off n0 c0, .sl w m ds] H = some (.sl (some z) (l ++ xs).length (enL (l ++ xs)), H') := by
  have hz0 : z ≠ 0 := fun k => by subst k; cases hp
  have e : m = xs.length := by
    have := hd; rw [hf.eq, enL_len, hz] at this
    exact (Nat.eq_of_mul_eq_mul_right (Nat.pos_of_ne_zero hz0) this).symm
  subst e
  rw [a_apv h ho hm hs hH (by rw [enL_len, hz]) hd hr rfl, hf.eq, ← enL_app, List.length_append]

/-! ### More operations -/
section
variable {s : Option Nat} {H : Heap}
theorem a_quo {k : IntKind} {a b : Int} (h : b ≠ 0) : apply s (.bin .quo) [.int k a, .int k b] H = some (.int k (k.wrap (a.tdiv b)), H) := by
  simp only [EVB, if_neg h, Option.map_some]
theorem a_rem {k : IntKind} {a b : Int} (h : b ≠ 0) : apply s (.bin .rem) [.int k a, .int k b] H = some (.int k (a.tmod b), H) := by
  simp only [EVB, if_neg h, Option.map_some]
theorem a_shl {k j : IntKind} {a b : Int} (h : 0 ≤ b) : apply s (.bin .shl) [.int k a, .int j b] H = some (.int k (k.wrap (a * 2 ^ (min b.toNat k.bits))), H) := by
  simp only [EVB, if_neg (Int.not_lt.2 h), Option.map_some]
theorem a_shr {k j : IntKind} {a b : Int} (h : 0 ≤ b) : apply s (.bin .shr) [.int k a, .int j b] H = some (.int k (a.fdiv (2 ^ (min b.toNat k.bits))), H) := by
  simp only [EVB, if_neg (Int.not_lt.2 h), Option.map_some]
theorem a_band {k : IntKind} {a b : Int} : apply s (.bin .and) [.int k a, .int k b] H = some (.int k (k.wrap (BitVec.ofInt k.bits a &&& BitVec.ofInt k.bits b).toNat), H) := by
  simp only [EVB, bits, Option.map_some]
theorem a_bor {k : IntKind} {a b : Int} : apply s (.bin .or) [.int k a, .int k b] H = some (.int k (k.wrap (BitVec.ofInt k.bits a ||| BitVec.ofInt k.bits b).toNat), H) := by
  simp only [EVB, bits, Option.map_some]
theorem a_bxor {k : IntKind} {a b : Int} : apply s (.bin .xor) [.int k a, .int k b] H = some (.int k (k.wrap (BitVec.ofInt k.bits a ^^^ BitVec.ofInt k.bits b).toNat), H) := by
  simp only [EVB, bits, Option.map_some]
theorem a_neg {k : IntKind} {a : Int} : apply s (.un .neg) [.int k a] H = some (.int k (k.wrap (0 - a)), H) := by
  simp only [EVB, Option.map_some]
theorem a_sadd {a b : List UInt8} (h : ((a.length + b.length : Nat) : Int) ≤ 9223372036854775807) : apply s (.bin .add) [.str a, .str b] H = some (.str (a ++ b), H) := by
  simp only [EVB, if_neg (Int.not_lt.2 h), Option.map_some]
theorem a_b2sS {w : Option Nat} {l : List UInt8} : apply s .b2s [.sl w l.length (enL l)] H = some (.str l, H) := a_b2s (enL_l1 l rfl) (bytes_en l)
theorem a_s2b {l : List UInt8} : apply s .s2b [.str l] H = some (.sl (some 1) l.length (enL l), H) := by
  have : (l.map fun c => V.int .u8 (c.toNat : Int)) = enL l := by
    unfold enL; induction l with
    | nil => rfl
    | cons c l ih => rw [List.map_cons, List.flatMap_cons, ih]; rfl
  simp only [apply, aS2b, Option.map_some, this]
theorem a_cvs {l : List UInt8} : apply s .cvs [.str l] H = some (.str l, H) := rfl
theorem a_ixs {t : List UInt8} {i : Int} {k : IntKind} {c : UInt8} (h0 : 0 ≤ i) (h : t[i.toNat]? = some c) : apply s .ixs [.str t, .int k i] H = some (.int .u8 (c.toNat : Int), H) := by
  simp only [apply, aIxs, if_pos h0, h, Option.map_some]
theorem a_ixafp {z len o p : Nat} {i : Int} {k : IntKind} {c : List V} (h0 : 0 ≤ i) (h : i < (len : Int)) (hp : o + i.toNat * z = p) : apply s (.ixa z len) [.fp c o, .int k i] H = some (.fp c p, H) := by
  rw [← hp, EVA.2.2.2.2.2.1, if_pos ⟨h0, h⟩]
theorem a_ixar {z y n id off p : Nat} {i : Int} {k : IntKind} (h0 : 0 ≤ i) (h : i < (n : Int)) (hp : off + i.toNat * z = p) : apply s (.ix z) [.ar y id off n, .int k i] H = some (.ptr id p, H) := by
  rw [← hp, EVA.2.2.2.1, if_pos ⟨h0, h⟩]
end

/-! ### Loops -/
theorem wrap_succ {i : Nat} (h : (i : Int) < 9223372036854775807) : IntKind.i64.wrap ((i : Int) + 1) = ((i + 1 : Nat) : Int) := by
  rw [IntWalk.i64_in _ (by omega)]; omega
/-- A loop that counts up. -/
theorem lp_up {β σ : Type} {T : Tab} {s : Option Nat} {c : C} {κ : Out → Option β} {Y : Option β} (n : Nat) (E : Nat → σ → Env) (H : Nat → σ → Heap) (P : Nat → σ → Prop)
    (step : ∀ i t, i < n → P i t → (∀ t', P (i + 1) t' → R T s (.loop c) (E (i + 1) t') (H (i + 1) t') κ = Y) → R T s (.loop c) (E i t) (H i t) κ = Y)
    (fin : ∀ t, P n t → R T s (.loop c) (E n t) (H n t) κ = Y) (t : σ) (h : P 0 t) {e0 : Env} {H0 : Heap} (he : E 0 t = e0 := by first | rfl | (simp only [enL_nil, List.length_nil]; rfl)) (hH : H 0 t = H0 := by first | rfl | (simp only [enL_nil, List.length_nil]; rfl)) : R T s (.loop c) e0 H0 κ = Y := by
  subst he hH
  have : ∀ k i t, i + k = n → P i t → R T s (.loop c) (E i t) (H i t) κ = Y := by
    intro k
    induction k with
    | zero => intro i t hi hp; obtain rfl : i = n := by omega
              exact fin t hp
    | succ k ih => intro i t hi hp; exact step i t (by omega) hp fun t' h' => ih (i + 1) t' (by omega) h'
  exact this n 0 t (by omega) h
end Go.Abs
